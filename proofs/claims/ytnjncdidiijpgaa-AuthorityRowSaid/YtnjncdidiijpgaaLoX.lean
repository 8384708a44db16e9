/- Guards in regions that draw their order, said shortly. -/
import Derived.Test.YtnjncdidiijpgaaLoW
set_option linter.unusedVariables false
namespace Go.Lo
section
variable {P : Program} {E : Env0} {ops : Array Oper} {env : Nat → AV} {ob : Nat → OSt} {o : Oper} {j t d : Nat} {b : Bool}
theorem gN1 (hb : b = false) (hg : o.guard = some (j, true)) (ht : (ops[j]?).bind (·.dst) = some t) (hl : t < E.N) (he : env t = .v (.bool b)) (hd : o.dst = some d) (hdl : d < E.N) (hx : env d = .v undef) : Still P E ops env ob o := by
  unfold Still; rw [hg]
  exact ⟨t, .bool b, ht, hl, he, fun h => (by rw [hb] at h; cases h), fun _ => ⟨d, hd, hdl, .inr hx⟩⟩
theorem gN0 (hb : b = true) (hg : o.guard = some (j, false)) (ht : (ops[j]?).bind (·.dst) = some t) (hl : t < E.N) (he : env t = .v (.bool b)) (hd : o.dst = some d) (hdl : d < E.N) (hx : env d = .v undef) : Still P E ops env ob o := by
  unfold Still; rw [hg]
  exact ⟨t, .bool b, ht, hl, he, fun h => (by rw [hb] at h; cases h), fun _ => ⟨d, hd, hdl, .inr hx⟩⟩
theorem gY1 (hb : b = true) (hg : o.guard = some (j, true)) (ht : (ops[j]?).bind (·.dst) = some t) (hl : t < E.N) (he : env t = .v (.bool b)) (hs : StillOp P E ops env ob o) : Still P E ops env ob o := by
  unfold Still; rw [hg]
  exact ⟨t, .bool b, ht, hl, he, fun _ => hs, fun h => absurd (by rw [hb]; rfl) h⟩
theorem gY0 (hb : b = false) (hg : o.guard = some (j, false)) (ht : (ops[j]?).bind (·.dst) = some t) (hl : t < E.N) (he : env t = .v (.bool b)) (hs : StillOp P E ops env ob o) : Still P E ops env ob o := by
  unfold Still; rw [hg]
  exact ⟨t, .bool b, ht, hl, he, fun _ => hs, fun h => absurd (by rw [hb]; rfl) h⟩
end
section
variable {P : Program} {E : Env0} {st : St} {K : St → Prop} {ops : Array Oper} {o : Oper} {r : List Oper} {x : Operand} {d : Nat}
/-- A move, told shortly. -/
theorem mG (av : AV) (h : AOps P E ops r ⟨upd st.env d av, st.ob⟩ K) (hg : o.guard = none := by rfl) (ho : o.op = .move x ∨ o.op = .assign x := by first | exact .inl rfl | exact .inr rfl) (hd : o.dst = some d := by rfl) (hN : (okOp E.N x && Nat.blt d E.N) = true := by rfl) (hx : evA st.env x = av := by rfl) : AOps P E ops (o :: r) st K :=
  opG hg (aop_move ho hd hN hx h)
theorem fG {s : TypeId} {i t off sz : Nat} {av : AV} (av' : AV) (hf : fieldT P s i = some (t, off)) (hsz : (P.info? t).map (·.size) = some (sz + 1)) (h : AOps P E ops r ⟨upd st.env d av', st.ob⟩ K) (hg : o.guard = none := by rfl) (ho : o.op = .fieldAddr s x i := by rfl)
    (hd : o.dst = some d := by rfl) (hN : (okOp E.N x && Nat.blt d E.N) = true := by rfl) (hx : evA st.env x = av := by rfl) (hp : isPt av = true := by rfl) (ha : ptAdd av off = av' := by rfl) : AOps P E ops (o :: r) st K :=
  opG hg (aop_fieldAddr ho hd hN hf hsz hx hp ha h)
theorem bG {op : BinOp} {t t' : TypeId} {y : Operand} {k : IntKind} {a b : Int} (u : Value) (h : AOps P E ops r ⟨upd st.env d (.v u), st.ob⟩ K) (hg : o.guard = none := by rfl) (ho : o.op = .binOp op t x y t' := by rfl) (hd : o.dst = some d := by rfl)
    (hN : (okOp E.N x && okOp E.N y && Nat.blt d E.N) = true := by rfl) (hx : evA st.env x = .v (.int k a) := by rfl) (hy : evA st.env y = .v (.int k b) := by rfl) (hb : binOk op b := by trivial) (hu : binI k op a b = u := by rfl) : AOps P E ops (o :: r) st K :=
  opG hg (aop_binI ho hd hN hx hy hb hu h)
theorem nG {j t : Nat} {want b c : Bool} (hbc : b = c) (h : AOps P E ops r ⟨upd st.env d (.v undef), st.ob⟩ K) (hg : o.guard = some (j, want) := by rfl) (hj : (ops[j]?).bind (·.dst) = some t := by rfl) (ht : Nat.blt t E.N = true := by rfl) (he : st.env t = .v (.bool b) := by rfl)
    (hne : (c == want) = false := by rfl) (hd : o.dst = some d := by rfl) (hdN : Nat.blt d E.N = true := by rfl) : AOps P E ops (o :: r) st K :=
  opN hg hj ht he (by subst hbc; intro h; cases h; simp at hne) hd hdN h
end
end Go.Lo
