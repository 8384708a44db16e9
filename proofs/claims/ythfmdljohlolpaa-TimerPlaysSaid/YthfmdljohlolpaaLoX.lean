/- Guards in regions that draw their order, said shortly. -/
import Derived.Test.YthfmdljohlolpaaLoW
set_option linter.unusedVariables false
namespace Go.Lo
section
variable {P : Program} {E : Env0} {ops : Array Oper} {env : Nat → AV} {ob : Nat → OSt} {o : Oper} {j t d : Nat} {b : Bool}
theorem gN1 (hb : b = false) (hg : o.guard = some (j, true)) (ht : (ops[j]?).bind (·.dst) = some t) (hl : t < E.N) (he : env t = .v (.bool b)) (hd : o.dst = some d) (hdl : d < E.N) (hx : env d = .v undef) : Still P E ops env ob o := by
  unfold Still; rw [hg]
  exact ⟨t, .bool b, ht, hl, he, fun h => (by rw [hb] at h; cases h), fun _ => ⟨d, hd, hdl, .inr hx⟩⟩
theorem gN0 (hb : b = true) (hg : o.guard = some (j, false)) (ht : (ops[j]?).bind (·.dst) = some t) (hl : t < E.N) (he : env t = .v (.bool b)) (hd : o.dst = some d) (hdl : d < E.N) (hx : env d = .v undef) : Still P E ops env ob o := by
  unfold Still; rw [hg]
  exact ⟨t, .bool b, ht, hl, he, fun h => (by rw [hb] at h; cases h), fun _ => ⟨d, hd, hdl, .inr hx⟩⟩
theorem gY1 (hb : b = true) (hg : o.guard = some (j, true)) (ht : (ops[j]?).bind (·.dst) = some t) (hl : t < E.N) (he : env t = .v (.bool b)) (hs : StillOp P E ops env ob o) : Still P E ops env ob o := by
  unfold Still; rw [hg]
  exact ⟨t, .bool b, ht, hl, he, fun _ => hs, fun h => absurd (by rw [hb]; rfl) h⟩
theorem gY0 (hb : b = false) (hg : o.guard = some (j, false)) (ht : (ops[j]?).bind (·.dst) = some t) (hl : t < E.N) (he : env t = .v (.bool b)) (hs : StillOp P E ops env ob o) : Still P E ops env ob o := by
  unfold Still; rw [hg]
  exact ⟨t, .bool b, ht, hl, he, fun _ => hs, fun h => absurd (by rw [hb]; rfl) h⟩
end
section
variable {P : Program} {E : Env0} {st : St} {K : St → Prop} {ops : Array Oper} {o : Oper} {r : List Oper} {x : Operand} {d : Nat}
/-- A move, told shortly. -/
theorem mG (av : AV) (h : AOps P E ops r ⟨upd st.env d av, st.ob⟩ K) (hg : o.guard = none := by rfl) (ho : o.op = .move x ∨ o.op = .assign x := by first | exact .inl rfl | exact .inr rfl) (hd : o.dst = some d := by rfl) (hN : (okOp E.N x && Nat.blt d E.N) = true := by rfl) (hx : evA st.env x = av := by rfl) : AOps P E ops (o :: r) st K :=
  opG hg (aop_move ho hd hN hx h)
theorem fG {s : TypeId} {i t off sz : Nat} {av : AV} (av' : AV) (hf : fieldT P s i = some (t, off)) (hsz : (P.info? t).map (·.size) = some (sz + 1)) (h : AOps P E ops r ⟨upd st.env d av', st.ob⟩ K) (hg : o.guard = none := by rfl) (ho : o.op = .fieldAddr s x i := by rfl)
    (hd : o.dst = some d := by rfl) (hN : (okOp E.N x && Nat.blt d E.N) = true := by rfl) (hx : evA st.env x = av := by rfl) (hp : isPt av = true := by rfl) (ha : ptAdd av off = av' := by rfl) : AOps P E ops (o :: r) st K :=
  opG hg (aop_fieldAddr ho hd hN hf hsz hx hp ha h)
theorem bG {op : BinOp} {t t' : TypeId} {y : Operand} {k : IntKind} {a b : Int} (u : Value) (h : AOps P E ops r ⟨upd st.env d (.v u), st.ob⟩ K) (hg : o.guard = none := by rfl) (ho : o.op = .binOp op t x y t' := by rfl) (hd : o.dst = some d := by rfl)
    (hN : (okOp E.N x && okOp E.N y && Nat.blt d E.N) = true := by rfl) (hx : evA st.env x = .v (.int k a) := by rfl) (hy : evA st.env y = .v (.int k b) := by rfl) (hb : binOk op b := by trivial) (hu : binI k op a b = u := by rfl) : AOps P E ops (o :: r) st K :=
  opG hg (aop_binI ho hd hN hx hy hb hu h)
theorem nG {j t : Nat} {want b c : Bool} (hbc : b = c) (h : AOps P E ops r ⟨upd st.env d (.v undef), st.ob⟩ K) (hg : o.guard = some (j, want) := by rfl) (hj : (ops[j]?).bind (·.dst) = some t := by rfl) (ht : Nat.blt t E.N = true := by rfl) (he : st.env t = .v (.bool b) := by rfl)
    (hne : (c == want) = false := by rfl) (hd : o.dst = some d := by rfl) (hdN : Nat.blt d E.N = true := by rfl) : AOps P E ops (o :: r) st K :=
  opN hg hj ht he (by subst hbc; intro h; cases h; simp at hne) hd hdN h
end

/-! ### shorter still -/
section
variable {P : Program} {E : Env0} {st : St} {Q : Exit → St → Prop}
/-- The slots that are wanted from here on. -/
theorem rT {c : Code} (e' : Nat → AV) (o' : Nat → OSt) (h : AWP P E c ⟨e', o'⟩ Q) (he : ∀ t, e' t = .any ∨ e' t = st.env t := by repeat (first | exact ln | refine lu rfl ?_)) (ho : o' = st.ob := by rfl) : AWP P E c st Q := rs_ e' o' he ho h
theorem oY {K : St → Prop} {ops : Array Oper} {o : Oper} {r : List Oper} {j t : Nat} {want b : Bool} (hbc : b = want) (h : AOp P E o st fun s => AOps P E ops r s K) (hg : o.guard = some (j, want) := by rfl) (hj : (ops[j]?).bind (·.dst) = some t := by rfl) (ht : Nat.blt t E.N = true := by rfl) (he : st.env t = .v (.bool b) := by rfl) : AOps P E ops (o :: r) st K :=
  opY hg hj ht (by rw [he, hbc]) h
theorem iN {s : St} {e' : Nat → AV} (he : ∀ t, SlotR [] (s.env t) (e' t) := by repeat (first | exact sr_none | refine sS rfl ?_)) (hk : ∀ i, i < E.m → (i, i) ∈ ([] : List (Nat × Nat)) := by exact keep_of rfl) : Imp E s ⟨e', noOb⟩ := imp_ler [] (ler0 he) hk
theorem iI {s : St} {e' : Nat → AV} (x y : Nat) {o o' : LObj} (hl : s.ob x = .live o) (he : ∀ t, SlotR [(x, y)] (s.env t) (e' t) := by repeat (first | exact sr_none | refine sS rfl ?_ | refine sM rfl ?_)) (hoo : o' = o := by rfl) (hk : ∀ i, i < E.m → (i, i) ∈ [(x, y)] := by exact keep_of rfl) [hn : NoIL o.cells] : Imp E s ⟨e', updO noOb y (.live o')⟩ := imp_ler [(x, y)] (lerI x y hl hoo he) hk
theorem iJ {s : St} {e' : Nat → AV} (x y x2 y2 : Nat) {o o' o2 o2' : LObj} (hl : s.ob x = .live o) (hl2 : s.ob x2 = .live o2) (he : ∀ t, SlotR [(x, y), (x2, y2)] (s.env t) (e' t) := by repeat (first | exact sr_none | refine sS rfl ?_ | refine sM rfl ?_)) (hoo : o' = o := by rfl) (hoo2 : o2' = o2 := by rfl) (hx : x ≠ x2 := by decide) (hy : y ≠ y2 := by decide)
    (hk : ∀ i, i < E.m → (i, i) ∈ [(x, y), (x2, y2)] := by exact keep_of rfl) [hn : NoIL o.cells] [hn2 : NoIL o2.cells] : Imp E s ⟨e', updO (updO noOb y (.live o')) y2 (.live o2')⟩ := imp_ler [(x, y), (x2, y2)] (lerJ x y x2 y2 hx hy hl hl2 hoo hoo2 he) hk
theorem iL {s : St} {e' : Nat → AV} (ps : List (Nat × Nat)) (qs : List ((Nat × Nat) × OSt)) (hq : RowsOk ps s qs) (he : ∀ t, SlotR ps (s.env t) (e' t) := by repeat (first | exact sr_none | refine sS rfl ?_ | refine sM rfl ?_)) (hps : qs.map (·.1) = ps := by rfl) (hn1 : (ps.map (·.1)).Nodup := by decide) (hn2 : (ps.map (·.2)).Nodup := by decide)
    (hk : ∀ i, i < E.m → (i, i) ∈ ps := by exact keep_of rfl) : Imp E s ⟨e', mkOb qs noOb⟩ := imp_ler ps (lerL ps qs hps hn1 hn2 hq he) hk
end
section
variable {P : Program} {E : Env0} {ops : Array Oper} {env : Nat → AV} {ob : Nat → OSt} {o : Oper} {j t d : Nat} {b : Bool}
theorem gn1 (hb : b = false) (hg : o.guard = some (j, true) := by rfl) (ht : (ops[j]?).bind (·.dst) = some t := by rfl) (hl : Nat.blt t E.N = true := by rfl) (he : env t = .v (.bool b) := by rfl) (hd : o.dst = some d := by rfl) (hdl : Nat.blt d E.N = true := by rfl) (hx : env d = .v undef := by rfl) : Still P E ops env ob o := gN1 hb hg ht (blt_lt hl) he hd (blt_lt hdl) hx
theorem gn0 (hb : b = true) (hg : o.guard = some (j, false) := by rfl) (ht : (ops[j]?).bind (·.dst) = some t := by rfl) (hl : Nat.blt t E.N = true := by rfl) (he : env t = .v (.bool b) := by rfl) (hd : o.dst = some d := by rfl) (hdl : Nat.blt d E.N = true := by rfl) (hx : env d = .v undef := by rfl) : Still P E ops env ob o := gN0 hb hg ht (blt_lt hl) he hd (blt_lt hdl) hx
theorem gy1 (hb : b = true) (hs : StillOp P E ops env ob o) (hg : o.guard = some (j, true) := by rfl) (ht : (ops[j]?).bind (·.dst) = some t := by rfl) (hl : Nat.blt t E.N = true := by rfl) (he : env t = .v (.bool b) := by rfl) : Still P E ops env ob o := gY1 hb hg ht (blt_lt hl) he hs
theorem gy0 (hb : b = false) (hs : StillOp P E ops env ob o) (hg : o.guard = some (j, false) := by rfl) (ht : (ops[j]?).bind (·.dst) = some t := by rfl) (hl : Nat.blt t E.N = true := by rfl) (he : env t = .v (.bool b) := by rfl) : Still P E ops env ob o := gY0 hb hg ht (blt_lt hl) he hs
/-- A move, in a region that draws its order. -/
theorem sMv {s : Nat} (ho : o.op = .move (.tmp s) ∨ o.op = .assign (.tmp s) := by first | exact .inl rfl | exact .inr rfl) (hd : o.dst = some d := by rfl) (hl : Nat.blt d E.N = true := by rfl) (hs : Nat.blt s E.N = true := by rfl) (hk : (o.looksAt ops).elem s = true := by rfl) (he : env s = env d := by rfl) : StillOp P E ops env ob o :=
  ⟨d, hd, blt_lt hl, fun st hob hE => aop_move ho hd (by show (Nat.blt s E.N && Nat.blt d E.N) = true; rw [hs, hl]; rfl) (show evA st.env (.tmp s) = env d from (hE s hk).trans he) (by rw [hob])⟩
/-- A load. -/
theorem sLd {s ty : Nat} {p : AV} {rest : List AV} (hb : aggT P ty = some false) (ho : o.op = .load ty (.tmp s) := by rfl) (hd : o.dst = some d := by rfl) (hl : Nat.blt d E.N = true := by rfl) (hs : Nat.blt s E.N = true := by rfl) (hk : (o.looksAt ops).elem s = true := by rfl) (he : env s = p := by rfl) (hp : ptC ob p = some (env d :: rest) := by rfl) : StillOp P E ops env ob o :=
  ⟨d, hd, blt_lt hl, fun st hob hE => aop_ld (p := p) (rest := rest) ho hd (by show (Nat.blt s E.N && Nat.blt d E.N) = true; rw [hs, hl]; rfl) hb (show evA st.env (.tmp s) = p from (hE s hk).trans he) (by rw [hob]; exact hp) (by rw [hob])⟩
/-- An element's place in what is only read. -/
theorem sIx {s i ty e sz k n : Nat} {kk : IntKind} {α : Type} {f : α → List AV} {l : List α} (df : α) (ht : P.underlying ty = some (.slice e)) (hsz : (P.info? e).map (·.size) = some sz) (ho : o.op = .indexAddr ty (.tmp s) (.tmp i) := by rfl) (hd : o.dst = some d := by rfl) (hl : Nat.blt d E.N = true := by rfl) (hs : Nat.blt s E.N = true := by rfl) (hi : Nat.blt i E.N = true := by rfl)
    (h1 : (o.looksAt ops).elem s = true := by rfl) (h2 : (o.looksAt ops).elem i = true := by rfl) (he : env s = .ro n (enc f l) := by exact rfl) (hei : env i = .v (.int kk (k : Int)) := by exact rfl) (hf : ∀ x, (f x).length = sz := by exact fun _ => rfl) (hn : n = l.length := by rfl) (hk : k < l.length := by first | omega | (simp; done) | decide | (simp at *; omega))
    (hd2 : AV.rp (f (l.getD k df) ++ (enc f l).drop ((k + 1) * sz)) = env d := by exact rfl) : StillOp P E ops env ob o :=
  ⟨d, hd, blt_lt hl, fun st hob hE => aop_ixE df ho hd (by show (Nat.blt s E.N && Nat.blt i E.N && Nat.blt d E.N) = true; rw [hs, hi, hl]; rfl) ht hsz (show evA st.env (.tmp s) = _ from (hE s h1).trans he) (show evA st.env (.tmp i) = _ from (hE i h2).trans hei) hf hn hk (by rw [hob, hd2])⟩
end
end Go.Lo
