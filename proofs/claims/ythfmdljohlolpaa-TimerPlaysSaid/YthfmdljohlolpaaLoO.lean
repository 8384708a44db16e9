/- Structs of two whole numbers, compared. -/
import Derived.Test.YthfmdljohlolpaaLoN
set_option linter.unusedVariables false
set_option linter.unusedSimpArgs false
namespace Go.Lo
def eqT2 (P : Program) (t : TypeId) : Option (TypeId × TypeId) :=
  match P.underlying t with
  | some (.struct fs) => match fs.toList with
    | [f, g] => if f.name != "_" && g.name != "_" && f.offset == 0 && g.offset == 1 && !P.stoodInHeld t && !P.eqGuardType P.depth t then some (f.type, g.type) else none
    | _ => none
  | _ => none
section
variable {P : Program} {E : Env0} {st : St} {K : St → Prop}
theorem run_program (w : World) : (program).run P w = .ok P w := rfl
theorem run_part {t : TypeId} (hb : aggT P t = some false) {cs : Array Value} {off : Nat} {v : Value} (h : cs[off]? = some v) (w : World) : (part t cs off).run P w = .ok v w := by
  simp [part, run_isAgg hb, h]
theorem equalIn_int {t : TypeId} {k : IntKind} (ht : P.underlying t = some (.int k)) (d : Nat) (a b : Int) (w : World) : (Op.equalIn (d + 1) t (.int k a) (.int k b)).run P w = .ok (a == b) w := by
  simp [Op.equalIn, run_underlying ht]
theorem eqT2_spec {t e1 e2 : TypeId} (h : eqT2 P t = some (e1, e2)) : ∃ f g, P.underlying t = some (.struct #[f, g]) ∧ f.name ≠ "_" ∧ g.name ≠ "_" ∧ f.offset = 0 ∧ g.offset = 1 ∧ P.stoodInHeld t = false ∧ P.eqGuardType P.depth t = false ∧ f.type = e1 ∧ g.type = e2 := by
  unfold eqT2 at h
  split at h
  · rename_i fs hu
    split at h
    case h_2 => cases h
    rename_i f g hfs
    have hfs2 : fs = #[f, g] := by rw [← hfs]
    subst hfs2
    split at h
    · rename_i hc
      simp only [Bool.and_eq_true, bne_iff_ne, beq_iff_eq, Bool.not_eq_true'] at hc
      simp only [Option.some.injEq, Prod.mk.injEq] at h
      exact ⟨f, g, hu, hc.1.1.1.1.1, hc.1.1.1.1.2, hc.1.1.1.2, hc.1.1.2, hc.1.2, hc.2, h.1, h.2⟩
    · cases h
  · cases h
theorem equalIn_s2 {t e1 e2 : TypeId} {k1 k2 : IntKind} (h : eqT2 P t = some (e1, e2)) (h1 : P.underlying e1 = some (.int k1)) (h2 : P.underlying e2 = some (.int k2)) (ha1 : aggT P e1 = some false) (ha2 : aggT P e2 = some false) (d : Nat) (a b a' b' : Int) (w : World) :
    (Op.equalIn (d + 2) t (.agg #[.int k1 a, .int k2 b]) (.agg #[.int k1 a', .int k2 b'])).run P w = .ok (decide (a = a' ∧ b = b')) w := by
  obtain ⟨f, g, hu, n1, n2, o1, o2, s1, s2, rfl, rfl⟩ := eqT2_spec h
  have p1 : ∀ x y w, (part f.type #[.int k1 x, .int k2 y] f.offset).run P w = .ok (.int k1 x) w := fun x y w => run_part ha1 (by rw [o1]; rfl) w
  have p2 : ∀ x y w, (part g.type #[.int k1 x, .int k2 y] g.offset).run P w = .ok (.int k2 y) w := fun x y w => run_part ha2 (by rw [o2]; rfl) w
  have e1 := fun x y w => equalIn_int (P := P) h1 d x y w
  have e2 := fun x y w => equalIn_int (P := P) h2 d x y w
  rw [Op.equalIn]
  simp only [Sem.run_bind, run_underlying hu, Result.andThen_ok, run_program, s1]
  by_cases ha : a = a' <;> by_cases hb : b = b' <;> simp [n1, n2, p1, p2, e1, e2, ha, hb]
theorem run_eqs2 {t e1 e2 : TypeId} {k1 k2 : IntKind} (h : eqT2 P t = some (e1, e2)) (h1 : P.underlying e1 = some (.int k1)) (h2 : P.underlying e2 = some (.int k2)) (ha1 : aggT P e1 = some false) (ha2 : aggT P e2 = some false) (x y : Operand) (a b a' b' : Int) (w : World) :
    (do eqGuard .eql t x y (.agg #[.int k1 a, .int k2 b]) (.agg #[.int k1 a', .int k2 b']); binOp .eql t (.agg #[.int k1 a, .int k2 b]) (.agg #[.int k1 a', .int k2 b']) : Sem Value).run P w = .ok (.bool (decide (a = a' ∧ b = b'))) w ∧
    (do eqGuard .neq t x y (.agg #[.int k1 a, .int k2 b]) (.agg #[.int k1 a', .int k2 b']); binOp .neq t (.agg #[.int k1 a, .int k2 b]) (.agg #[.int k1 a', .int k2 b']) : Sem Value).run P w = .ok (.bool (!decide (a = a' ∧ b = b'))) w := by
  obtain ⟨f, g, hu, n1, n2, o1, o2, s1, s2, _, _⟩ := eqT2_spec h
  have he : ∀ w, (Op.equal t (.agg #[.int k1 a, .int k2 b]) (.agg #[.int k1 a', .int k2 b'])).run P w = .ok (decide (a = a' ∧ b = b')) w := fun w => equalIn_s2 h h1 h2 ha1 ha2 9998 a b a' b' w
  constructor
  · simp [eqGuard, binOp, run_program, s2, he]
  · simp [eqGuard, binOp, run_program, s2, he]
theorem R_v2 {w : World} {C : Ctx} {u : Value} {k1 k2 : IntKind} {a b : Int} (h : R w C (.agg [.v (.int k1 a), .v (.int k2 b)]) u) : u = .agg #[.int k1 a, .int k2 b] := by
  cases h with
  | agg _ us hs hr =>
    have h0 := (hr 0 _ rfl).v_inv
    have h1 := (hr 1 _ rfl).v_inv
    congr 1
    apply Array.ext
    · simpa using hs
    · intro i hi hj
      have : us.size = 2 := hs
      match i with
      | 0 => simpa [this] using h0
      | 1 => simpa [this] using h1
      | i + 2 => omega
theorem aop_eqS2 {o : Oper} {op : BinOp} {t t' e1 e2 : TypeId} {x y : Operand} {d : Nat} {k1 k2 : IntKind} {a b a' b' : Int} {r : Bool} (ho : o.op = .binOp op t x y t') (hd : o.dst = some d) (hN : (okOp E.N x && okOp E.N y && Nat.blt d E.N) = true)
    (hx : evA st.env x = .agg [.v (.int k1 a), .v (.int k2 b)]) (hy : evA st.env y = .agg [.v (.int k1 a'), .v (.int k2 b')]) (h : eqT2 P t = some (e1, e2)) (h1 : P.underlying e1 = some (.int k1)) (h2 : P.underlying e2 = some (.int k2)) (ha1 : aggT P e1 = some false) (ha2 : aggT P e2 = some false)
    (hr : (op = .eql ∧ r = decide (a = a' ∧ b = b')) ∨ (op = .neq ∧ r = !decide (a = a' ∧ b = b'))) (hk : K ⟨upd st.env d (.v (.bool r)), st.ob⟩) : AOp P E o st K := by
  simp only [Bool.and_eq_true] at hN
  refine aop_value (.v (.bool r)) (fun d' hd' => by rw [hd] at hd'; cases hd'; exact blt_lt hN.2) (fun ac w C hs => ⟨.bool r, ?_, .v _⟩) (by rw [hd]; exact hk)
  have g1 := hs.ev x hN.1.1
  have g2 := hs.ev y hN.1.2
  rw [hx] at g1
  rw [hy] at g2
  have hrun := run_eqs2 h h1 h2 ha1 ha2 x y a b a' b' w
  rw [← R_v2 g1, ← R_v2 g2] at hrun
  rcases hr with ⟨rfl, rfl⟩ | ⟨rfl, rfl⟩
  · have := hrun.1
    simp only [execOp, ho, Sem.run_bind] at this ⊢
    rw [this]
    rfl
  · have := hrun.2
    simp only [execOp, ho, Sem.run_bind] at this ⊢
    rw [this]
    rfl
end
end Go.Lo
