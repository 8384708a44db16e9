/- Part of the logic of values: what the law reaches. -/
import Derived.Test.YtnjncdidiijpgaaPFnPoqLoR
set_option linter.unusedVariables false
set_option linter.unusedSimpArgs false
namespace Go.Lo
section
variable {P : Program} {E : Env0} {st : St} {K : St → Prop}
theorem aop_min {o : Oper} {c : Call} {ty : Array TypeId} {x y : Operand} {d : Nat} {k : IntKind} {a b r : Int} (ho : o.op = .call c) (hc : c = { callee := .builtin .min, args := #[x, y], argTypes := ty }) (hd : o.dst = some d) (hN : (okOp E.N x && okOp E.N y && Nat.blt d E.N) = true)
  (hx : evA st.env x = .v (.int k a)) (hy : evA st.env y = .v (.int k b)) (hr : ∀ w, (Builtin.min_ ty o.type #[.int k a, .int k b]).run P w = .ok (.int k r) w) (h : K ⟨upd st.env d (.v (.int k r)), st.ob⟩) : AOp P E o st K := by
 subst hc
 simp only [Bool.and_eq_true] at hN
 refine aop_value (.v (.int k r)) (fun d' hd' => by rw [hd] at hd'; cases hd'; exact blt_lt hN.2) (fun a' w C hs => ⟨.int k r, ?_, .v _⟩) (by rw [hd]; exact h)
 have h1 := hs.ev x hN.1.1
 have h2 := hs.ev y hN.1.2
 rw [hx] at h1
 rw [hy] at h2
 simp [execOp, ho, resolve, invoke, builtin, h1.v_inv, h2.v_inv, hr]
theorem aop_eqv {o : Oper} {d : Nat} {a b : AV} (h : AOp P E o st (fun s => s = ⟨upd st.env d a, st.ob⟩)) (hab : a = b) (hk : K ⟨upd st.env d b, st.ob⟩) : AOp P E o st K := by
 subst hab
 exact h.mono fun s hs => by rw [hs]; exact hk
theorem minI {ty : Array TypeId} {t : TypeId} {k : IntKind} {a b r : Int} (h : (if b < a then b else a) = r) : ∀ w, (Builtin.min_ ty t #[.int k a, .int k b]).run P w = .ok (.int k r) w := fun w => by subst h; rfl
end
end Go.Lo
