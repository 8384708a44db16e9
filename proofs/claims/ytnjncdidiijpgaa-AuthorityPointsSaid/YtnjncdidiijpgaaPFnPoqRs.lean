/- Part of the logic of values: what the law reaches. -/
import Derived.Test.YtnjncdidiijpgaaPFnPoqRo
set_option linter.unusedVariables false
set_option linter.unusedSimpArgs false
namespace Go.Lo
def twF (A B : Sec) (z : Pnt) : Bool := ((A.a == z.node) || (A.b == z.node)) && ((B.a == z.node) || (B.b == z.node))
def kJ (A B : Sec) (pts : List Pnt) (j : Nat) : Int := if (pts.take j).any (twF A B) then 1 else 0
def kV (secs : List Sec) (pts : List Pnt) (path : List Int) (k : Nat) : Int := kJ (secs.getD (path.getD k 0).toNat dS) (secs.getD (path.getD (k + 1) 0).toNat dS) pts pts.length
def stN (secs : List Sec) (pts : List Pnt) (path : List Int) (step : Nat) : Nat → Int
 | 0 => 0
 | k + 1 => if k < step then stN secs pts path step k + kV secs pts path k else stN secs pts path step k
def stM (secs : List Sec) (pts : List Pnt) (path : List Int) (step : Nat) : Nat → Int
 | 0 => 0
 | k + 1 => if k = step then kV secs pts path k else stM secs pts path step k
def stD (secs : List Sec) (pts : List Pnt) (path : List Int) (step : Nat) : List Need :=
 if stN secs pts path step (path.length - 1) + stM secs pts path step (path.length - 1) > ((paL secs pts path).length : Int) then []
 else ((paL secs pts path).take (stN secs pts path step (path.length - 1) + stM secs pts path step (path.length - 1)).toNat).drop (stN secs pts path step (path.length - 1)).toNat
section
variable {A B : Sec} {secs : List Sec} {pts : List Pnt} {path : List Int} {step k j : Nat}
theorem kJ_r : 0 ≤ kJ A B pts j ∧ kJ A B pts j ≤ 1 := by unfold kJ; split <;> omega
theorem kJ_t (hj : j < pts.length) (h : twF A B (pts.getD j dP) = true) : (1 : Int) = kJ A B pts (j + 1) := by
 unfold kJ; rw [take_snoc dP hj, List.any_append, if_pos (by simp only [List.any_cons, h]; simp)]
theorem kJ_f (hj : j < pts.length) (h : twF A B (pts.getD j dP) = false) : kJ A B pts j = kJ A B pts (j + 1) := by
 have e : (pts.take (j + 1)).any (twF A B) = (pts.take j).any (twF A B) := by rw [take_snoc dP hj, List.any_append, List.any_cons, h]; simp
 unfold kJ; rw [e]
theorem kV_r : 0 ≤ kV secs pts path k ∧ kV secs pts path k ≤ 1 := kJ_r
theorem stN_t (h : k < step) : stN secs pts path step k + kV secs pts path k = stN secs pts path step (k + 1) := by
 conv => rhs; unfold stN
 rw [if_pos h]
theorem stN_f (h : ¬ k < step) : stN secs pts path step k = stN secs pts path step (k + 1) := by
 conv => rhs; unfold stN
 rw [if_neg h]
theorem stM_t (h : k = step) : kV secs pts path k = stM secs pts path step (k + 1) := by
 conv => rhs; unfold stM
 rw [if_pos h]
theorem stM_f (h : ¬ k = step) : stM secs pts path step k = stM secs pts path step (k + 1) := by
 conv => rhs; unfold stM
 rw [if_neg h]
theorem stN_r : ∀ k, 0 ≤ stN secs pts path step k ∧ stN secs pts path step k ≤ (k : Int)
 | 0 => ⟨Int.le_refl _, Int.le_refl _⟩
 | k + 1 => by
  have h := stN_r k
  have h2 := kV_r (secs := secs) (pts := pts) (path := path) (k := k)
  unfold stN; split <;> omega
theorem stM_r : ∀ k, 0 ≤ stM secs pts path step k ∧ stM secs pts path step k ≤ 1
 | 0 => ⟨Int.le_refl _, by show (0 : Int) ≤ 1; omega⟩
 | k + 1 => by
  have h := stM_r k
  have h2 := kV_r (secs := secs) (pts := pts) (path := path) (k := k)
  unfold stM; split <;> omega
end
theorem addNN {a b : Nat} (h : a + b ≤ 1000000) : binI .i64 .add (a : Int) (b : Int) = .int .i64 ((a + b : Nat) : Int) := by
 rw [addI (by omega)]; congr 1
end Go.Lo
