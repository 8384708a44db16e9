/- Layer 13 (state): the kinds, each once. -/
import Derived.Test.YtmmdkioohjninaaDoorSv
set_option linter.unusedVariables false
set_option linter.unusedSimpArgs false
namespace Go.Lo
def pairK (m : Nat) : Nat := (kindI ((m / 4 : Nat) : Int) ((m % 4 : Nat) : Int)).toNat
/-- How often each kind was met, after m pairs. -/
def seenK : Nat → List Int
  | 0 => List.replicate 13 0
  | m + 1 => (seenK m).set (pairK m) ((seenK m).getD (pairK m) 0 + 1)
theorem seenK_len (m : Nat) : (seenK m).length = 13 := by
  induction m with
  | zero => rfl
  | succ m ih => simp [seenK, ih]
theorem pair_facts : ∀ i : Nat, i < 4 → ∀ j : Nat, j < 4 → kindI (i : Int) (j : Int) = ((pairK (4 * i + j) : Nat) : Int) ∧ pairK (4 * i + j) ≤ 12 ∧ (pairK (4 * i + j) = 0 ↔ i = j) := by decide +kernel
theorem seen_facts : ∀ m : Nat, m < 16 → 0 ≤ (seenK m).getD (pairK m) 0 ∧ (seenK m).getD (pairK m) 0 ≤ 16 := by decide +kernel
theorem seen_end : ∀ k : Nat, k < 12 → (seenK 16).getD (k + 1) 0 = 1 := by decide +kernel
end Go.Lo
