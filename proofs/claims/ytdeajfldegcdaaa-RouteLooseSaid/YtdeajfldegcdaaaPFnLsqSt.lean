/- Part of the logic of values: what the law reaches. -/
import Derived.Test.YtdeajfldegcdaaaPFnLsqDr
import Derived.Test.YtdeajfldegcdaaaPFnLsqLoU
set_option linter.unusedVariables false
set_option linter.unusedSimpArgs false
namespace Go.Lo
structure Chg where
 sec : Int
 kind : Int
theorem Chg.ext2 {x y : Chg} (h1 : x.sec = y.sec) (h2 : x.kind = y.kind) : x = y := by
 cases x; cases y; simp_all
instance : DecidableEq Chg := fun x y => if h : x.sec = y.sec ∧ x.kind = y.kind then isTrue (Chg.ext2 h.1 h.2) else isFalse fun e => h (by rw [e]; exact ⟨rfl, rfl⟩)
def partI (parts : List (List Int)) (s : Int) : Int := idxB (fun l => decide (s ∈ l)) parts
theorem partI_range (parts : List (List Int)) (s : Int) : partI parts s = -1 ∨ (0 ≤ partI parts s ∧ partI parts s < (parts.length : Int)) := idxB_range _ [] _
theorem u64_in {n : Int} (h : 0 ≤ n ∧ n ≤ 18446744073709551615) : IntKind.u64.wrap n = n := by rw [IntKind.wrap_u64]; omega
def pw (n : Nat) : Nat → Nat
 | 0 => min 1 n
 | k + 1 => pw n k + min (pw n k) (n - pw n k)
theorem pw_facts (n k : Nat) (h : 1 ≤ n) : pw n k ≤ n ∧ 1 ≤ pw n k ∧ (pw n k < n → k + 1 ≤ pw n k) := by
 induction k with
 | zero => simp [pw]; omega
 | succ k ih => simp only [pw]; omega
end Go.Lo
