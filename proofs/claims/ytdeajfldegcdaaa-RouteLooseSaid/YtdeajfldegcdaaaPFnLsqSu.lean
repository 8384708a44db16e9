/- Part of the logic of values: what the law reaches. -/
import Derived.Test.YtdeajfldegcdaaaPFnLsqLk
set_option linter.unusedVariables false
set_option linter.unusedSimpArgs false
namespace Go.Lo
section
variable {secs : List Sec} {parts : List (List Int)} {pts : List Pnt} {routes : List (List Int)} {x : Act} {n k m : Nat}
theorem sm_iff {l : List Act} (h : smL l = true) : l.length ≤ 50 ∧ ∀ y, y ∈ l → y.sts.length ≤ 20 ∧ y.ow.length ≤ 20 ∧ y.rt.length ≤ 8 ∧ y.sp.length ≤ 6 := by
 unfold smL at h
 simp only [Bool.and_eq_true, Bool.not_eq_true', decide_eq_true_eq] at h
 refine ⟨by omega, fun y hy => ?_⟩
 have h2 : bigA y = false := by
  cases hb : bigA y with
  | false => rfl
  | true => have := List.any_eq_true.2 ⟨y, hy, hb⟩; rw [h.1] at this; cases this
 unfold bigA at h2
 simp only [Bool.or_eq_false_iff, decide_eq_false_iff_not] at h2
 omega
end
end Go.Lo
