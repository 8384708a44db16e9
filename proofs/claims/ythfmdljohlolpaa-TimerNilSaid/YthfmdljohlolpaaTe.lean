/- Timers: the example; the laws' plain facts. -/
import Derived.Test.YthfmdljohlolpaaTd
set_option linter.unusedVariables false
set_option linter.unusedSimpArgs false
namespace Go.Lo
theorem st_len {l : List Tm} {i a : Int} (h : l.length ≤ 32) : (startT l i a).length ≤ 65530 := by have := startT_len (i := i) (a := a) h; omega
theorem three_1 : startT [] 5 9 = [⟨5, 9⟩] := by
  rw [startT_ok (by decide)]
  exact (sortT_uniq (List.Perm.refl _) (by decide)).symm
theorem three_2 : startT [⟨5, 9⟩] 3 9 = [⟨3, 9⟩, ⟨5, 9⟩] := by
  rw [startT_ok (by decide)]
  exact (sortT_uniq (by decide) (by decide)).symm
theorem three_3 : startT [⟨3, 9⟩, ⟨5, 9⟩] 7 2 = [⟨7, 2⟩, ⟨3, 9⟩, ⟨5, 9⟩] := by
  rw [startT_ok (by decide)]
  exact (sortT_uniq (by decide) (by decide)).symm
theorem three_law : (decide (idsT (endL 9 (startT (startT (startT [] 5 9) 3 9) 7 2)) = [7, 3, 5]) && (((restL 9 (startT (startT (startT [] 5 9) 3 9) 7 2)).length : Int) == 0)) = true := by
  rw [three_1, three_2, three_3]
  decide
end Go.Lo
