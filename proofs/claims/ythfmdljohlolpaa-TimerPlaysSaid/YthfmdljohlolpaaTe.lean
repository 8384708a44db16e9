/- Timers: the example; the laws' plain facts. -/
import Derived.Test.YthfmdljohlolpaaTd
set_option linter.unusedVariables false
set_option linter.unusedSimpArgs false
namespace Go.Lo
theorem st_len {l : List Tm} {i a : Int} (h : l.length ≤ 32) : (startT l i a).length ≤ 65530 := by have := startT_len (i := i) (a := a) h; omega
theorem three_1 : startT [] 5 9 = [⟨5, 9⟩] := by
  rw [startT_ok (by decide)]
  exact (sortT_uniq (List.Perm.refl _) (by decide)).symm
theorem three_2 : startT [⟨5, 9⟩] 3 9 = [⟨3, 9⟩, ⟨5, 9⟩] := by
  rw [startT_ok (by decide)]
  exact (sortT_uniq (by decide) (by decide)).symm
theorem three_3 : startT [⟨3, 9⟩, ⟨5, 9⟩] 7 2 = [⟨7, 2⟩, ⟨3, 9⟩, ⟨5, 9⟩] := by
  rw [startT_ok (by decide)]
  exact (sortT_uniq (by decide) (by decide)).symm
theorem three_law : (decide (idsT (endL 9 (startT (startT (startT [] 5 9) 3 9) 7 2)) = [7, 3, 5]) && (((restL 9 (startT (startT (startT [] 5 9) 3 9) 7 2)).length : Int) == 0)) = true := by
  rw [three_1, three_2, three_3]
  decide
/-! ### started anew -/
theorem fullT_small {l : List Tm} {i : Int} (h : l.length < 32) : ¬ fullT l i = true := by
  simp only [fullT, Bool.and_eq_true, decide_eq_true_eq]
  omega
theorem sortT_one (x : Tm) : sortT [x] = [x] := (sortT_uniq (List.Perm.refl _) (by simp)).symm
theorem ixT_one (i a : Int) : ixT [⟨i, a⟩] i = 0 := by
  have := idxB_stop (f := fun x : Tm => decide (x.id = i)) dT (l := [⟨i, a⟩]) (k := 0) (by simp) rfl (by simp)
  exact this
theorem anew_0 (i a : Int) : startT [] i a = [⟨i, a⟩] := by
  rw [startT_ok (fullT_small (by simp))]
  exact sortT_one _
theorem anew_1 (i a b : Int) : startT (startT [] i a) i b = [⟨i, b⟩] := by
  rw [anew_0, startT_ok (fullT_small (by simp))]
  have : putT [⟨i, a⟩] i b = [⟨i, b⟩] := by unfold putT delT; rw [ixT_one]; rfl
  rw [this, sortT_one]
theorem anew_e1 (i : Int) : errT [] i = 0 := errT_ok (fullT_small (by simp))
theorem anew_e2 (i a : Int) : errT (startT [] i a) i = 0 := by rw [anew_0]; exact errT_ok (fullT_small (by simp))
theorem anew_l (i b : Int) : leftT [⟨i, b⟩] i b = 0 := left_0 (by rw [ixT_one]; decide) (by rw [ixT_one]; exact Int.le_refl _)
theorem anew_h (i b : Int) : hasT [⟨i, b⟩] i = true := has_yes (by rw [ixT_one]; decide)
theorem anew_n (i b : Int) : endL (b - 1) [⟨i, b⟩] = [] ∧ restL (b - 1) [⟨i, b⟩] = [⟨i, b⟩] := by
  have : decide (b ≤ b - 1) = false := by rw [decide_eq_false_iff_not]; omega
  simp [endL, restL, List.takeWhile_cons, List.dropWhile_cons, this]
theorem anew_y (i b : Int) : idsT (endL b [⟨i, b⟩]) = [i] := by simp [endL, idsT, List.takeWhile_cons]
theorem subMin {b : Int} (h : b > -9223372036854775808) (hb : I64 b) : binI .i64 .sub b 1 = .int .i64 (b - 1) := by
  obtain ⟨_, _⟩ := hb
  show Value.int .i64 (IntKind.i64.wrap (b - 1)) = _
  congr 1
  simp only [IntKind.wrap, IntKind.bits, IntKind.signed]
  simp
  omega
end Go.Lo
