/- Timers: a row with one, and without it. -/
import Derived.Test.YthfmdljohlolpaaTh
set_option linter.unusedVariables false
set_option linter.unusedSimpArgs false
namespace Go.Lo
def tmU (l : List Int) (kk : Int) (i : Nat) : List Tm := (tmK l i).filter fun x => decide (x.id ≠ kk)
def rowU (l : List Int) (kk : Int) (i : Nat) : List Tm := sortT (tmU l kk i)
theorem rowU_len (l : List Int) (kk : Int) (i : Nat) : (rowU l kk i).length ≤ i := by
  rw [rowU, sortT_len]
  have := List.length_filter_le (fun x : Tm => decide (x.id ≠ kk)) (tmK l i)
  rw [tmK_len] at this
  exact this
theorem rowU_0 (l : List Int) (kk : Int) : rowU l kk 0 = [] := List.eq_nil_of_length_eq_zero (by have := rowU_len l kk 0; omega)
theorem rowU_mem {l : List Int} {kk : Int} {i : Nat} {x : Tm} : x ∈ rowU l kk i ↔ x ∈ tmK l i ∧ x.id ≠ kk := by
  rw [rowU, (sortT_perm _).mem_iff, tmU]
  simp
theorem rowU_off {l : List Int} {kk : Int} {i : Nat} (h : (i : Int) = kk) : rowU l kk (i + 1) = rowU l kk i := by
  unfold rowU tmU
  rw [tmK_succ, List.filter_append, List.filter_cons_of_neg (by simp [h]), List.filter_nil, List.append_nil]
theorem rowU_on {l : List Int} {kk : Int} {i : Nat} (h : (i : Int) ≠ kk) (hi : i < 32) : startT (rowU l kk i) i (l.getD i 0) = rowU l kk (i + 1) := by
  have hl := rowU_len l kk i
  have hno : ixT (rowU l kk i) i < 0 := ix_has (by
    rw [Bool.eq_false_iff, ne_eq, has_iff]
    rintro ⟨x, h1, h2⟩
    have := (tmK_mem.1 (rowU_mem.1 h1).1).2.1
    omega)
  rw [startT_ok (fullT_small (by omega)), putT, delT_no hno]
  refine sortT_congr ?_
  rw [tmU, tmK_succ, List.filter_append, List.filter_cons_of_pos (by simp [h]), List.filter_nil]
  exact (sortT_perm _).append_right _
theorem stop_row (l : List Int) (kk : Int) (n : Nat) : delT (rowK l n) kk = rowU l kk n := by
  rw [del_filter (rowK_uq l n)]
  exact sortT_uniq ((sortT_perm _).filter _) ((sortT_sorted _).filter _)
theorem stop_has (l : List Int) {kk : Int} (n : Nat) (h : 0 ≤ kk) : hasT (rowK l n) kk = decide (kk < (n : Int)) := by
  rw [Bool.eq_iff_iff, has_iff, decide_eq_true_eq]
  constructor
  · rintro ⟨x, hx, rfl⟩
    exact (rowK_mem.1 hx).2.1
  · intro h2
    exact ⟨⟨kk, l.getD kk.toNat 0⟩, rowK_mem.2 ⟨h, h2, rfl⟩, rfl⟩
theorem stops_val {l : List Int} {kk now : Int} {n : Nat} {X : List Tm} (hX : X = rowU l kk n) : ((decide (idsT (endL now X) = idsT (endL now X)) && (!(decide (kk ∈ idsT (endL now X))))) && (!(hasT (restL now X) kk))) = true := by
  have h1 : ¬ kk ∈ idsT (endL now X) := fun h => by
    obtain ⟨x, hx, he⟩ := List.mem_map.1 h
    have := end_sub hx
    rw [hX] at this
    exact (rowU_mem.1 this).2 he
  have h2 : hasT (restL now X) kk = false := by
    rw [Bool.eq_false_iff, ne_eq, has_iff]
    rintro ⟨x, hx, he⟩
    have := rest_sub hx
    rw [hX] at this
    exact (rowU_mem.1 this).2 he
  simp [h1, h2]
end Go.Lo
