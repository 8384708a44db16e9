/- Timers: a row of ticks, started one by one; those that end. -/
import Derived.Test.YthfmdljohlolpaaTg
set_option linter.unusedVariables false
set_option linter.unusedSimpArgs false
namespace Go.Lo
def tmK (l : List Int) (k : Nat) : List Tm := (List.range k).map fun (j : Nat) => (⟨(j : Int), l.getD j 0⟩ : Tm)
def rowK (l : List Int) (k : Nat) : List Tm := sortT (tmK l k)
theorem sortT_congr {l m : List Tm} (h : l.Perm m) : sortT l = sortT m := sortT_uniq ((sortT_perm l).trans h) (sortT_sorted l)
theorem tmK_len (l : List Int) (k : Nat) : (tmK l k).length = k := by simp [tmK]
theorem rowK_len (l : List Int) (k : Nat) : (rowK l k).length = k := by rw [rowK, sortT_len, tmK_len]
theorem rowK_0 (l : List Int) : rowK l 0 = [] := List.eq_nil_of_length_eq_zero (rowK_len l 0)
theorem tmK_succ (l : List Int) (k : Nat) : tmK l (k + 1) = tmK l k ++ [⟨(k : Int), l.getD k 0⟩] := by simp [tmK, List.range_succ]
theorem tmK_mem {l : List Int} {k : Nat} {x : Tm} : x ∈ tmK l k ↔ 0 ≤ x.id ∧ x.id < (k : Int) ∧ x.at_ = l.getD x.id.toNat 0 := by
  unfold tmK
  rw [List.mem_map]
  constructor
  · rintro ⟨j, hj, rfl⟩
    have := List.mem_range.1 hj
    exact ⟨by show (0 : Int) ≤ (j : Int); omega, by show (j : Int) < (k : Int); omega, rfl⟩
  · rintro ⟨h1, h2, h3⟩
    refine ⟨x.id.toNat, List.mem_range.2 (by omega), ?_⟩
    cases x
    simp only [Tm.mk.injEq]
    exact ⟨Int.toNat_of_nonneg h1, h3.symm⟩
theorem tmK_uq (l : List Int) : ∀ k, UQ (tmK l k)
  | 0 => by simp [tmK, UQ]
  | k + 1 => by
    unfold UQ
    rw [tmK_succ, List.map_append, List.nodup_append]
    refine ⟨tmK_uq l k, by simp, fun x hx y hy => ?_⟩
    obtain ⟨z, hz, rfl⟩ := List.mem_map.1 hx
    have h := tmK_mem.1 hz
    have hy' : y = (k : Int) := by simpa using hy
    omega
theorem rowK_mem {l : List Int} {k : Nat} {x : Tm} : x ∈ rowK l k ↔ 0 ≤ x.id ∧ x.id < (k : Int) ∧ x.at_ = l.getD x.id.toNat 0 := by rw [rowK, (sortT_perm _).mem_iff, tmK_mem]
theorem rowK_uq (l : List Int) (k : Nat) : UQ (rowK l k) := uq_sort (tmK_uq l k)
theorem rowK_no (l : List Int) (k : Nat) : ixT (rowK l k) k < 0 := ix_has (by
  rw [Bool.eq_false_iff, ne_eq, has_iff]
  rintro ⟨x, h1, h2⟩
  have := (rowK_mem.1 h1).2.1
  omega)
theorem rowK_step (l : List Int) {k : Nat} (hk : k < 32) : startT (rowK l k) k (l.getD k 0) = rowK l (k + 1) := by
  rw [startT_ok (fullT_small (by rw [rowK_len]; exact hk)), putT, delT_no (rowK_no l k)]
  exact sortT_congr (by rw [tmK_succ]; exact (sortT_perm _).append_right _)
theorem rowK_err (l : List Int) {k : Nat} (hk : k < 32) : errT (rowK l k) k = 0 := errT_ok (fullT_small (by rw [rowK_len]; exact hk))
/-! ### sorted rows -/
def SortedT (l : List Tm) : Prop := l.Pairwise fun x y => ltT y x = false
theorem rest_gt {l : List Tm} {now : Int} (h : SortedT l) : ∀ x, x ∈ restL now l → now < x.at_ := by
  induction l with
  | nil => intro x hx; simp [restL] at hx
  | cons a l ih =>
    obtain ⟨h1, h2⟩ := List.pairwise_cons.1 h
    intro x hx
    by_cases ha : a.at_ ≤ now
    · have : restL now (a :: l) = restL now l := by simp [restL, List.dropWhile_cons, ha]
      rw [this] at hx
      exact ih h2 x hx
    · have : restL now (a :: l) = a :: l := by simp [restL, List.dropWhile_cons, ha]
      rw [this] at hx
      rcases List.mem_cons.1 hx with rfl | hx
      · omega
      · have := h1 x hx
        simp only [ltT, decide_eq_false_iff_not] at this
        omega
theorem tw_all {α : Type} {f : α → Bool} : ∀ {l : List α} {x : α}, x ∈ l.takeWhile f → f x = true
  | [], x, h => by simp at h
  | a :: l, x, h => by
    rw [List.takeWhile_cons] at h
    split at h
    · rcases List.mem_cons.1 h with rfl | h
      · assumption
      · exact tw_all h
    · cases h
theorem end_le {l : List Tm} {now : Int} {x : Tm} (h : x ∈ endL now l) : x.at_ ≤ now := by
  have := tw_all (f := fun x : Tm => decide (x.at_ ≤ now)) h
  simpa using this
theorem end_sub {l : List Tm} {now : Int} {x : Tm} (h : x ∈ endL now l) : x ∈ l := by
  rw [← end_rest now l]
  exact List.mem_append.2 (.inl h)
theorem rest_sub {l : List Tm} {now : Int} {x : Tm} (h : x ∈ restL now l) : x ∈ l := by
  rw [← end_rest now l]
  exact List.mem_append.2 (.inr h)
theorem rest_sorted {l : List Tm} {now : Int} (h : SortedT l) : SortedT (restL now l) := by
  have h2 := h
  unfold SortedT at h2
  rw [← end_rest now l, List.pairwise_append] at h2
  exact h2.2.1
theorem end_all {l : List Tm} {now : Int} (h : ∀ x, x ∈ l → x.at_ ≤ now) : endL now l = l ∧ restL now l = [] := by
  obtain ⟨h1, h2⟩ := tw_app (f := fun x : Tm => decide (x.at_ ≤ now)) (a := l) (b := []) fun x hx => by simpa using h x hx
  simp only [List.append_nil, List.takeWhile_nil, List.dropWhile_nil] at h1 h2
  exact ⟨h1, h2⟩
theorem ids_get (l : List Tm) (i : Nat) (h : i < (idsT l).length) : (idsT l).getD i 0 = (l.getD i dT).id ∧ l.getD i dT ∈ l := by
  have h' : i < l.length := by simpa [idsT] using h
  refine ⟨?_, getD_mem dT h'⟩
  simp [idsT, List.getD_eq_getElem?_getD, List.getElem?_eq_getElem h']
structure EndsOk (l : List Int) (cut : Int) (f1 f2 : List Int) (left : List Tm) : Prop where
  a : ∀ i, i < f1.length → 0 ≤ f1.getD i 0 ∧ f1.getD i 0 < (l.length : Int) ∧ l.getD (f1.getD i 0).toNat 0 ≤ cut
  b : ∀ i, i < f2.length → 0 ≤ f2.getD i 0 ∧ f2.getD i 0 < (l.length : Int) ∧ cut < l.getD (f2.getD i 0).toNat 0
  c : ∀ i, 0 < i → i < f2.length → l.getD (f2.getD (i - 1) 0).toNat 0 ≤ l.getD (f2.getD i 0).toNat 0
  d : (riseL (f1 ++ f2)).length = l.length
  e : f1.length + f2.length = l.length
  f : left.length = 0
theorem ends_ok {l : List Int} {cut : Int} {R : List Tm} (hw : ∀ x, x ∈ l → I64 x) (hR : R = rowK l l.length) : EndsOk l cut (idsT (endL cut R)) (idsT (endL 9223372036854775807 (restL cut R))) (restL 9223372036854775807 (restL cut R)) := by
  have hmem : ∀ x, x ∈ R → 0 ≤ x.id ∧ x.id < (l.length : Int) ∧ x.at_ = l.getD x.id.toNat 0 := fun x hx => rowK_mem.1 (hR ▸ hx)
  have hs : SortedT R := by rw [hR]; exact sortT_sorted _
  have hmax : ∀ x, x ∈ restL cut R → x.at_ ≤ 9223372036854775807 := fun x hx => by
    obtain ⟨h1, h2, h3⟩ := hmem x (rest_sub hx)
    rw [h3]
    exact (hw _ (getD_mem 0 (by omega))).2
  obtain ⟨he, hr⟩ := end_all hmax
  rw [he, hr]
  have happ : idsT (endL cut R) ++ idsT (restL cut R) = idsT R := by
    unfold idsT
    rw [← List.map_append, end_rest]
  have hlen : (idsT R).length = l.length := by rw [hR]; simp [idsT, rowK_len]
  refine ⟨fun i hi => ?_, fun i hi => ?_, fun i h0 hi => ?_, ?_, ?_, rfl⟩
  · obtain ⟨h1, h2⟩ := ids_get _ i hi
    rw [h1]
    obtain ⟨k1, k2, k3⟩ := hmem _ (end_sub h2)
    exact ⟨k1, k2, by rw [← k3]; exact end_le h2⟩
  · obtain ⟨h1, h2⟩ := ids_get _ i hi
    rw [h1]
    obtain ⟨k1, k2, k3⟩ := hmem _ (rest_sub h2)
    exact ⟨k1, k2, by rw [← k3]; exact rest_gt hs _ h2⟩
  · obtain ⟨h1, h2⟩ := ids_get _ i hi
    obtain ⟨h3, h4⟩ := ids_get _ (i - 1) (show i - 1 < (idsT (restL cut R)).length by omega)
    rw [h1, h3]
    obtain ⟨k1, k2, k3⟩ := hmem _ (rest_sub h2)
    obtain ⟨j1, j2, j3⟩ := hmem _ (rest_sub h4)
    rw [← k3, ← j3]
    have hi' : i < (restL cut R).length := by simpa [idsT] using hi
    have := List.pairwise_iff_getElem.1 (rest_sorted (now := cut) hs) (i - 1) i (by omega) hi' (by omega)
    simp only [ltT, decide_eq_false_iff_not] at this
    simp only [List.getD_eq_getElem?_getD, List.getElem?_eq_getElem hi', List.getElem?_eq_getElem (show i - 1 < (restL cut R).length by omega), Option.getD_some]
    omega
  · rw [happ, riseL_nodup (by rw [hR]; exact rowK_uq l l.length), hlen]
  · rw [← List.length_append, happ, hlen]
theorem ends_val {l : List Int} {cut : Int} {f1 f2 : List Int} {left : List Tm} (h : EndsOk l cut f1 f2 left) : (((((riseL (f1 ++ f2)).length : Int) == (l.length : Int)) && (((f1.length : Int) + (f2.length : Int)) == (l.length : Int))) && ((left.length : Int) == 0)) = true := by
  have h1 := h.d
  have h2 := h.e
  have h3 := h.f
  simp only [Bool.and_eq_true, beq_iff_eq]
  omega
theorem ends_c {l : List Int} {cut : Int} {f1 f2 : List Int} {left : List Tm} (h : EndsOk l cut f1 f2 left) (i : Nat) (hi : i < f2.length) (h0 : 0 < i) : 0 ≤ f2.getD ((i : Int) - 1).toNat 0 ∧ f2.getD ((i : Int) - 1).toNat 0 < (l.length : Int) ∧ l.getD (f2.getD ((i : Int) - 1).toNat 0).toNat 0 ≤ l.getD (f2.getD i 0).toNat 0 := by
  rw [show ((i : Int) - 1).toNat = i - 1 by omega]
  have := h.b (i - 1) (by omega)
  exact ⟨this.1, this.2.1, h.c i h0 hi⟩
end Go.Lo
