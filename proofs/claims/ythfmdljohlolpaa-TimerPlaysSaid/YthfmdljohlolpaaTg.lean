/- Timers: numbers that are there once; a row that is full. -/
import Derived.Test.YthfmdljohlolpaaTe
set_option linter.unusedVariables false
set_option linter.unusedSimpArgs false
namespace Go.Lo
def UQ (l : List Tm) : Prop := (l.map Tm.id).Nodup
theorem any_mem {l : List Tm} {i : Int} : l.any (fun x : Tm => decide (x.id = i)) = true ↔ ∃ x, x ∈ l ∧ x.id = i := by simp
theorem has_any (l : List Tm) (i : Int) : hasT l i = l.any (fun x : Tm => decide (x.id = i)) := by
  have := idxB_any (f := fun x : Tm => decide (x.id = i)) dT l
  rw [← this]
  unfold hasT ixT
  rw [decide_eq_decide]
  omega
theorem has_iff {l : List Tm} {i : Int} : hasT l i = true ↔ ∃ x, x ∈ l ∧ x.id = i := by rw [has_any, any_mem]
theorem del_filter {l : List Tm} (h : UQ l) (i : Int) : delT l i = l.filter fun x => decide (x.id ≠ i) := by
  by_cases hx : ixT l i < 0
  · rw [delT_no hx]
    have hn : ¬ hasT l i = true := by rw [has_no hx]; simp
    rw [has_iff] at hn
    refine (List.filter_eq_self.2 fun x hm => ?_).symm
    rw [decide_eq_true_eq]
    exact fun e => hn ⟨x, hm, e⟩
  · obtain ⟨k, h1, h2, h3, h4⟩ := idxB_found (f := fun x : Tm => decide (x.id = i)) dT (l := l) (fun e => hx (by unfold ixT; rw [e]; decide))
    have hk : (ixT l i).toNat = k := by unfold ixT; rw [h1]; rfl
    rw [delT_yes hx, hk]
    obtain ⟨x, hxe⟩ : ∃ x, x = l.getD k dT := ⟨_, rfl⟩
    have hxi : x.id = i := by rw [hxe]; simpa using h4
    have hl : l = l.take k ++ x :: l.drop (k + 1) := by
      conv => lhs; rw [← List.take_append_drop k l]
      rw [List.drop_eq_getElem_cons h2, hxe, List.getD_eq_getElem?_getD, List.getElem?_eq_getElem h2]
      rfl
    have hnd : UQ (l.take k ++ x :: l.drop (k + 1)) := hl ▸ h
    unfold UQ at hnd
    rw [List.map_append, List.map_cons, List.nodup_append, List.nodup_cons] at hnd
    obtain ⟨_, ⟨hnx, _⟩, _⟩ := hnd
    have e1 : (l.take k).filter (fun x => decide (x.id ≠ i)) = l.take k := List.filter_eq_self.2 fun y hy => by
      have := List.any_eq_false.1 h3 y hy
      simpa using this
    have e2 : (l.drop (k + 1)).filter (fun x => decide (x.id ≠ i)) = l.drop (k + 1) := List.filter_eq_self.2 fun y hy => by
      rw [decide_eq_true_eq]
      intro e
      exact hnx (by rw [hxi, ← e]; exact List.mem_map_of_mem hy)
    conv => rhs; rw [hl]
    rw [List.filter_append, e1, List.filter_cons_of_neg (by simp [hxi]), e2]
theorem del_mem {l : List Tm} (h : UQ l) {i : Int} {x : Tm} : x ∈ delT l i ↔ x ∈ l ∧ x.id ≠ i := by rw [del_filter h]; simp
theorem uq_del {l : List Tm} (h : UQ l) (i : Int) : UQ (delT l i) := by
  rw [del_filter h]
  unfold UQ at h ⊢
  exact h.sublist (List.Sublist.map _ List.filter_sublist)
theorem uq_put {l : List Tm} (h : UQ l) (i a : Int) : UQ (putT l i a) := by
  unfold putT UQ
  rw [List.map_append, List.nodup_append]
  refine ⟨uq_del h i, by simp, fun x hx y hy => ?_⟩
  obtain ⟨z, hz, rfl⟩ := List.mem_map.1 hx
  have hy' : y = i := by simpa using hy
  rw [hy']
  exact ((del_mem h).1 hz).2
theorem uq_perm {l m : List Tm} (hp : l.Perm m) (h : UQ l) : UQ m := (hp.map Tm.id).nodup_iff.1 h
theorem uq_sort {l : List Tm} (h : UQ l) : UQ (sortT l) := uq_perm (sortT_perm l).symm h
theorem uq_start {l : List Tm} (h : UQ l) (i a : Int) : UQ (startT l i a) := by
  unfold startT
  split
  · exact h
  · exact uq_sort (uq_put h i a)
theorem put_mem {l : List Tm} (h : UQ l) {i a : Int} {x : Tm} : x ∈ putT l i a ↔ (x ∈ l ∧ x.id ≠ i) ∨ x = ⟨i, a⟩ := by
  unfold putT
  rw [List.mem_append, del_mem h, List.mem_singleton]
theorem has_del {l : List Tm} (h : UQ l) (i : Int) : hasT (delT l i) i = false := by
  rw [Bool.eq_false_iff, ne_eq, has_iff]
  rintro ⟨x, h1, h2⟩
  exact ((del_mem h).1 h1).2 h2
theorem has_perm {l m : List Tm} (h : ∀ x, x ∈ l ↔ x ∈ m) (i : Int) : hasT l i = hasT m i := by
  rw [Bool.eq_iff_iff, has_iff, has_iff]
  exact ⟨fun ⟨x, h1, h2⟩ => ⟨x, (h x).1 h1, h2⟩, fun ⟨x, h1, h2⟩ => ⟨x, (h x).2 h1, h2⟩⟩
/-- Of one timer's number: the row without it, and it: the same ones. -/
theorem put_same {l : List Tm} (h : UQ l) {i a : Int} (hm : (⟨i, a⟩ : Tm) ∈ l) : (putT l i a).Perm l := by
  have n1 : (putT l i a).Nodup := List.Pairwise.of_map Tm.id (fun x y hxy e => hxy (by rw [e])) (uq_put h i a)
  have n2 : l.Nodup := List.Pairwise.of_map Tm.id (fun x y hxy e => hxy (by rw [e])) h
  refine (List.perm_ext_iff_of_nodup n1 n2).2 fun x => ?_
  rw [put_mem h]
  refine ⟨fun hx => hx.elim (fun h => h.1) (fun e => e ▸ hm), fun hx => ?_⟩
  by_cases hxi : x.id = i
  · right
    obtain ⟨k, hk, rfl⟩ := List.getElem_of_mem hx
    obtain ⟨j, hj, hje⟩ := List.getElem_of_mem hm
    have : (l.map Tm.id)[k]'(by simpa using hk) = (l.map Tm.id)[j]'(by simpa using hj) := by simp [hje, hxi]
    have := (List.getElem_inj h).1 this
    subst this
    exact hje
  · exact .inl ⟨hx, hxi⟩
/-! ### a row that is full -/
def rowF (a : Int) (k : Nat) : List Tm := (List.range k).map fun (j : Nat) => (⟨(j : Int), a⟩ : Tm)
theorem rowF_len (a : Int) (k : Nat) : (rowF a k).length = k := by simp [rowF]
theorem rowF_succ (a : Int) (k : Nat) : rowF a (k + 1) = rowF a k ++ [⟨(k : Int), a⟩] := by simp [rowF, List.range_succ]
theorem rowF_mem {a : Int} {k : Nat} {x : Tm} : x ∈ rowF a k ↔ 0 ≤ x.id ∧ x.id < (k : Int) ∧ x.at_ = a := by
  unfold rowF
  rw [List.mem_map]
  constructor
  · rintro ⟨j, hj, rfl⟩
    have := List.mem_range.1 hj
    exact ⟨by show (0 : Int) ≤ (j : Int); omega, by show (j : Int) < (k : Int); omega, rfl⟩
  · rintro ⟨h1, h2, h3⟩
    refine ⟨x.id.toNat, List.mem_range.2 (by omega), ?_⟩
    cases x
    simp only [Tm.mk.injEq]
    exact ⟨Int.toNat_of_nonneg h1, h3.symm⟩
theorem rowF_sorted (a : Int) : ∀ k, (rowF a k).Pairwise fun x y => ltT y x = false
  | 0 => by simp [rowF]
  | k + 1 => by
    rw [rowF_succ, List.pairwise_append]
    refine ⟨rowF_sorted a k, by simp, fun x hx y hy => ?_⟩
    have h := rowF_mem.1 hx
    have hy' : y = ⟨(k : Int), a⟩ := by simpa using hy
    subst hy'
    simp only [ltT, decide_eq_false_iff_not]
    omega
theorem rowF_uq (a : Int) : ∀ k, UQ (rowF a k)
  | 0 => by simp [rowF, UQ]
  | k + 1 => by
    unfold UQ
    rw [rowF_succ, List.map_append, List.nodup_append]
    refine ⟨rowF_uq a k, by simp, fun x hx y hy => ?_⟩
    obtain ⟨z, hz, rfl⟩ := List.mem_map.1 hx
    have h := rowF_mem.1 hz
    have hy' : y = (k : Int) := by simpa using hy
    omega
theorem rowF_has (a : Int) (k : Nat) (i : Int) : hasT (rowF a k) i = decide (0 ≤ i ∧ i < (k : Int)) := by
  rw [Bool.eq_iff_iff, has_iff, decide_eq_true_eq]
  constructor
  · rintro ⟨x, hx, rfl⟩
    exact ⟨(rowF_mem.1 hx).1, (rowF_mem.1 hx).2.1⟩
  · intro h
    exact ⟨⟨i, a⟩, rowF_mem.2 ⟨h.1, h.2, rfl⟩, rfl⟩
theorem ix_has {l : List Tm} {i : Int} (h : hasT l i = false) : ixT l i < 0 := by
  rcases Int.lt_or_le (ixT l i) 0 with hl | hl
  · exact hl
  · rw [has_yes (by omega)] at h; cases h
theorem fill_step (a : Int) {k : Nat} (hk : k < 32) : startT (rowF a k) k a = rowF a (k + 1) := by
  rw [startT_ok (fullT_small (by rw [rowF_len]; exact hk)), putT, delT_no (ix_has (by rw [rowF_has, decide_eq_false_iff_not]; omega)), ← rowF_succ]
  exact (sortT_uniq (List.Perm.refl _) (rowF_sorted a (k + 1))).symm
theorem fill_err (a : Int) {k : Nat} (hk : k < 32) : errT (rowF a k) k = 0 := errT_ok (fullT_small (by rw [rowF_len]; exact hk))
theorem full_yes (a : Int) {i : Int} (h : i < 0 ∨ 32 ≤ i) : fullT (rowF a 32) i = true := by
  have hh : hasT (rowF a 32) i = false := by
    rw [rowF_has, decide_eq_false_iff_not]
    omega
  unfold fullT
  rw [hh, rowF_len]
  rfl
theorem full_no (a : Int) {i : Int} (h : 0 ≤ i ∧ i < 32) : ¬ fullT (rowF a 32) i = true := by
  have hh : hasT (rowF a 32) i = true := by
    rw [rowF_has, decide_eq_true_eq]
    exact h
  unfold fullT
  rw [hh]
  simp
theorem full_k (a : Int) {i : Int} (h : 0 ≤ i ∧ i < 32) : startT (rowF a 32) i a = rowF a 32 := by
  rw [startT_ok (full_no a h)]
  exact (sortT_uniq (put_same (rowF_uq a 32) (rowF_mem.2 ⟨h.1, h.2, rfl⟩)).symm (rowF_sorted a 32)).symm
section
variable (a k : Int)
def fl1 : List Tm := startT (rowF a 32) 32 a
def fl2 : List Tm := startT (fl1 a) (-1) a
def fl3 : List Tm := startT (fl2 a) k a
def fl4 : List Tm := delT (fl3 a k) k
def fl5 : List Tm := startT (fl4 a k) 32 a
theorem fl1_eq : fl1 a = rowF a 32 := startT_full (full_yes a (.inr (by decide)))
theorem fl2_eq : fl2 a = rowF a 32 := by unfold fl2; rw [fl1_eq]; exact startT_full (full_yes a (.inl (by decide)))
theorem fl_e1 : errT (rowF a 32) 32 = 6 := errT_full (full_yes a (.inr (by decide)))
theorem fl_e2 : errT (fl1 a) (-1) = 6 := by rw [fl1_eq]; exact errT_full (full_yes a (.inl (by decide)))
variable (h : 0 ≤ k ∧ k < 32)
include h
theorem fl3_eq : fl3 a k = rowF a 32 := by unfold fl3; rw [fl2_eq]; exact full_k a h
theorem fl_e3 : errT (fl2 a) k = 0 := by rw [fl2_eq]; exact errT_ok (full_no a h)
theorem fl_n : (fl3 a k).length = 32 := by rw [fl3_eq a k h, rowF_len]
theorem fl_h3 : hasT (fl3 a k) k = true := by rw [fl3_eq a k h, rowF_has, decide_eq_true_eq]; exact h
theorem fl4_len : (fl4 a k).length = 31 := by
  have h3 := fl_h3 a k h
  unfold fl4
  rw [delT_len1 (fun hx => by rw [has_no hx] at h3; cases h3), fl_n a k h]
theorem fl_e5 : errT (fl4 a k) 32 = 0 := errT_ok (fullT_small (by rw [fl4_len a k h]; decide))
theorem fl_h5 : hasT (fl5 a k) k = false := by
  have hu : UQ (fl4 a k) := by unfold fl4; rw [fl3_eq a k h]; exact uq_del (rowF_uq a 32) k
  unfold fl5
  rw [startT_ok (fullT_small (by rw [fl4_len a k h]; decide)), has_perm (fun x => (sortT_perm _).mem_iff), Bool.eq_false_iff, ne_eq, has_iff]
  rintro ⟨x, h1, h2⟩
  rcases (put_mem hu).1 h1 with h3 | h3
  · have hd := has_del (rowF_uq a 32) k
    have h4 : x ∈ delT (rowF a 32) k := by have := h3.1; unfold fl4 at this; rwa [fl3_eq a k h] at this
    rw [Bool.eq_false_iff, ne_eq, has_iff] at hd
    exact hd ⟨x, h4, h2⟩
  · rw [h3] at h2
    have : (32 : Int) = k := h2
    omega
end
theorem fl_facts {L : List Tm} {a k : Int} (hL : L = rowF a 32) (h : 0 ≤ k ∧ k < 32) : L.length = 32 ∧ errT L 32 = 6 ∧ errT (startT L 32 a) (-1) = 6 ∧ errT (startT (startT L 32 a) (-1) a) k = 0 ∧ (startT (startT (startT L 32 a) (-1) a) k a).length = 32 ∧
    hasT (startT (startT (startT L 32 a) (-1) a) k a) k = true ∧ errT (delT (startT (startT (startT L 32 a) (-1) a) k a) k) 32 = 0 ∧ hasT (startT (delT (startT (startT (startT L 32 a) (-1) a) k a) k) 32 a) k = false := by
  subst hL
  exact ⟨rowF_len a 32, fl_e1 a, fl_e2 a, fl_e3 a k h, fl_n a k h, fl_h3 a k h, fl_e5 a k h, fl_h5 a k h⟩
end Go.Lo
