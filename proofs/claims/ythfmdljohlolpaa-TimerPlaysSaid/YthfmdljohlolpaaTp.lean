/- Timers: whatever is done with them: the program's row is the document's, in its order. -/
import Derived.Test.YthfmdljohlolpaaTi
set_option linter.unusedVariables false
set_option linter.unusedSimpArgs false
namespace Go.Lo
/-! ### an act -/
structure Ta where
  dw : Int
  id : Int
  at_ : Int
def dTa : Ta := ⟨0, 0, 0⟩
def eTa (x : Ta) : List AV := [.v (.int .u8 x.dw), .v (.int .i64 x.id), .v (.int .i64 x.at_)]
instance (x : Ta) : NoIL (eTa x) := inferInstanceAs (NoIL [_, _, _])
structure TaOk (x : Ta) : Prop where
  dw : 0 ≤ x.dw ∧ x.dw ≤ 255
  at_ : I64 x.at_
def idA (x : Ta) (few : Bool) : Int := if few = true then x.id.tmod 6 else x.id
def atA (x : Ta) (few : Bool) : Int := if few = true then x.at_.tmod 30 else x.at_
theorem atA_ok {x : Ta} (h : TaOk x) (few : Bool) : I64 (atA x few) := by
  obtain ⟨h1, h2⟩ := h.at_
  unfold atA
  split
  · have := Int.tmod_lt_of_pos x.at_ (b := 30) (by decide)
    have := Int.lt_tmod_of_pos x.at_ (b := 30) (by decide)
    exact ⟨by omega, by omega⟩
  · exact ⟨h1, h2⟩
structure PlOk (m : List Tm) : Prop where
  uq : UQ m
  len : m.length ≤ 32
  w : ∀ x, x ∈ m → I64 x.at_
theorem plOk_nil : PlOk [] := ⟨by simp [UQ], by simp, fun x h => by simp at h⟩
theorem dstart_len {m : List Tm} {i a : Int} (h : m.length ≤ 32) : (dstartT m i a).length ≤ 32 := by
  have := startT_len (i := i) (a := a) h
  unfold startT at this
  unfold dstartT
  split
  · exact h
  · rename_i hf
    rw [if_neg hf, sortT_len] at this
    exact this
theorem plOk_start {m : List Tm} {i a : Int} (h : PlOk m) (ha : I64 a) : PlOk (dstartT m i a) := by
  refine ⟨?_, dstart_len h.len, ?_⟩
  · unfold dstartT
    split
    · exact h.uq
    · exact uq_put h.uq i a
  · unfold dstartT
    split
    · exact h.w
    · intro x hx
      rcases (put_mem h.uq).1 hx with ⟨h1, _⟩ | rfl
      · exact h.w x h1
      · exact ha
theorem plOk_del {m : List Tm} (h : PlOk m) (i : Int) : PlOk (delT m i) := ⟨uq_del h.uq i, by have := delT_len (l := m) (i := i); have := h.len; omega, fun x hx => h.w x ((del_mem h.uq).1 hx).1⟩
/-! ### the program's row: the document's, in order -/
section
variable {m : List Tm}
theorem s_mem {x : Tm} : x ∈ sortT m ↔ x ∈ m := (sortT_perm m).mem_iff
theorem s_has (i : Int) : hasT (sortT m) i = hasT m i := has_perm (fun _ => s_mem) i
theorem s_del (h : UQ m) (i : Int) : delT (sortT m) i = sortT (delT m i) := by
  rw [del_filter h, del_filter (uq_sort h)]
  exact sortT_uniq ((sortT_perm m).filter _) ((sortT_sorted m).filter _)
theorem s_full (i : Int) : fullT (sortT m) i = fullT m i := by unfold fullT; rw [s_has, sortT_len]
theorem s_err (i : Int) : errT (sortT m) i = errT m i := by unfold errT; rw [s_full]
theorem s_start (h : UQ m) (i a : Int) : startT (sortT m) i a = sortT (dstartT m i a) := by
  unfold startT dstartT
  rw [s_full]
  split
  · rfl
  · refine sortT_congr ?_
    unfold putT
    rw [s_del h]
    exact (sortT_perm _).append_right _
/-- One's timer: there is but one of a number. -/
theorem at_ix {l : List Tm} {i : Int} (h : ¬ ixT l i < 0) : l.getD (ixT l i).toNat dT ∈ l ∧ (l.getD (ixT l i).toNat dT).id = i := by
  obtain ⟨k, h1, h2, h3, h4⟩ := idxB_found (f := fun x : Tm => decide (x.id = i)) dT (l := l) (fun e => h (by unfold ixT; rw [e]; decide))
  have hk : (ixT l i).toNat = k := by unfold ixT; rw [h1]; rfl
  rw [hk]
  exact ⟨getD_mem dT h2, by simpa using h4⟩
theorem uq_one {l : List Tm} (h : UQ l) {x y : Tm} (hx : x ∈ l) (hy : y ∈ l) (he : x.id = y.id) : x = y := by
  obtain ⟨k, hk, rfl⟩ := List.getElem_of_mem hx
  obtain ⟨j, hj, rfl⟩ := List.getElem_of_mem hy
  have : (l.map Tm.id)[k]'(by simpa using hk) = (l.map Tm.id)[j]'(by simpa using hj) := by simpa using he
  have := (List.getElem_inj h).1 this
  subst this
  rfl
theorem ix_neg {l : List Tm} {i : Int} : ixT l i < 0 ↔ hasT l i = false := by unfold hasT; simp
theorem s_left (h : UQ m) (i now : Int) : leftT (sortT m) i now = leftT m i now := by
  unfold leftT
  by_cases hx : ixT m i < 0
  · rw [if_pos hx, if_pos (by rw [ix_neg, s_has, ← ix_neg]; exact hx)]
  · have hx2 : ¬ ixT (sortT m) i < 0 := by rw [ix_neg, s_has, ← ix_neg]; exact hx
    obtain ⟨h1, h2⟩ := at_ix hx
    obtain ⟨h3, h4⟩ := at_ix hx2
    rw [if_neg hx, if_neg hx2, uq_one h (s_mem.1 h3) h1 (h4.trans h2.symm)]
/-! ### those that end -/
end
/-- The document's search of the least one that has ended. -/
def bstC (m : List Tm) (now : Int) (k : Nat) (b : Int) : Bool :=
  decide ((m.getD k dT).at_ ≤ now) && (((decide (b < 0)) || (decide ((m.getD k dT).at_ < (m.getD b.toNat dT).at_))) || (((m.getD k dT).at_ == (m.getD b.toNat dT).at_) && (decide ((m.getD k dT).id < (m.getD b.toNat dT).id))))
def bstT (m : List Tm) (now : Int) : Nat → Int
  | 0 => -1
  | k + 1 => if bstC m now k (bstT m now k) = true then (k : Int) else bstT m now k
def endI (m : List Tm) (now : Int) : Int := if bstT m now m.length < 0 then 0 else (m.getD (bstT m now m.length).toNat dT).id
def endB (m : List Tm) (now : Int) : Bool := decide (¬ bstT m now m.length < 0)
theorem bst_range (m : List Tm) (now : Int) : ∀ k, -1 ≤ bstT m now k ∧ bstT m now k < (k : Int)
  | 0 => ⟨Int.le_refl _, by show (-1 : Int) < 0; decide⟩
  | k + 1 => by
    have := bst_range m now k
    unfold bstT
    split <;> omega
theorem bst_yes {m : List Tm} {now : Int} {k : Nat} (h : bstC m now k (bstT m now k) = true) : (k : Int) = bstT m now (k + 1) := by
  show _ = if _ then _ else _
  rw [if_pos h]
theorem bst_no {m : List Tm} {now : Int} {k : Nat} (h : bstC m now k (bstT m now k) = false) : bstT m now k = bstT m now (k + 1) := by
  show _ = if _ then _ else _
  rw [if_neg (by rw [h]; simp)]
/-- What it finds: the least of those that have ended. -/
theorem bst_spec (m : List Tm) (now : Int) : ∀ k, k ≤ m.length → (bstT m now k < 0 ∧ ∀ j, j < k → ¬ (m.getD j dT).at_ ≤ now) ∨
    (¬ bstT m now k < 0 ∧ (m.getD (bstT m now k).toNat dT).at_ ≤ now ∧ ∀ j, j < k → (m.getD j dT).at_ ≤ now → ltT (m.getD j dT) (m.getD (bstT m now k).toNat dT) = false)
  | 0, _ => .inl ⟨by show (-1 : Int) < 0; decide, fun j h => by omega⟩
  | k + 1, hk => by
    have ih := bst_spec m now k (by omega)
    have hr := bst_range m now k
    by_cases hc : bstC m now k (bstT m now k) = true
    · rw [← bst_yes hc]
      right
      unfold bstC at hc
      simp only [Bool.and_eq_true, Bool.or_eq_true, decide_eq_true_eq, beq_iff_eq] at hc
      obtain ⟨h1, h2⟩ := hc
      refine ⟨by omega, by simpa using h1, fun j hj ha => ?_⟩
      rw [Int.toNat_natCast]
      simp only [ltT, decide_eq_false_iff_not]
      rcases Nat.lt_or_ge j k with hjk | hjk
      · rcases ih with ⟨_, i2⟩ | ⟨i1, i2, i3⟩
        · exact absurd ha (i2 j hjk)
        · have := i3 j hjk ha
          simp only [ltT, decide_eq_false_iff_not] at this
          omega
      · obtain rfl : j = k := by omega
        omega
    · have hc2 : bstC m now k (bstT m now k) = false := by simpa using hc
      rw [← bst_no hc2]
      unfold bstC at hc2
      rcases ih with ⟨i1, i2⟩ | ⟨i1, i2, i3⟩
      · left
        refine ⟨i1, fun j hj => ?_⟩
        rcases Nat.lt_or_ge j k with hjk | hjk
        · exact i2 j hjk
        · obtain rfl : j = k := by omega
          intro ha
          rw [decide_eq_true ha, decide_eq_true i1] at hc2
          simp at hc2
      · right
        refine ⟨i1, i2, fun j hj ha => ?_⟩
        rcases Nat.lt_or_ge j k with hjk | hjk
        · exact i3 j hjk ha
        · obtain rfl : j = k := by omega
          rw [decide_eq_true ha, Bool.true_and] at hc2
          simp only [Bool.or_eq_false_iff, Bool.and_eq_false_iff, decide_eq_false_iff_not, beq_eq_false_iff_ne] at hc2
          simp only [ltT, decide_eq_false_iff_not]
          omega
/-- Of a row whose order is this one: the first one, if it has ended. -/
theorem end_next {m r : List Tm} {now : Int} {x : Tm} (h : sortT m = x :: r) (hx : x.at_ ≤ now) : endB m now = true ∧ endI m now = x.id := by
  have hmem : ∀ y, y ∈ m ↔ y ∈ x :: r := fun y => by rw [← h]; exact s_mem.symm
  have hs : (x :: r).Pairwise fun a b => ltT b a = false := by rw [← h]; exact sortT_sorted m
  obtain ⟨k, hk, hke⟩ := List.getElem_of_mem ((hmem x).2 List.mem_cons_self)
  have hkd : m.getD k dT = x := by rw [List.getD_eq_getElem?_getD, List.getElem?_eq_getElem hk, hke]; rfl
  rcases bst_spec m now m.length (Nat.le_refl _) with ⟨h1, h2⟩ | ⟨h1, h2, h3⟩
  · exact absurd (by rw [hkd]; exact hx) (h2 k hk)
  · have hr := bst_range m now m.length
    have h4 := h3 k hk (by rw [hkd]; exact hx)
    rw [hkd] at h4
    have h5 : ltT (m.getD (bstT m now m.length).toNat dT) x = false := by
      have := (hmem _).1 (getD_mem dT (show (bstT m now m.length).toNat < m.length by omega))
      rcases List.mem_cons.1 this with e | hm
      · rw [e]; exact swoT.irrefl x
      · exact (List.pairwise_cons.1 hs).1 _ hm
    have h6 := ltT_anti _ _ h5 h4
    exact ⟨decide_eq_true h1, by unfold endI; rw [if_neg h1, h6]⟩
theorem end_none {m : List Tm} {now : Int} (h : ∀ x, x ∈ m → now < x.at_) : endB m now = false := by
  rcases bst_spec m now m.length (Nat.le_refl _) with ⟨h1, h2⟩ | ⟨h1, h2, h3⟩
  · unfold endB; rw [decide_eq_false_iff_not]; exact fun h => h h1
  · have hr := bst_range m now m.length
    have := h _ (getD_mem dT (show (bstT m now m.length).toNat < m.length by omega))
    omega
/-- The document's timers, those that have ended taken out one by one. -/
def dlT (m : List Tm) (now : Int) : Nat → List Tm
  | 0 => m
  | k + 1 => delT (dlT m now k) (endI (dlT m now k) now)
section
variable {m : List Tm} {now : Int}
theorem dl_ok (h : PlOk m) : ∀ k, PlOk (dlT m now k)
  | 0 => h
  | k + 1 => plOk_del (dl_ok h k) _
theorem dl_sort (h : PlOk m) : ∀ k, k ≤ (endL now (sortT m)).length → sortT (dlT m now k) = (endL now (sortT m)).drop k ++ restL now (sortT m)
  | 0, _ => by rw [List.drop_zero, end_rest]; rfl
  | k + 1, hk => by
    have ih := dl_sort h k (by omega)
    have hu := (dl_ok (now := now) h k).uq
    rw [List.drop_eq_getElem_cons (show k < (endL now (sortT m)).length by omega), List.cons_append] at ih
    have hx : (endL now (sortT m))[k].at_ ≤ now := end_le (List.getElem_mem _)
    obtain ⟨_, h2⟩ := end_next ih hx
    show sortT (delT (dlT m now k) (endI (dlT m now k) now)) = _
    rw [h2, ← s_del hu, ih, del_filter (by rw [← ih]; exact uq_sort hu), List.filter_cons_of_neg (by simp)]
    refine List.filter_eq_self.2 fun y hy => ?_
    have hn : UQ ((endL now (sortT m))[k] :: ((endL now (sortT m)).drop (k + 1) ++ restL now (sortT m))) := by rw [← ih]; exact uq_sort hu
    unfold UQ at hn
    rw [List.map_cons, List.nodup_cons] at hn
    rw [decide_eq_true_eq]
    exact fun e => hn.1 (by rw [← e]; exact List.mem_map_of_mem hy)
theorem dl_yes (h : PlOk m) {k : Nat} (hk : k < (endL now (sortT m)).length) : endB (dlT m now k) now = true ∧ endI (dlT m now k) now = (idsT (endL now (sortT m))).getD k 0 := by
  have ih := dl_sort (now := now) h k (by omega)
  rw [List.drop_eq_getElem_cons hk, List.cons_append] at ih
  obtain ⟨h1, h2⟩ := end_next ih (end_le (List.getElem_mem _))
  refine ⟨h1, h2.trans ?_⟩
  rw [(ids_get _ k (by simpa [idsT] using hk)).1, List.getD_eq_getElem?_getD, List.getElem?_eq_getElem hk]
  rfl
theorem dl_no (h : PlOk m) {k : Nat} (hk : k = (endL now (sortT m)).length) : endB (dlT m now k) now = false := by
  have ih := dl_sort (now := now) h k (by omega)
  rw [List.drop_of_length_le (by omega), List.nil_append] at ih
  exact end_none fun x hx => rest_gt (sortT_sorted m) x (by rw [← ih]; exact s_mem.2 hx)
theorem dl_end (h : PlOk m) {k : Nat} (hk : k = (endL now (sortT m)).length) : sortT (dlT m now k) = restL now (sortT m) := by
  have ih := dl_sort (now := now) h k (by omega)
  rwa [List.drop_of_length_le (by omega), List.nil_append] at ih
end
theorem dl_stop {m : List Tm} {now : Int} (h : PlOk m) {k : Nat} (hk : k ≤ (endL now (sortT m)).length) (hc : (!(endB (dlT m now k) now)) = true) : k = (endL now (sortT m)).length := by
  rcases Nat.lt_or_ge k (endL now (sortT m)).length with h1 | h1
  · rw [(dl_yes h h1).1] at hc; cases hc
  · omega
theorem dl_go {m : List Tm} {now : Int} (h : PlOk m) {k : Nat} (hk : k ≤ (endL now (sortT m)).length) (hc : (!(endB (dlT m now k) now)) = false) : k < (endL now (sortT m)).length := by
  rcases Nat.lt_or_ge k (endL now (sortT m)).length with h1 | h1
  · exact h1
  · rw [dl_no h (Nat.le_antisymm hk h1)] at hc; cases hc
theorem ids_len (l : List Tm) : (idsT l).length = l.length := by unfold idsT; exact List.length_map _
/-! ### the story -/
def stepP (m : List Tm) (x : Ta) (few : Bool) : List Tm :=
  if x.dw % 6 = 0 ∨ x.dw % 6 = 1 ∨ x.dw % 6 = 2 then dstartT m (idA x few) (atA x few) else if x.dw % 6 = 3 then delT m (idA x few) else if x.dw % 6 = 4 then dlT m (atA x few) (endL (atA x few) (sortT m)).length else m
def playD (l : List Ta) (few : Bool) : Nat → List Tm
  | 0 => []
  | k + 1 => stepP (playD l few k) (l.getD k dTa) few
theorem plOk_step {m : List Tm} {x : Ta} (h : PlOk m) (hx : TaOk x) (few : Bool) : PlOk (stepP m x few) := by
  unfold stepP
  split
  · exact plOk_start h (atA_ok hx few)
  · split
    · exact plOk_del h _
    · split
      · exact dl_ok h _
      · exact h
theorem plOk_play {l : List Ta} (h : ∀ x, x ∈ l → TaOk x) (few : Bool) : ∀ k, k ≤ l.length → PlOk (playD l few k)
  | 0, _ => plOk_nil
  | k + 1, hk => plOk_step (plOk_play h few k (by omega)) (h _ (getD_mem dTa (show k < l.length by omega))) few
section
variable {l : List Ta} {few : Bool} {k : Nat}
theorem step_0 (h : ((((l.getD k dTa).dw % 6 == 0) || ((l.getD k dTa).dw % 6 == 1)) || ((l.getD k dTa).dw % 6 == 2)) = true) : playD l few (k + 1) = dstartT (playD l few k) (idA (l.getD k dTa) few) (atA (l.getD k dTa) few) := by
  show stepP _ _ _ = _
  unfold stepP
  rw [if_pos (by simp only [Bool.or_eq_true, beq_iff_eq] at h; omega)]
theorem step_3 (h : ((l.getD k dTa).dw % 6 == 3) = true) : playD l few (k + 1) = delT (playD l few k) (idA (l.getD k dTa) few) := by
  have h := beq_iff_eq.1 h
  show stepP _ _ _ = _
  unfold stepP
  rw [if_neg (by omega), if_pos h]
theorem step_4 (h : ((l.getD k dTa).dw % 6 == 4) = true) : playD l few (k + 1) = dlT (playD l few k) (atA (l.getD k dTa) few) (endL (atA (l.getD k dTa) few) (sortT (playD l few k))).length := by
  have h := beq_iff_eq.1 h
  show stepP _ _ _ = _
  unfold stepP
  rw [if_neg (by omega), if_neg (by omega), if_pos h]
theorem step_5 (h0 : ¬ ((l.getD k dTa).dw % 6 = 0 ∨ (l.getD k dTa).dw % 6 = 1 ∨ (l.getD k dTa).dw % 6 = 2)) (h3 : ¬ (l.getD k dTa).dw % 6 = 3) (h4 : ¬ (l.getD k dTa).dw % 6 = 4) : playD l few (k + 1) = playD l few k := by
  show stepP _ _ _ = _
  unfold stepP
  rw [if_neg h0, if_neg h3, if_neg h4]
theorem step_5b (h0 : ((((l.getD k dTa).dw % 6 == 0) || ((l.getD k dTa).dw % 6 == 1)) || ((l.getD k dTa).dw % 6 == 2)) = false) (h3 : ((l.getD k dTa).dw % 6 == 3) = false) (h4 : ((l.getD k dTa).dw % 6 == 4) = false) : playD l few (k + 1) = playD l few k := by
  simp only [Bool.or_eq_false_iff, beq_eq_false_iff_ne] at h0 h3 h4
  exact step_5 (by omega) h3 h4
theorem s_nil : (sortT (playD l few 0)).length = 0 := by rw [sortT_len]; rfl
theorem s_nil2 : sortT (playD l few 0) = [] := List.eq_nil_of_length_eq_zero s_nil
end
end Go.Lo
