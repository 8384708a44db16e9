/- Numbers, rising, each once. -/
import Derived.Test.YthfmdljohlolpaaLay
set_option linter.unusedVariables false
set_option linter.unusedSimpArgs false
namespace Go.Lo
/-! ### numbers, rising, each once -/
def riseC (l out : List Int) (b : Int) (i : Nat) : Bool := (decide (out.length = 0) || decide (l.getD i 0 > out.getD (out.length - 1) 0)) && (decide (b < 0) || decide (l.getD i 0 < l.getD b.toNat 0))
def bestK (l out : List Int) : Nat → Int
  | 0 => -1
  | i + 1 => if riseC l out (bestK l out i) i then (i : Int) else bestK l out i
theorem bestK_on {l out : List Int} {i : Nat} (h : riseC l out (bestK l out i) i = true) : bestK l out (i + 1) = (i : Int) := by unfold bestK; rw [if_pos h]
theorem bestK_off {l out : List Int} {i : Nat} (h : riseC l out (bestK l out i) i = false) : bestK l out (i + 1) = bestK l out i := by
  conv => lhs; unfold bestK
  rw [if_neg (by simp [h])]
theorem bestK_range (l out : List Int) (i : Nat) : bestK l out i = -1 ∨ (0 ≤ bestK l out i ∧ bestK l out i < (i : Int)) := by
  induction i with
  | zero => exact .inl rfl
  | succ i ih =>
    unfold bestK
    split
    · right; omega
    · omega
def overO (out : List Int) (x : Int) : Prop := out.length = 0 ∨ x > out.getD (out.length - 1) 0
theorem bestK_spec (l out : List Int) (i : Nat) : (bestK l out i = -1 → ∀ j, j < i → ¬ overO out (l.getD j 0)) ∧ (∀ b : Nat, bestK l out i = (b : Int) → overO out (l.getD b 0) ∧ ∀ j, j < i → overO out (l.getD j 0) → l.getD b 0 ≤ l.getD j 0) := by
  induction i with
  | zero => exact ⟨fun _ j h => by omega, fun b h => by simp [bestK] at h⟩
  | succ i ih =>
    have hr := bestK_range l out i
    cases hc : riseC l out (bestK l out i) i with
    | true =>
      rw [bestK_on hc]
      simp only [riseC, Bool.and_eq_true, Bool.or_eq_true, decide_eq_true_eq] at hc
      refine ⟨fun h => by omega, fun b h => ?_⟩
      have hb : b = i := by omega
      subst hb
      refine ⟨hc.1, fun j hj ho => ?_⟩
      rcases Nat.lt_or_ge j b with hlt | hge
      · rcases hr with hr | hr
        · exact absurd ho (ih.1 hr j hlt)
        · have h2 := ih.2 (bestK l out b).toNat (by omega)
          have h3 := h2.2 j hlt ho
          rcases hc.2 with h4 | h4 <;> omega
      · have : j = b := by omega
        subst this; omega
    | false =>
      rw [bestK_off hc]
      simp only [riseC, Bool.and_eq_false_iff, Bool.or_eq_false_iff, decide_eq_false_iff_not] at hc
      refine ⟨fun h j hj => ?_, fun b h => ?_⟩
      · rcases Nat.lt_or_ge j i with hlt | hge
        · exact ih.1 h j hlt
        · have : j = i := by omega
          subst this
          intro ho
          rcases hc with hc | hc
          · rcases ho with ho | ho
            · exact hc.1 ho
            · exact hc.2 ho
          · omega
      · obtain ⟨h1, h2⟩ := ih.2 b h
        refine ⟨h1, fun j hj ho => ?_⟩
        rcases Nat.lt_or_ge j i with hlt | hge
        · exact h2 j hlt ho
        · have : j = i := by omega
          subst this
          rcases hc with hc | hc
          · rcases ho with ho | ho
            · exact absurd ho hc.1
            · exact absurd ho hc.2
          · rw [h, Int.toNat_natCast] at hc
            omega
def riseK (l : List Int) : Nat → List Int
  | 0 => []
  | k + 1 => if bestK l (riseK l k) l.length < 0 then riseK l k else riseK l k ++ [l.getD (bestK l (riseK l k) l.length).toNat 0]
def riseL (l : List Int) : List Int := riseK l l.length
theorem riseK_on {l : List Int} {k : Nat} (h : ¬ bestK l (riseK l k) l.length < 0) : riseK l (k + 1) = riseK l k ++ [l.getD (bestK l (riseK l k) l.length).toNat 0] := by
  conv => lhs; unfold riseK
  rw [if_neg h]
theorem riseK_stop {l : List Int} {k : Nat} (h : bestK l (riseK l k) l.length < 0) (j : Nat) : riseK l (k + j) = riseK l k := by
  induction j with
  | zero => rfl
  | succ j ih =>
    rw [← Nat.add_assoc]
    conv => lhs; unfold riseK
    rw [ih, if_pos h]
/-- What was found so far: rising, of the list; and all of the list up to the last one. -/
structure RiseOk (l out : List Int) : Prop where
  sub : ∀ x, x ∈ out → x ∈ l
  asc : out.Pairwise (· < ·)
  all : ∀ x, x ∈ l → ¬ overO out x → x ∈ out
theorem last_ge {out : List Int} (h : out.Pairwise (· < ·)) (h0 : 0 < out.length) {x : Int} (hx : x ∈ out) : x ≤ out.getD (out.length - 1) 0 := by
  obtain ⟨i, hi, rfl⟩ := List.getElem_of_mem hx
  rw [List.getD_eq_getElem?_getD, List.getElem?_eq_getElem (by omega)]
  show out[i] ≤ out[out.length - 1]
  rcases Nat.lt_or_ge i (out.length - 1) with hlt | hge
  · exact Int.le_of_lt (List.pairwise_iff_getElem.1 h i (out.length - 1) hi (by omega) hlt)
  · have : i = out.length - 1 := by omega
    subst this; exact Int.le_refl _
theorem riseOk (l : List Int) : ∀ k, RiseOk l (riseK l k)
  | 0 => ⟨fun x h => (by cases h), List.Pairwise.nil, fun x _ h => absurd (show overO [] x from Or.inl rfl) h⟩
  | k + 1 => by
    have ih := riseOk l k
    by_cases hb : bestK l (riseK l k) l.length < 0
    · rw [riseK_stop hb 1]; exact ih
    · rw [riseK_on hb]
      have hr := bestK_range l (riseK l k) l.length
      obtain ⟨b, hbn⟩ : ∃ b : Nat, bestK l (riseK l k) l.length = (b : Int) := ⟨(bestK l (riseK l k) l.length).toNat, by omega⟩
      have hs := (bestK_spec l (riseK l k) l.length).2 b hbn
      rw [hbn, Int.toNat_natCast]
      have hbl : b < l.length := by omega
      have hlast : (riseK l k ++ [l.getD b 0]).getD ((riseK l k ++ [l.getD b 0]).length - 1) 0 = l.getD b 0 := by
        simp
      refine ⟨fun x hx => ?_, ?_, fun x hx ho => ?_⟩
      · rcases List.mem_append.1 hx with hx | hx
        · exact ih.sub x hx
        · rw [List.mem_singleton.1 hx]; exact getD_mem 0 hbl
      · refine List.pairwise_append.2 ⟨ih.asc, List.pairwise_singleton _ _, fun x hx y hy => ?_⟩
        rw [List.mem_singleton.1 hy]
        rcases hs.1 with h1 | h1
        · rw [List.length_eq_zero_iff.1 h1] at hx; cases hx
        · have := last_ge ih.asc (List.length_pos_of_mem hx) hx
          omega
      · have hle : ¬ x > l.getD b 0 := fun h => ho (.inr (by rw [hlast]; exact h))
        by_cases hov : overO (riseK l k) x
        · obtain ⟨j, hj, rfl⟩ := List.getElem_of_mem hx
          have hg : l.getD j 0 = l[j] := by simp [hj]
          have := hs.2 j hj (by rw [hg]; exact hov)
          rw [hg] at this
          exact List.mem_append_right _ (List.mem_singleton.2 (by omega))
        · exact List.mem_append_left _ (ih.all x hx hov)
theorem nodup_len {α : Type} [DecidableEq α] : ∀ (a l : List α), a.Nodup → (∀ x, x ∈ a → x ∈ l) → a.length ≤ l.length
  | [], l, _, _ => by simp
  | x :: a, l, hn, hs => by
    have hx := hs x List.mem_cons_self
    have := nodup_len a (l.erase x) (List.nodup_cons.1 hn).2 (fun y hy => (List.mem_erase_of_ne (fun e => (List.nodup_cons.1 hn).1 (by rw [← e]; exact hy))).2 (hs y (List.mem_cons_of_mem _ hy)))
    rw [List.length_erase_of_mem hx] at this
    have := List.length_pos_of_mem hx
    simp; omega
theorem RiseOk.nodup {l out : List Int} (h : RiseOk l out) : out.Nodup := h.asc.imp (fun h e => by omega)
theorem RiseOk.len {l out : List Int} (h : RiseOk l out) : out.length ≤ l.length := nodup_len _ _ h.nodup h.sub
theorem riseK_len {l : List Int} {k : Nat} (hk : (riseK l k).length = k) (hb : ¬ bestK l (riseK l k) l.length < 0) : (riseK l (k + 1)).length = k + 1 ∧ k + 1 ≤ l.length := by
  have h1 : (riseK l (k + 1)).length = k + 1 := by rw [riseK_on hb, List.length_append, hk]; rfl
  exact ⟨h1, by rw [← h1]; exact (riseOk l (k + 1)).len⟩
theorem riseK_end {l : List Int} {k : Nat} (hk : (riseK l k).length = k) (hb : bestK l (riseK l k) l.length < 0) : riseK l k = riseL l := by
  have : k ≤ l.length := by rw [← hk]; exact (riseOk l k).len
  unfold riseL
  rw [show l.length = k + (l.length - k) by omega, riseK_stop hb]
theorem riseK_grow (l : List Int) : ∀ k, (riseK l k).length = k ∨ bestK l (riseK l k) l.length < 0
  | 0 => .inl rfl
  | k + 1 => by
    rcases riseK_grow l k with h | h
    · by_cases hb : bestK l (riseK l k) l.length < 0
      · right; rw [riseK_stop hb 1]; exact hb
      · left; exact (riseK_len h hb).1
    · right; rw [riseK_stop h 1]; exact h
theorem riseL_mem {l : List Int} {x : Int} (h : x ∈ l) : x ∈ riseL l := by
  have hok := riseOk l l.length
  show x ∈ riseK l l.length
  refine hok.all x h fun ho => ?_
  obtain ⟨j, hj, rfl⟩ := List.getElem_of_mem h
  have hg : l.getD j 0 = l[j] := by simp [hj]
  rcases riseK_grow l l.length with h1 | h1
  · -- as long as the list: one more would be too many
    by_cases hb : bestK l (riseK l l.length) l.length < 0
    · have hr := bestK_range l (riseK l l.length) l.length
      exact (bestK_spec l (riseK l l.length) l.length).1 (by omega) j hj (by rw [hg]; exact ho)
    · have := (riseK_len h1 hb).2; omega
  · have hr := bestK_range l (riseK l l.length) l.length
    exact (bestK_spec l (riseK l l.length) l.length).1 (by omega) j hj (by rw [hg]; exact ho)
theorem riseL_len (l : List Int) : (riseL l).length ≤ l.length := (riseOk l l.length).len
theorem riseL_sub {l : List Int} {x : Int} (h : x ∈ riseL l) : x ∈ l := (riseOk l l.length).sub x h
theorem riseL_nodup {l : List Int} (h : l.Nodup) : (riseL l).length = l.length := Nat.le_antisymm (riseL_len l) (nodup_len _ _ h fun x hx => riseL_mem hx)
theorem shorter {l : List Int} (h : ¬ l.Nodup) : ∃ m : List Int, m.length < l.length ∧ ∀ x, x ∈ l → x ∈ m := by
  induction l with
  | nil => exact absurd List.nodup_nil h
  | cons a l ih =>
    by_cases ha : a ∈ l
    · exact ⟨l, by simp, fun x hx => (List.mem_cons.1 hx).elim (fun e => e ▸ ha) id⟩
    · obtain ⟨m, h1, h2⟩ := ih fun hn => h (List.nodup_cons.2 ⟨ha, hn⟩)
      exact ⟨a :: m, by simpa using h1, fun x hx => (List.mem_cons.1 hx).elim (fun e => by rw [e]; exact List.mem_cons_self) (fun hx => List.mem_cons_of_mem _ (h2 x hx))⟩
theorem riseL_iff (l : List Int) : (riseL l).length = l.length ↔ l.Nodup := by
  refine ⟨fun h => ?_, riseL_nodup⟩
  apply Classical.byContradiction
  intro hn
  obtain ⟨m, h1, h2⟩ := shorter hn
  have := nodup_len (riseL l) m (riseOk l l.length).nodup fun x hx => h2 x (riseL_sub hx)
  omega
end Go.Lo
