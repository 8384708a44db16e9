/- Part of the logic of values: what the law reaches. -/
import Derived.Test.YtdeajfldegcdaaaPFnOrqTk
set_option linter.unusedVariables false
set_option linter.unusedSimpArgs false
namespace Go.Lo
section
variable {routes parts : List (List Int)} {st ow : List Int} {now r tr en : Int} {ps new : List Int}
theorem tnK_eq (hl : new.length = ps.length) (h : ∀ i, i < ps.length → tnP routes parts st ow now ⟨r, tr, en, new.take i ++ ps.drop i⟩ i = new.getD i 0) : ∀ k, k ≤ ps.length → tnK routes parts st ow now r tr en ps k = new.take k ++ ps.drop k
 | 0, _ => rfl
 | k + 1, hk => by
  have ih := tnK_eq hl h k (by omega)
  show (tnK routes parts st ow now r tr en ps k).set k (tnP routes parts st ow now ⟨r, tr, en, tnK routes parts st ow now r tr en ps k⟩ k) = _
  rw [ih, h k (by omega)]
  have hk2 : k < new.length := by omega
  rw [List.set_append_right _ _ (by rw [List.length_take]; omega), show k - (new.take k).length = 0 by rw [List.length_take]; omega, List.drop_eq_getElem_cons (by omega : k < ps.length), List.set_cons_zero, List.take_succ_eq_append_getElem hk2, List.append_assoc, List.getD_eq_getElem?_getD, List.getElem?_eq_getElem hk2]
  rfl
theorem tnK_all (hl : new.length = ps.length) (h : ∀ i, i < ps.length → tnP routes parts st ow now ⟨r, tr, en, new.take i ++ ps.drop i⟩ i = new.getD i 0) : tnK routes parts st ow now r tr en ps ps.length = new := by
 rw [tnK_eq hl h ps.length (Nat.le_refl _), List.drop_length, List.append_nil, ← hl, List.take_length]
end
theorem mix_getD {new ps : List Int} {i : Nat} (h : i < ps.length) (hl : new.length = ps.length) : (new.take i ++ ps.drop i).getD i 0 = ps.getD i 0 := by
 rw [List.getD_eq_getElem?_getD, List.getD_eq_getElem?_getD, List.getElem?_append_right (by rw [List.length_take]; omega), List.length_take, List.getElem?_drop]
 congr 2; omega
theorem mix_take {new ps : List Int} {i : Nat} (h : i < ps.length) (hl : new.length = ps.length) : (new.take i ++ ps.drop i).take i = new.take i := by
 rw [List.take_append_of_le_length (by rw [List.length_take]; omega), List.take_take, Nat.min_self]
def stI (p : List Int) (n i : Nat) : List Int := (List.range n).map fun (x : Nat) => if (x : Int) ∈ p.take i then 1 else 0
def stC (p : List Int) (n i : Nat) : List Int := (List.range n).map fun (x : Nat) => if (x : Int) ∈ p.drop i then 1 else 0
section
variable {p : List Int} {n i j : Nat} {s : Int}
theorem stI_len : (stI p n i).length = n := by simp [stI]
theorem stC_len : (stC p n i).length = n := by simp [stC]
theorem stI_0 : List.replicate n (0 : Int) = stI p n 0 := by
 unfold stI
 apply List.ext_getElem <;> simp
theorem stI_end : stI p n p.length = stC p n 0 := by unfold stI stC; rw [List.take_length, List.drop_zero]
theorem map_set (f g : Nat → Int) (k : Nat) (v : Int) (hv : g k = v) (h : ∀ x, x ≠ k → g x = f x) : ((List.range n).map f).set k v = (List.range n).map g := by
 apply List.ext_getElem
 ·simp
 ·intro x h1 h2
  rw [List.getElem_set]
  simp only [List.getElem_map, List.getElem_range]
  split
  ·rename_i e; rw [← e, hv]
  ·rename_i e; exact (h x (fun e2 => e e2.symm)).symm
theorem getD_nd (hnd : p.Nodup) (hi : i < p.length) (hj : j < p.length) (h : p.getD i 0 = p.getD j 0) : i = j := by
 rw [List.getD_eq_getElem?_getD, List.getD_eq_getElem?_getD, List.getElem?_eq_getElem hi, List.getElem?_eq_getElem hj] at h
 exact (List.getElem_inj hnd).1 h
theorem mem_take_succ (hi : i < p.length) : s ∈ p.take (i + 1) ↔ s ∈ p.take i ∨ s = p.getD i 0 := by
 rw [List.take_succ_eq_append_getElem hi, List.mem_append, List.mem_singleton, List.getD_eq_getElem?_getD, List.getElem?_eq_getElem hi]; rfl
theorem mem_drop_at (hi : i < p.length) : s ∈ p.drop i ↔ s = p.getD i 0 ∨ s ∈ p.drop (i + 1) := by
 rw [List.drop_eq_getElem_cons hi, List.mem_cons, List.getD_eq_getElem?_getD, List.getElem?_eq_getElem hi]; rfl
theorem not_later (hnd : p.Nodup) (hi : i < p.length) : ¬ p.getD i 0 ∈ p.drop (i + 1) := fun h => by
 have h2 := (List.drop_sublist i p).nodup hnd
 rw [List.drop_eq_getElem_cons hi, List.nodup_cons] at h2
 rw [List.getD_eq_getElem?_getD, List.getElem?_eq_getElem hi] at h
 exact h2.1 h
theorem stI_step (hi : i < p.length) (hs : 0 ≤ p.getD i 0) : (stI p n i).set (p.getD i 0).toNat 1 = stI p n (i + 1) := by
 unfold stI
 refine map_set _ _ _ _ ?_ (fun x hx => ?_)
 ·exact if_pos ((mem_take_succ hi).2 (.inr (by omega)))
 ·have : ((x : Int) ∈ p.take (i + 1)) ↔ ((x : Int) ∈ p.take i) := by
   rw [mem_take_succ hi]
   exact ⟨fun h => h.elim id (fun h => absurd h (by omega)), .inl⟩
  simp only [this]
theorem stC_step (hnd : p.Nodup) (hi : i < p.length) (hs : 0 ≤ p.getD i 0) : (stC p n i).set (p.getD i 0).toNat 0 = stC p n (i + 1) := by
 unfold stC
 refine map_set _ _ _ _ ?_ (fun x hx => ?_)
 ·have : (((p.getD i 0).toNat : Nat) : Int) = p.getD i 0 := by omega
  rw [this]
  exact if_neg (not_later hnd hi)
 ·have : ((x : Int) ∈ p.drop i) ↔ ((x : Int) ∈ p.drop (i + 1)) := by
   rw [mem_drop_at hi]
   exact ⟨fun h => h.elim (fun h => absurd h (by omega)) id, .inr⟩
  simp only [this]
theorem stC_get (h : 0 ≤ s ∧ s < (n : Int)) : (stC p n i).getD s.toNat 0 = if s ∈ p.drop i then 1 else 0 := by
 unfold stC
 rw [List.getD_eq_getElem?_getD, List.getElem?_map, List.getElem?_range (by omega)]
 show (if ((s.toNat : Nat) : Int) ∈ p.drop i then (1 : Int) else 0) = _
 rw [show ((s.toNat : Nat) : Int) = s by omega]
theorem stC_ge (hj : j < p.length) (hij : i ≤ j) (h : ∀ s, s ∈ p → 0 ≤ s ∧ s < (n : Int)) : (stC p n i).getD (p.getD j 0).toNat 0 = 1 := by
 rw [stC_get (h _ (getD_mem 0 hj))]
 refine if_pos ?_
 rw [List.getD_eq_getElem?_getD, List.getElem?_eq_getElem hj]
 have h2 : j - i < (p.drop i).length := by rw [List.length_drop]; omega
 have h3 : (p.drop i)[j - i] = p[j] := by rw [List.getElem_drop]; congr 1; omega
 show p[j] ∈ _
 rw [← h3]; exact List.getElem_mem h2
theorem stC_lt (hnd : p.Nodup) (hj : j < p.length) (hij : j < i) (h : ∀ s, s ∈ p → 0 ≤ s ∧ s < (n : Int)) : (stC p n i).getD (p.getD j 0).toNat 0 = 0 := by
 rw [stC_get (h _ (getD_mem 0 hj))]
 refine if_neg (fun h2 => not_later hnd hj ?_)
 have h3 : p.drop i = (p.drop (j + 1)).drop (i - (j + 1)) := by rw [List.drop_drop]; congr 1; omega
 rw [h3] at h2
 exact List.mem_of_mem_drop h2
end
def psC (m i : Nat) : List Int := List.replicate i 0 ++ List.replicate (m - i) 2
theorem psC_len {m i : Nat} (h : i ≤ m) : (psC m i).length = m := by simp [psC]; omega
theorem psC_lt {m i j : Nat} (h : j < i) : (psC m i).getD j 0 = 0 := by
 unfold psC
 rw [List.getD_eq_getElem?_getD, List.getElem?_append_left (by simpa using h), List.getElem?_replicate]; split <;> rfl
theorem psC_ge {m i j : Nat} (h : i ≤ j) (hj : j < m) : (psC m i).getD j 0 = 2 := by
 unfold psC
 rw [List.getD_eq_getElem?_getD, List.getElem?_append_right (by simpa using h), List.length_replicate, List.getElem?_replicate, if_pos (by omega)]; rfl
theorem psC_some {m i : Nat} (h : i < m) : ((psC m i).any fun b => b != 0) = true := by
 rw [List.any_eq_true]
 refine ⟨2, ?_, rfl⟩
 unfold psC
 exact List.mem_append.2 (.inr (List.mem_replicate.2 ⟨by omega, rfl⟩))
theorem psC_none {m : Nat} : ((psC m m).any fun b => b != 0) = false := by
 rw [List.any_eq_false]
 intro x hx
 unfold psC at hx
 rw [Nat.sub_self, List.replicate_zero, List.append_nil] at hx
 rw [(List.mem_replicate.1 hx).2]; decide
theorem psC_take {m i j : Nat} (h : j ≤ i) : ((psC m i).take j).any (fun b => b != 0) = false := by
 rw [List.any_eq_false]
 intro x hx
 unfold psC at hx
 rw [List.take_append_of_le_length (by simpa using h)] at hx
 rw [(List.mem_replicate.1 (List.mem_of_mem_take hx)).2]; decide
section
variable {routes parts : List (List Int)} {n i m : Nat} {now r : Int}
theorem own_1 {parts : List (List Int)} {q : Int} (h : 0 ≤ q ∧ q < (parts.length : Int)) : (List.replicate parts.length (1 : Int)).getD q.toNat 0 = 1 := by
 rw [List.getD_eq_getElem?_getD, List.getElem?_replicate, if_pos (by omega)]; rfl
theorem ord_1 (hm : (pthR routes r).length = m) (hin : ∀ s, s ∈ pthR routes r → 0 ≤ s ∧ s < (n : Int)) (hpo : ∀ s : Int, 0 ≤ s → s < (n : Int) → 0 ≤ partI parts s ∧ partI parts s < (parts.length : Int)) :
  tnK routes parts (stC (pthR routes r) n 0) (List.replicate parts.length 1) now r 1 (-1) (List.replicate m 1) (List.replicate m (1 : Int)).length = psC m 0 := by
 have hl : (psC m 0).length = (List.replicate m (1 : Int)).length := by rw [psC_len (Nat.zero_le _), List.length_replicate]
 refine tnK_all hl (fun i hi => ?_)
 have hi2 : i < m := by simpa using hi
 have hsi := hin _ (getD_mem (l := pthR routes r) (k := i) 0 (by omega))
 have h1 : (List.replicate m (1 : Int)).getD i 0 = 1 := by rw [List.getD_eq_getElem?_getD, List.getElem?_replicate, if_pos hi2]; rfl
 have e1 : (((psC m 0).take i ++ (List.replicate m (1 : Int)).drop i).getD i 0) = 1 := by rw [mix_getD hi hl, h1]
 rw [psC_ge (Nat.zero_le _) hi2]
 unfold tnP
 simp only [e1]
 rw [if_neg (by decide), if_pos trivial, if_pos]
 rw [stC_ge (by omega) (Nat.zero_le _) hin, own_1 (hpo _ hsi.1 hsi.2)]; rfl
theorem ord_i (hnd : (pthR routes r).Nodup) (hm : (pthR routes r).length = m) (hin : ∀ s, s ∈ pthR routes r → 0 ≤ s ∧ s < (n : Int)) (hi : i < m) :
  tnK routes parts (stC (pthR routes r) n (i + 1)) (List.replicate parts.length 1) now r 1 (-1) (psC m i) (psC m i).length = psC m (i + 1) := by
 have hl : (psC m (i + 1)).length = (psC m i).length := by rw [psC_len (by omega), psC_len (by omega)]
 refine tnK_all hl (fun j hj => ?_)
 have hj2 : j < m := by rw [psC_len (by omega)] at hj; exact hj
 have e1 : (((psC m (i + 1)).take j ++ (psC m i).drop j).getD j 0) = (psC m i).getD j 0 := mix_getD hj hl
 have e2 : (((psC m (i + 1)).take j ++ (psC m i).drop j).take j) = (psC m (i + 1)).take j := mix_take hj hl
 unfold tnP
 simp only [e1, e2]
 rcases Nat.lt_or_ge j i with h | h
 ·rw [psC_lt h, psC_lt (by omega), if_neg (by decide), if_neg (by decide)]
 ·rw [psC_ge h hj2, if_pos rfl]
  rcases Nat.lt_or_ge i j with h2 | h2
  ·rw [psC_ge (by omega) hj2, stC_ge (by omega) (by omega) hin]; rfl
  ·have : j = i := by omega
   subst this
   rw [psC_lt (by omega), stC_lt hnd (by omega) (by omega) hin, psC_take (by omega)]; rfl
theorem ixQ_at (hnd : (pthR routes r).Nodup) (hi : i < (pthR routes r).length) {x : Lk} (hx : x.route = r) : ixQ routes ((pthR routes r).getD i 0) x = (i : Int) := by
 unfold ixQ
 rw [hx]
 refine idxB_stop 0 hi ?_ (by simp)
 rw [List.any_eq_false]
 intro y hy
 obtain ⟨j, hj, rfl⟩ := List.mem_iff_getElem.1 hy
 have hj2 : j < i := by rw [List.length_take] at hj; omega
 rw [List.getElem_take, decide_eq_true_eq]
 intro h
 have := getD_nd hnd hi (by omega : j < (pthR routes r).length) (by rw [h, List.getD_eq_getElem?_getD, List.getElem?_eq_getElem (by omega)]; rfl)
 omega
theorem who_one (hnd : (pthR routes r).Nodup) (hi : i < (pthR routes r).length) {tr en : Int} {ps : List Int} : whoQ routes [⟨r, tr, en, ps⟩] ((pthR routes r).getD i 0) = if ps.getD i 0 ≠ 0 then r else -1 := by
 have hb : whQ routes ((pthR routes r).getD i 0) ⟨r, tr, en, ps⟩ = (ps.getD i 0 != 0) := by
  unfold whQ
  rw [ixQ_at hnd hi rfl, decide_eq_true (by omega)]
  rfl
 by_cases h0 : ps.getD i 0 = 0
 ·rw [if_neg (by simpa using h0)]
  exact whoQ_no (Nat.le_refl _) (by show (whQ routes ((pthR routes r).getD i 0) ⟨r, tr, en, ps⟩ || false) = false; rw [hb, h0]; rfl)
 ·rw [if_pos h0]
  exact (whoQ_at (ls := [⟨r, tr, en, ps⟩]) (k := 0) (Nat.zero_lt_one) rfl (by show whQ routes ((pthR routes r).getD i 0) ⟨r, tr, en, ps⟩ = true; rw [hb]; exact bne_iff_ne.2 h0)).trans rfl
end
theorem rpU_set {v : Int} {n k : Nat} (h : k < n) : (rpU v n k).set k v = rpU v n (k + 1) := by
 unfold rpU
 rw [List.set_append_right _ _ (by simp), List.length_replicate, Nat.sub_self, show n - k = (n - (k + 1)) + 1 by omega, List.replicate_succ, List.set_cons_zero, List.replicate_succ', List.append_assoc]
 rfl
end Go.Lo
