/- Layer 14's laws of 'may': plain. -/
import Derived.Test.YtnjncdidiijpgaaDr
set_option linter.unusedVariables false
set_option linter.unusedSimpArgs false
namespace Go.Lo
def nearP (near : Bool) (p : Int) : Int := if near then Int.tmod p 3 else p
theorem nearP_t {near : Bool} {p : Int} (h : near = true) : nearP near p = Int.tmod p 3 := by subst h; rfl
theorem nearP_f {near : Bool} {p : Int} (h : near = false) : nearP near p = p := by subst h; rfl
theorem form3 (f : Int) : 1 + f % 3 = 1 ∨ 1 + f % 3 = 2 ∨ 1 + f % 3 = 3 := by omega
theorem pts_stem {f : Int} (h : f = 1 ∨ f = 2 ∨ f = 3) : (mkPts f).length ≠ 0 ∧ ∀ i, i < (mkPts f).length → 0 ≤ ((mkPts f).getD i dP).stem ∧ ((mkPts f).getD i dP).stem < ((mkEnds f).length : Int) := by
  rcases h with rfl | rfl | rfl
  · decide
  · decide
  · decide
theorem hasB_nil (p : Int) : hasB [] p = false := by simp [hasB]
theorem hasB_at {l : List Bool} {k : Nat} (h : k < l.length) : hasB l (k : Int) = l.getD k false := by simp [hasB, h]
theorem may_at {pts : List Pnt} {states : List Int} {views : List View} {locked held : List Bool} {i : Nat} (hi : i < pts.length) (hs : 0 ≤ (pts.getD i dP).stem) :
    mayB pts states views locked held (i : Int) = (!hasB held (i : Int) && !views.any (hasV (pts.getD i dP).stem) && (decide ((pts.getD i dP).stem < (states.length : Int)) && (states.getD (pts.getD i dP).stem.toNat 0 == 0) && !hasB locked (pts.getD i dP).stem)) := by
  have h1 : ((i : Int) < 0) = False := by simp
  have h2 : ((i : Int) ≥ (pts.length : Int)) = False := by simp; omega
  unfold mayB
  simp only [h1, h2, decide_false, Bool.false_or, Int.toNat_natCast]
  cases hh : hasB held (i : Int) with
  | true => simp
  | false =>
    rw [if_neg (by simp)]
    cases hv : views.any (hasV (pts.getD i dP).stem) with
    | true => simp
    | false => simp only [Bool.false_eq_true, if_false, decide_eq_true hs, Bool.true_and, Bool.not_false]
theorem set_get {α : Type} {l : List α} {k : Nat} {v : α} (d : α) (h : k < l.length) : (l.set k v).getD k d = v := by
  rw [List.getD_eq_getElem?_getD, List.getElem?_set_self h]; rfl
theorem rep_get {α : Type} {n k : Nat} {v : α} (d : α) (h : k < n) : (List.replicate n v).getD k d = v := by
  rw [List.getD_eq_getElem?_getD, List.getElem?_replicate, if_pos h]; rfl
theorem fr_free {pts : List Pnt} {n i : Nat} (hi : i < pts.length) (hs : 0 ≤ (pts.getD i dP).stem) (hn : (pts.getD i dP).stem < (n : Int)) : mayB pts (List.replicate n 0) [] [] [] (i : Int) = true := by
  rw [may_at hi hs, rep_get 0 (by omega), hasB_nil, hasB_nil, List.length_replicate, decide_eq_true hn]; rfl
theorem fr_spoilt {pts : List Pnt} {n i : Nat} (hi : i < pts.length) (hs : 0 ≤ (pts.getD i dP).stem) (hn : (pts.getD i dP).stem < (n : Int)) {bad : Int} (hb : 0 ≤ bad ∧ bad ≤ 255) : mayB pts ((List.replicate n (0 : Int) ++ []).set (pts.getD i dP).stem.toNat (1 + bad % 3)) [] [] [] (i : Int) = false := by
  rw [may_at hi hs, set_get 0 (by rw [List.append_nil, List.length_replicate]; omega)]
  have h2 : ((1 + bad % 3 : Int) == 0) = false := by rw [beq_eq_false_iff_ne]; omega
  rw [h2, Bool.and_false, Bool.false_and, Bool.and_false]
theorem fr_view {pts : List Pnt} {n i : Nat} (hi : i < pts.length) (hs : 0 ≤ (pts.getD i dP).stem) (hn : (pts.getD i dP).stem < (n : Int)) : mayB pts (List.replicate n 0) [⟨1, false, [(pts.getD i dP).stem]⟩] [] [] (i : Int) = false := by
  rw [may_at hi hs]
  have h2 : ([⟨1, false, [(pts.getD i dP).stem]⟩] : List View).any (hasV (pts.getD i dP).stem) = true := List.any_eq_true.2 ⟨_, List.mem_cons_self, decide_eq_true (List.mem_cons_self)⟩
  rw [h2, Bool.not_true, Bool.and_false, Bool.false_and]
theorem hasB_set {m : Nat} {s : Int} (h0 : 0 ≤ s) (h1 : s < (m : Int)) : hasB ((List.replicate m false).set s.toNat true) s = true := by
  obtain ⟨k, rfl⟩ := Int.eq_ofNat_of_zero_le h0
  rw [Int.toNat_natCast, hasB_at (by rw [List.length_set, List.length_replicate]; omega), set_get false (by rw [List.length_replicate]; omega)]
theorem fr_locked {pts : List Pnt} {n i : Nat} (hi : i < pts.length) (hs : 0 ≤ (pts.getD i dP).stem) (hn : (pts.getD i dP).stem < (n : Int)) : mayB pts (List.replicate n 0) [] ((List.replicate n false).set (pts.getD i dP).stem.toNat true) [] (i : Int) = false := by
  rw [may_at hi hs, hasB_set hs hn, Bool.not_true, Bool.and_false, Bool.and_false]
theorem fr_held {pts : List Pnt} {n i : Nat} (hi : i < pts.length) (hs : 0 ≤ (pts.getD i dP).stem) (hn : (pts.getD i dP).stem < (n : Int)) : mayB pts (List.replicate n 0) [] [] ((List.replicate pts.length false).set i true) (i : Int) = false := by
  have h2 := hasB_set (m := pts.length) (s := (i : Int)) (by omega) (by omega)
  rw [Int.toNat_natCast] at h2
  rw [may_at hi hs, h2, Bool.not_true, Bool.false_and, Bool.false_and]
theorem fr_none {pts : List Pnt} {n i : Nat} (hi : i < pts.length) (hs : 0 ≤ (pts.getD i dP).stem) (hn : (pts.getD i dP).stem < (n : Int)) : mayB pts [] [] [] [] (i : Int) = false := by
  rw [may_at hi hs]
  have : decide ((pts.getD i dP).stem < ((([] : List Int).length : Nat) : Int)) = false := decide_eq_false (by rw [List.length_nil]; omega)
  rw [this, Bool.false_and, Bool.false_and, Bool.and_false]
theorem fr_end {pts : List Pnt} {states : List Int} (p : Int) : ((decide (p ≥ 0) && decide (p < (pts.length : Int))) || !mayB pts states [] [] [] p) = true := by
  by_cases h1 : p ≥ 0
  · by_cases h2 : p < (pts.length : Int)
    · simp [h1, h2]
    · have : (decide (p < 0) || decide (p ≥ (pts.length : Int)) || hasB [] p) = true := by simp; omega
      rw [may_no this]; simp
  · have : (decide (p < 0) || decide (p ≥ (pts.length : Int)) || hasB [] p) = true := by simp; omega
    rw [may_no this]; simp
theorem draft_ok (d : Draft) : (0 ≤ 1 + d.form % 3 ∧ 1 + d.form % 3 ≤ 255) := by omega
end Go.Lo
