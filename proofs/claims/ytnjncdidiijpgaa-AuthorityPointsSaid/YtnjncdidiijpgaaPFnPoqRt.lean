/- Part of the logic of values: what the law reaches. -/
import Derived.Test.YtnjncdidiijpgaaPFnPoqRs
set_option linter.unusedVariables false
set_option linter.unusedSimpArgs false
namespace Go.Lo
theorem need_rng {secs : List Sec} {pts : List Pnt} {s e p : Int} {z : Need} (h : z ∈ needL secs pts s e p) : 0 ≤ z.point ∧ z.point < (pts.length : Int) := by
 unfold needL at h
 split at h
 ·cases h
 ·rw [List.mem_singleton.1 h]
  rcases pointI_range pts (nodeA secs s e) with h1 | h1
  ·omega
  ·exact h1
theorem wyF_rng {secs : List Sec} {pts : List Pnt} : ∀ (l : List Int) (w : WY) (r : List Need), (∀ z, z ∈ w.ns → 0 ≤ z.point ∧ z.point < (pts.length : Int)) → wyF secs pts l w = some r → ∀ z, z ∈ r → 0 ≤ z.point ∧ z.point < (pts.length : Int)
 | [], w, r, hw, h => by cases h; exact hw
 | p :: l, w, r, hw, h => by
  unfold wyF at h
  split at h
  ·cases h
  ·refine wyF_rng l _ r (fun z hz => ?_) h
   rcases List.mem_append.1 hz with hz | hz
   ·exact hw z hz
   ·exact need_rng hz
theorem paL_rng {secs : List Sec} {pts : List Pnt} {path : List Int} {z : Need} (hz : z ∈ paL secs pts path) : 0 ≤ z.point ∧ z.point < (pts.length : Int) := by
 unfold paL at hz
 cases h : paO secs pts path with
 | none => rw [h] at hz; cases hz
 | some r =>
  rw [h] at hz
  have key : ∀ e, wyO secs pts (path.getD 0 0) e (path.drop 1) = some r → 0 ≤ z.point ∧ z.point < (pts.length : Int) := fun e hq => wyF_rng _ _ _ (fun z hz => by cases hz) hq z hz
  unfold paO at h
  split at h
  ·cases h
  ·split at h
   ·cases h
   ·split at h
    ·exact key _ h
    ·exact key _ h
theorem stD_rng {secs : List Sec} {pts : List Pnt} {path : List Int} {k : Nat} {z : Need} (hz : z ∈ stD secs pts path k) : 0 ≤ z.point ∧ z.point < (pts.length : Int) := by
 unfold stD at hz
 split at hz
 ·cases hz
 ·exact paL_rng (List.mem_of_mem_take (List.mem_of_mem_drop hz))
theorem stD_len {secs : List Sec} {pts : List Pnt} {path : List Int} {k : Nat} : (stD secs pts path k).length ≤ path.length := by
 have h := paL_len (secs := secs) (pts := pts) (path := path)
 unfold stD
 split
 ·exact Nat.zero_le _
 ·rw [List.length_drop, List.length_take]; omega
def secB (routes : List (List Int)) (ls : List Lk) (i : Nat) : Bool := decide (whoseL routes ls (i : Int) ≥ 0)
def secL (routes : List (List Int)) (ls : List Lk) (n : Nat) : List Bool := (List.range n).map (secB routes ls)
theorem secL_len {routes : List (List Int)} {ls : List Lk} {n : Nat} : (secL routes ls n).length = n := by simp [secL]
theorem secL_step {routes : List (List Int)} {ls : List Lk} {n : Nat} : secL routes ls (n + 1) = secL routes ls n ++ [secB routes ls n] := by simp [secL, List.range_succ]
def hN (needs : List Need) (out : List Bool) : Nat → List Bool
 | 0 => out
 | j + 1 => (hN needs out j).set (needs.getD j dN).point.toNat true
def skB (ps : List Int) (k : Nat) : Bool := (ps.getD k 0 == 0) && (((k : Int) == 0) || (ps.getD ((k : Int) - 1).toNat 0 == 0))
def hK (secs : List Sec) (pts : List Pnt) (path ps : List Int) (out : List Bool) : Nat → List Bool
 | 0 => out
 | k + 1 => if skB ps k then hK secs pts path ps out k else hN (stD secs pts path k) (hK secs pts path ps out k) (stD secs pts path k).length
def hI (secs : List Sec) (pts : List Pnt) (routes : List (List Int)) (ls : List Lk) : Nat → List Bool
 | 0 => List.replicate pts.length false
 | i + 1 => hK secs pts (routes.getD (ls.getD i dLk).route.toNat []) (ls.getD i dLk).pieces (hI secs pts routes ls i) (ls.getD i dLk).pieces.length
def heldL (secs : List Sec) (pts : List Pnt) (routes : List (List Int)) (ls : List Lk) : List Bool := hI secs pts routes ls ls.length
section
variable {secs : List Sec} {pts : List Pnt} {path ps : List Int} {routes : List (List Int)} {ls : List Lk} {needs : List Need} {out : List Bool} {k : Nat}
theorem hN_len : ∀ j, (hN needs out j).length = out.length
 | 0 => rfl
 | j + 1 => by show ((hN needs out j).set _ _).length = _; rw [List.length_set, hN_len j]
theorem hK_len : ∀ k, (hK secs pts path ps out k).length = out.length
 | 0 => rfl
 | k + 1 => by
  unfold hK; split
  ·exact hK_len k
  ·rw [hN_len, hK_len k]
theorem hI_len : ∀ i, (hI secs pts routes ls i).length = pts.length
 | 0 => List.length_replicate
 | i + 1 => by show (hK _ _ _ _ _ _).length = _; rw [hK_len, hI_len i]
theorem held_len : (heldL secs pts routes ls).length = pts.length := hI_len _
theorem hK_t (h : skB ps k = true) : hK secs pts path ps out (k + 1) = hK secs pts path ps out k := by
 conv => lhs; unfold hK
 rw [if_pos h]
theorem hK_f (h : skB ps k = false) : hK secs pts path ps out (k + 1) = hN (stD secs pts path k) (hK secs pts path ps out k) (stD secs pts path k).length := by
 conv => lhs; unfold hK
 rw [if_neg (by rw [h]; exact Bool.false_ne_true)]
end
def busyB (routes : List (List Int)) (ls : List Lk) (states path : List Int) (k : Nat) : Bool := decide (path.getD (k + 1) 0 ≥ (states.length : Int)) || (states.getD (path.getD (k + 1) 0).toNat 0 != 0) || decide (whoseL routes ls (path.getD (k + 1) 0) ≥ 0)
def busyK (routes : List (List Int)) (ls : List Lk) (states path : List Int) (n : Nat) : Bool := (List.range n).any (busyB routes ls states path)
def noMay (secs : List Sec) (pts : List Pnt) (routes : List (List Int)) (ls : List Lk) (states : List Int) (views : List View) (z : Need) : Bool := !mayB pts states views (secL routes ls secs.length) (heldL secs pts routes ls) z.point
def setE (secs : List Sec) (pts : List Pnt) (routes : List (List Int)) (ls : List Lk) (r : Int) (states : List Int) (views : List View) (right : List Bool) : Int :=
 if r < 0 ∨ r ≥ (routes.length : Int) then 7 else if findL ls r ≥ 0 then 8
 else if busyK routes ls states (routes.getD r.toNat []) ((routes.getD r.toNat []).length - 1) = true then 9
 else if (movesL (paL secs pts (routes.getD r.toNat [])) right).any (noMay secs pts routes ls states views) = true then 9 else 0
def setL (secs : List Sec) (pts : List Pnt) (routes : List (List Int)) (ls : List Lk) (r tr : Int) (states : List Int) (views : List View) (right : List Bool) : List Lk :=
 if setE secs pts routes ls r states views right = 0 then ls ++ [⟨r, tr, -1, List.replicate ((routes.getD r.toNat []).length - 1) 1⟩] else ls
def setR (secs : List Sec) (pts : List Pnt) (routes : List (List Int)) (ls : List Lk) (r : Int) (states : List Int) (views : List View) (right : List Bool) : List Bool :=
 if setE secs pts routes ls r states views right = 0 then moveL right (movesL (paL secs pts (routes.getD r.toNat [])) right) else right
section
variable {secs : List Sec} {pts : List Pnt} {routes : List (List Int)} {ls : List Lk} {r tr : Int} {states path : List Int} {views : List View} {right : List Bool} {k : Nat}
theorem busy_step (h : busyK routes ls states path k = false) (h2 : busyB routes ls states path k = false) : busyK routes ls states path (k + 1) = false := by
 unfold busyK at *
 rw [List.range_succ, List.any_append, h]
 simp [h2]
theorem busy_on {n : Nat} (hk : k < n) (h2 : busyB routes ls states path k = true) : busyK routes ls states path n = true := List.any_eq_true.2 ⟨k, List.mem_range.2 hk, h2⟩
theorem busy_t0 (h : decide (path.getD (k + 1) 0 ≥ (states.length : Int)) = true) : busyB routes ls states path k = true := by unfold busyB; rw [h]; rfl
theorem busy_t1 (h : (states.getD (path.getD (k + 1) 0).toNat 0 != 0) = true) : busyB routes ls states path k = true := by unfold busyB; rw [h, Bool.or_true]; rfl
theorem busy_t2 (h : decide (whoseL routes ls (path.getD (k + 1) 0) ≥ 0) = true) : busyB routes ls states path k = true := by unfold busyB; rw [h, Bool.or_true]
theorem busy_f (h : decide (path.getD (k + 1) 0 ≥ (states.length : Int)) = false) (h2 : (states.getD (path.getD (k + 1) 0).toNat 0 != 0) = false) (h3 : decide (whoseL routes ls (path.getD (k + 1) 0) ≥ 0) = false) : busyB routes ls states path k = false := by unfold busyB; rw [h, h2, h3]; rfl
theorem set_no {e : Int} (he : ¬ e = 0) (h : setE secs pts routes ls r states views right = e) : setL secs pts routes ls r tr states views right = ls ∧ setR secs pts routes ls r states views right = right := by
 unfold setL setR
 rw [h, if_neg he, if_neg he]; exact ⟨rfl, rfl⟩
theorem set_7 (h : (decide (r < 0) || decide (r ≥ (routes.length : Int))) = true) : setE secs pts routes ls r states views right = 7 := by
 simp only [Bool.or_eq_true, decide_eq_true_eq] at h
 unfold setE; rw [if_pos h]
theorem set_in (h : (decide (r < 0) || decide (r ≥ (routes.length : Int))) = false) : 0 ≤ r ∧ r < (routes.length : Int) := by
 simp only [Bool.or_eq_false_iff, decide_eq_false_iff_not] at h
 omega
theorem set_8 (h : 0 ≤ r ∧ r < (routes.length : Int)) (h2 : findL ls r ≥ 0) : setE secs pts routes ls r states views right = 8 := by
 unfold setE; rw [if_neg (by omega), if_pos h2]
theorem set_9 (h : 0 ≤ r ∧ r < (routes.length : Int)) (h2 : ¬ findL ls r ≥ 0) (h3 : busyK routes ls states (routes.getD r.toNat []) ((routes.getD r.toNat []).length - 1) = true) : setE secs pts routes ls r states views right = 9 := by
 unfold setE; rw [if_neg (by omega), if_neg h2, if_pos h3]
theorem set_9m (h : 0 ≤ r ∧ r < (routes.length : Int)) (h2 : ¬ findL ls r ≥ 0) (h3 : busyK routes ls states (routes.getD r.toNat []) ((routes.getD r.toNat []).length - 1) = false)
  (h4 : (movesL (paL secs pts (routes.getD r.toNat [])) right).any (noMay secs pts routes ls states views) = true) : setE secs pts routes ls r states views right = 9 := by
 unfold setE; rw [if_neg (by omega), if_neg h2, if_neg (by rw [h3]; exact Bool.false_ne_true), if_pos h4]
theorem set_0 (h : 0 ≤ r ∧ r < (routes.length : Int)) (h2 : ¬ findL ls r ≥ 0) (h3 : busyK routes ls states (routes.getD r.toNat []) ((routes.getD r.toNat []).length - 1) = false)
  (h4 : (movesL (paL secs pts (routes.getD r.toNat [])) right).any (noMay secs pts routes ls states views) = false) : setE secs pts routes ls r states views right = 0 := by
 unfold setE; rw [if_neg (by omega), if_neg h2, if_neg (by rw [h3]; exact Bool.false_ne_true), if_neg (by rw [h4]; exact Bool.false_ne_true)]
theorem set_yes (h : setE secs pts routes ls r states views right = 0) : setL secs pts routes ls r tr states views right = ls ++ [⟨r, tr, -1, List.replicate ((routes.getD r.toNat []).length - 1) 1⟩] ∧ setR secs pts routes ls r states views right = moveL right (movesL (paL secs pts (routes.getD r.toNat [])) right) := by
 unfold setL setR
 rw [if_pos h, if_pos h]; exact ⟨rfl, rfl⟩
end
structure Tu where
 routes : List (List Int)
 parts : List (List Int)
 now : Int
 st : List Int
 ow : List Int
end Go.Lo
