/- Part of the logic of values: what the law reaches. -/
import Derived.Test.YtnjncdidiijpgaaPFnOfqRs
set_option linter.unusedVariables false
set_option linter.unusedSimpArgs false
namespace Go.Lo
theorem need_rng {secs : List Sec} {pts : List Pnt} {s e p : Int} {z : Need} (h : z ∈ needL secs pts s e p) : 0 ≤ z.point ∧ z.point < (pts.length : Int) := by
 unfold needL at h
 split at h
 ·cases h
 ·rw [List.mem_singleton.1 h]
  rcases pointI_range pts (nodeA secs s e) with h1 | h1
  ·omega
  ·exact h1
theorem wyF_rng {secs : List Sec} {pts : List Pnt} : ∀ (l : List Int) (w : WY) (r : List Need), (∀ z, z ∈ w.ns → 0 ≤ z.point ∧ z.point < (pts.length : Int)) → wyF secs pts l w = some r → ∀ z, z ∈ r → 0 ≤ z.point ∧ z.point < (pts.length : Int)
 | [], w, r, hw, h => by cases h; exact hw
 | p :: l, w, r, hw, h => by
  unfold wyF at h
  split at h
  ·cases h
  ·refine wyF_rng l _ r (fun z hz => ?_) h
   rcases List.mem_append.1 hz with hz | hz
   ·exact hw z hz
   ·exact need_rng hz
theorem paL_rng {secs : List Sec} {pts : List Pnt} {path : List Int} {z : Need} (hz : z ∈ paL secs pts path) : 0 ≤ z.point ∧ z.point < (pts.length : Int) := by
 unfold paL at hz
 cases h : paO secs pts path with
 | none => rw [h] at hz; cases hz
 | some r =>
  rw [h] at hz
  have key : ∀ e, wyO secs pts (path.getD 0 0) e (path.drop 1) = some r → 0 ≤ z.point ∧ z.point < (pts.length : Int) := fun e hq => wyF_rng _ _ _ (fun z hz => by cases hz) hq z hz
  unfold paO at h
  split at h
  ·cases h
  ·split at h
   ·cases h
   ·split at h
    ·exact key _ h
    ·exact key _ h
theorem stD_rng {secs : List Sec} {pts : List Pnt} {path : List Int} {k : Nat} {z : Need} (hz : z ∈ stD secs pts path k) : 0 ≤ z.point ∧ z.point < (pts.length : Int) := by
 unfold stD at hz
 split at hz
 ·cases hz
 ·exact paL_rng (List.mem_of_mem_take (List.mem_of_mem_drop hz))
theorem stD_len {secs : List Sec} {pts : List Pnt} {path : List Int} {k : Nat} : (stD secs pts path k).length ≤ path.length := by
 have h := paL_len (secs := secs) (pts := pts) (path := path)
 unfold stD
 split
 ·exact Nat.zero_le _
 ·rw [List.length_drop, List.length_take]; omega
def secB (routes : List (List Int)) (ls : List Lk) (i : Nat) : Bool := decide (whoseL routes ls (i : Int) ≥ 0)
def secL (routes : List (List Int)) (ls : List Lk) (n : Nat) : List Bool := (List.range n).map (secB routes ls)
theorem secL_len {routes : List (List Int)} {ls : List Lk} {n : Nat} : (secL routes ls n).length = n := by simp [secL]
theorem secL_step {routes : List (List Int)} {ls : List Lk} {n : Nat} : secL routes ls (n + 1) = secL routes ls n ++ [secB routes ls n] := by simp [secL, List.range_succ]
def hN (needs : List Need) (out : List Bool) : Nat → List Bool
 | 0 => out
 | j + 1 => (hN needs out j).set (needs.getD j dN).point.toNat true
def skB (ps : List Int) (k : Nat) : Bool := (ps.getD k 0 == 0) && (((k : Int) == 0) || (ps.getD ((k : Int) - 1).toNat 0 == 0))
def hK (secs : List Sec) (pts : List Pnt) (path ps : List Int) (out : List Bool) : Nat → List Bool
 | 0 => out
 | k + 1 => if skB ps k then hK secs pts path ps out k else hN (stD secs pts path k) (hK secs pts path ps out k) (stD secs pts path k).length
def hI (secs : List Sec) (pts : List Pnt) (routes : List (List Int)) (ls : List Lk) : Nat → List Bool
 | 0 => List.replicate pts.length false
 | i + 1 => hK secs pts (routes.getD (ls.getD i dLk).route.toNat []) (ls.getD i dLk).pieces (hI secs pts routes ls i) (ls.getD i dLk).pieces.length
def heldL (secs : List Sec) (pts : List Pnt) (routes : List (List Int)) (ls : List Lk) : List Bool := hI secs pts routes ls ls.length
section
variable {secs : List Sec} {pts : List Pnt} {path ps : List Int} {routes : List (List Int)} {ls : List Lk} {needs : List Need} {out : List Bool} {k : Nat}
theorem hN_len : ∀ j, (hN needs out j).length = out.length
 | 0 => rfl
 | j + 1 => by show ((hN needs out j).set _ _).length = _; rw [List.length_set, hN_len j]
theorem hK_len : ∀ k, (hK secs pts path ps out k).length = out.length
 | 0 => rfl
 | k + 1 => by
  unfold hK; split
  ·exact hK_len k
  ·rw [hN_len, hK_len k]
theorem hI_len : ∀ i, (hI secs pts routes ls i).length = pts.length
 | 0 => List.length_replicate
 | i + 1 => by show (hK _ _ _ _ _ _).length = _; rw [hK_len, hI_len i]
theorem held_len : (heldL secs pts routes ls).length = pts.length := hI_len _
theorem hK_t (h : skB ps k = true) : hK secs pts path ps out (k + 1) = hK secs pts path ps out k := by
 conv => lhs; unfold hK
 rw [if_pos h]
theorem hK_f (h : skB ps k = false) : hK secs pts path ps out (k + 1) = hN (stD secs pts path k) (hK secs pts path ps out k) (stD secs pts path k).length := by
 conv => lhs; unfold hK
 rw [if_neg (by rw [h]; exact Bool.false_ne_true)]
end
def busyB (routes : List (List Int)) (ls : List Lk) (states path : List Int) (k : Nat) : Bool := decide (path.getD (k + 1) 0 ≥ (states.length : Int)) || (states.getD (path.getD (k + 1) 0).toNat 0 != 0) || decide (whoseL routes ls (path.getD (k + 1) 0) ≥ 0)
def busyK (routes : List (List Int)) (ls : List Lk) (states path : List Int) (n : Nat) : Bool := (List.range n).any (busyB routes ls states path)
def noMay (secs : List Sec) (pts : List Pnt) (routes : List (List Int)) (ls : List Lk) (states : List Int) (views : List View) (z : Need) : Bool := !mayB pts states views (secL routes ls secs.length) (heldL secs pts routes ls) z.point
def setE (secs : List Sec) (pts : List Pnt) (routes : List (List Int)) (ls : List Lk) (r : Int) (states : List Int) (views : List View) (right : List Bool) : Int :=
 if r < 0 ∨ r ≥ (routes.length : Int) then 7 else if findL ls r ≥ 0 then 8
 else if busyK routes ls states (routes.getD r.toNat []) ((routes.getD r.toNat []).length - 1) = true then 9
 else if (movesL (paL secs pts (routes.getD r.toNat [])) right).any (noMay secs pts routes ls states views) = true then 9 else 0
def setL (secs : List Sec) (pts : List Pnt) (routes : List (List Int)) (ls : List Lk) (r tr : Int) (states : List Int) (views : List View) (right : List Bool) : List Lk :=
 if setE secs pts routes ls r states views right = 0 then ls ++ [⟨r, tr, -1, List.replicate ((routes.getD r.toNat []).length - 1) 1⟩] else ls
def setR (secs : List Sec) (pts : List Pnt) (routes : List (List Int)) (ls : List Lk) (r : Int) (states : List Int) (views : List View) (right : List Bool) : List Bool :=
 if setE secs pts routes ls r states views right = 0 then moveL right (movesL (paL secs pts (routes.getD r.toNat [])) right) else right
section
variable {secs : List Sec} {pts : List Pnt} {routes : List (List Int)} {ls : List Lk} {r tr : Int} {states path : List Int} {views : List View} {right : List Bool} {k : Nat}
theorem busy_step (h : busyK routes ls states path k = false) (h2 : busyB routes ls states path k = false) : busyK routes ls states path (k + 1) = false := by
 unfold busyK at *
 rw [List.range_succ, List.any_append, h]
 simp [h2]
theorem busy_on {n : Nat} (hk : k < n) (h2 : busyB routes ls states path k = true) : busyK routes ls states path n = true := List.any_eq_true.2 ⟨k, List.mem_range.2 hk, h2⟩
theorem busy_t0 (h : decide (path.getD (k + 1) 0 ≥ (states.length : Int)) = true) : busyB routes ls states path k = true := by unfold busyB; rw [h]; rfl
theorem busy_t1 (h : (states.getD (path.getD (k + 1) 0).toNat 0 != 0) = true) : busyB routes ls states path k = true := by unfold busyB; rw [h, Bool.or_true]; rfl
theorem busy_t2 (h : decide (whoseL routes ls (path.getD (k + 1) 0) ≥ 0) = true) : busyB routes ls states path k = true := by unfold busyB; rw [h, Bool.or_true]
theorem busy_f (h : decide (path.getD (k + 1) 0 ≥ (states.length : Int)) = false) (h2 : (states.getD (path.getD (k + 1) 0).toNat 0 != 0) = false) (h3 : decide (whoseL routes ls (path.getD (k + 1) 0) ≥ 0) = false) : busyB routes ls states path k = false := by unfold busyB; rw [h, h2, h3]; rfl
theorem set_no {e : Int} (he : ¬ e = 0) (h : setE secs pts routes ls r states views right = e) : setL secs pts routes ls r tr states views right = ls ∧ setR secs pts routes ls r states views right = right := by
 unfold setL setR
 rw [h, if_neg he, if_neg he]; exact ⟨rfl, rfl⟩
theorem set_7 (h : (decide (r < 0) || decide (r ≥ (routes.length : Int))) = true) : setE secs pts routes ls r states views right = 7 := by
 simp only [Bool.or_eq_true, decide_eq_true_eq] at h
 unfold setE; rw [if_pos h]
theorem set_in (h : (decide (r < 0) || decide (r ≥ (routes.length : Int))) = false) : 0 ≤ r ∧ r < (routes.length : Int) := by
 simp only [Bool.or_eq_false_iff, decide_eq_false_iff_not] at h
 omega
theorem set_8 (h : 0 ≤ r ∧ r < (routes.length : Int)) (h2 : findL ls r ≥ 0) : setE secs pts routes ls r states views right = 8 := by
 unfold setE; rw [if_neg (by omega), if_pos h2]
theorem set_9 (h : 0 ≤ r ∧ r < (routes.length : Int)) (h2 : ¬ findL ls r ≥ 0) (h3 : busyK routes ls states (routes.getD r.toNat []) ((routes.getD r.toNat []).length - 1) = true) : setE secs pts routes ls r states views right = 9 := by
 unfold setE; rw [if_neg (by omega), if_neg h2, if_pos h3]
theorem set_9m (h : 0 ≤ r ∧ r < (routes.length : Int)) (h2 : ¬ findL ls r ≥ 0) (h3 : busyK routes ls states (routes.getD r.toNat []) ((routes.getD r.toNat []).length - 1) = false)
  (h4 : (movesL (paL secs pts (routes.getD r.toNat [])) right).any (noMay secs pts routes ls states views) = true) : setE secs pts routes ls r states views right = 9 := by
 unfold setE; rw [if_neg (by omega), if_neg h2, if_neg (by rw [h3]; exact Bool.false_ne_true), if_pos h4]
theorem set_0 (h : 0 ≤ r ∧ r < (routes.length : Int)) (h2 : ¬ findL ls r ≥ 0) (h3 : busyK routes ls states (routes.getD r.toNat []) ((routes.getD r.toNat []).length - 1) = false)
  (h4 : (movesL (paL secs pts (routes.getD r.toNat [])) right).any (noMay secs pts routes ls states views) = false) : setE secs pts routes ls r states views right = 0 := by
 unfold setE; rw [if_neg (by omega), if_neg h2, if_neg (by rw [h3]; exact Bool.false_ne_true), if_neg (by rw [h4]; exact Bool.false_ne_true)]
theorem set_yes (h : setE secs pts routes ls r states views right = 0) : setL secs pts routes ls r tr states views right = ls ++ [⟨r, tr, -1, List.replicate ((routes.getD r.toNat []).length - 1) 1⟩] ∧ setR secs pts routes ls r states views right = moveL right (movesL (paL secs pts (routes.getD r.toNat [])) right) := by
 unfold setL setR
 rw [if_pos h, if_pos h]; exact ⟨rfl, rfl⟩
end
def endX (x : Lk) (e : Int) : Lk := if x.ends = -1 then { x with ends := e } else x
def canE (routes : List (List Int)) (ls : List Lk) (r : Int) : Int := if r < 0 ∨ r ≥ (routes.length : Int) then 7 else if findL ls r < 0 then 8 else 0
def canL (routes : List (List Int)) (ls : List Lk) (r e : Int) : List Lk := if canE routes ls r = 0 then ls.set (findL ls r).toNat (endX (ls.getD (findL ls r).toNat dLk) e) else ls
section
variable {routes : List (List Int)} {ls : List Lk} {r e : Int}
theorem can_7 (h : (decide (r < 0) || decide (r ≥ (routes.length : Int))) = true) : canE routes ls r = 7 := by
 simp only [Bool.or_eq_true, decide_eq_true_eq] at h
 unfold canE; rw [if_pos h]
theorem can_8 (h : 0 ≤ r ∧ r < (routes.length : Int)) (h2 : findL ls r < 0) : canE routes ls r = 8 := by
 unfold canE; rw [if_neg (by omega), if_pos h2]
theorem can_0 (h : 0 ≤ r ∧ r < (routes.length : Int)) (h2 : ¬ findL ls r < 0) : canE routes ls r = 0 := by
 unfold canE; rw [if_neg (by omega), if_neg h2]
theorem can_no {x : Int} (hx : ¬ x = 0) (h : canE routes ls r = x) : canL routes ls r e = ls := by unfold canL; rw [h, if_neg hx]
theorem can_yes (h : canE routes ls r = 0) : canL routes ls r e = ls.set (findL ls r).toNat (endX (ls.getD (findL ls r).toNat dLk) e) := by unfold canL; rw [if_pos h]
theorem endX_no {x : Lk} (h : ¬ x.ends = -1) : endX x e = x := by unfold endX; rw [if_neg h]
theorem endX_yes {x : Lk} (h : x.ends = -1) : endX x e = ⟨x.route, x.train, e, x.pieces⟩ := by unfold endX; rw [if_pos h]
theorem find_rng (ls : List Lk) (r : Int) : findL ls r = -1 ∨ (0 ≤ findL ls r ∧ findL ls r < (ls.length : Int)) := idxB_range _ dLk _
theorem set_self {α : Type} (d : α) (l : List α) (k : Nat) : l.set k (l.getD k d) = l := by
 apply List.ext_getElem? ; intro i
 rw [List.getElem?_set]
 split
 ·rename_i h; subst h
  split
  ·rename_i h2; rw [List.getD_eq_getElem?_getD, List.getElem?_eq_getElem h2]; rfl
  ·rename_i h2; rw [List.getElem?_eq_none (by omega)]
 ·rfl
end
structure Tu where
 routes : List (List Int)
 parts : List (List Int)
 now : Int
 st : List Int
 ow : List Int
def tu1 (t : Tu) (s p : Int) (left : Bool) : Int := if ((p == 2) && (t.st.getD s.toNat 0 == 0) && !left) = true then 0 else p
def tu2 (t : Tu) (x : Lk) (s p1 : Int) : Int := if p1 = 1 ∧ ((t.st.getD s.toNat 0 == 1) && (t.ow.getD (partI t.parts s).toNat 0 == x.train)) = true then 2 else p1
def tu3 (t : Tu) (x : Lk) (s p1 : Int) : Int := if p1 = 1 ∧ ((t.st.getD s.toNat 0 == 0) && (x.ends != -1) && decide (x.ends ≤ t.now)) = true then 0 else tu2 t x s p1
def tuV (t : Tu) (x : Lk) (s p : Int) (left : Bool) : Int := tu3 t x s (tu1 t s p left)
def tuS (t : Tu) (x : Lk) (k : Nat) : Int := (t.routes.getD x.route.toNat []).getD (k + 1) 0
def tuK (t : Tu) (x : Lk) : Nat → List Int × Bool
 | 0 => (x.pieces, false)
 | k + 1 => ((tuK t x k).1.set k (tuV t x (tuS t x k) ((tuK t x k).1.getD k 0) (tuK t x k).2), (tuK t x k).2 || (tuV t x (tuS t x k) ((tuK t x k).1.getD k 0) (tuK t x k).2 != 0))
def tuX (t : Tu) (x : Lk) : Lk := { x with pieces := (tuK t x x.pieces.length).1 }
def tuB (t : Tu) (x : Lk) : Bool := (tuK t x x.pieces.length).2
def turnL (t : Tu) (ls : List Lk) : List Lk := (ls.filter (tuB t)).map (tuX t)
section
variable {t : Tu} {x : Lk} {ls : List Lk} {k : Nat}
theorem tuK_len : ∀ k, (tuK t x k).1.length = x.pieces.length
 | 0 => rfl
 | k + 1 => by show ((tuK t x k).1.set _ _).length = _; rw [List.length_set, tuK_len k]
theorem tuR_len {v : Int} : ((tuK t x k).1.set k v).length = x.pieces.length := by rw [List.length_set, tuK_len]
theorem tuR_get {v : Int} (h : k < x.pieces.length) : ((tuK t x k).1.set k v).getD k 0 = v := by
 rw [List.getD_eq_getElem?_getD, List.getElem?_set_self (by rw [tuK_len]; exact h)]; rfl
theorem tuR_set {v w : Int} : ((tuK t x k).1.set k v).set k w = (tuK t x k).1.set k w := List.set_set ..
section
variable {s p p1 : Int} {left : Bool}
theorem tu1_t (h : ((p == 2) && (t.st.getD s.toNat 0 == 0) && !left) = true) : tu1 t s p left = 0 := by unfold tu1; rw [if_pos h]
theorem tu1_f (h : ((p == 2) && (t.st.getD s.toNat 0 == 0) && !left) = false) : tu1 t s p left = p := by unfold tu1; rw [if_neg (by rw [h]; exact Bool.false_ne_true)]
theorem tu2_tt (h1 : (p1 == 1) = true) (h : (t.st.getD s.toNat 0 == 1) = true) (h2 : (t.ow.getD (partI t.parts s).toNat 0 == x.train) = true) : tu2 t x s p1 = 2 := by unfold tu2; rw [if_pos ⟨by simpa using h1, by rw [h, h2]; rfl⟩]
theorem tu2_f1 (h : (t.st.getD s.toNat 0 == 1) = false) : tu2 t x s p1 = p1 := by unfold tu2; rw [if_neg (fun h2 => by rw [h] at h2; exact Bool.false_ne_true h2.2)]
theorem tu2_f2 (h : (t.ow.getD (partI t.parts s).toNat 0 == x.train) = false) : tu2 t x s p1 = p1 := by unfold tu2; rw [if_neg (fun h2 => by rw [h, Bool.and_false] at h2; exact Bool.false_ne_true h2.2)]
theorem tu3_t (h1 : (p1 == 1) = true) (h : ((t.st.getD s.toNat 0 == 0) && (x.ends != -1) && decide (x.ends ≤ t.now)) = true) : tu3 t x s p1 = 0 := by unfold tu3; rw [if_pos ⟨by simpa using h1, h⟩]
theorem tu3_f (h : ((t.st.getD s.toNat 0 == 0) && (x.ends != -1) && decide (x.ends ≤ t.now)) = false) : tu3 t x s p1 = tu2 t x s p1 := by unfold tu3; rw [if_neg (fun h2 => by rw [h] at h2; exact Bool.false_ne_true h2.2)]
theorem tu3_n (h1 : (p1 == 1) = false) : tu3 t x s p1 = p1 := by
 have h2 : ¬ p1 = 1 := by simpa using h1
 unfold tu3 tu2; rw [if_neg (fun h => h2 h.1), if_neg (fun h => h2 h.1)]
theorem tuV_eq : tuV t x s p left = tu3 t x s (tu1 t s p left) := rfl
end
theorem turn_step (hk : k < ls.length) : turnL t (ls.take (k + 1)) = if tuB t (ls.getD k dLk) then turnL t (ls.take k) ++ [tuX t (ls.getD k dLk)] else turnL t (ls.take k) := by
 unfold turnL
 rw [take_snoc dLk hk, List.filter_append, List.map_append]
 cases h : tuB t (ls.getD k dLk) with
 | true => rw [List.filter_cons_of_pos h, if_pos rfl]; rfl
 | false => rw [List.filter_cons_of_neg (by rw [h]; exact Bool.false_ne_true), if_neg Bool.false_ne_true]; simp
theorem turn_len (t : Tu) (ls : List Lk) : (turnL t ls).length ≤ ls.length := by
 unfold turnL; rw [List.length_map]; exact List.length_filter_le _ _
end
section
variable {routes : List (List Int)} {ls : List Lk}
theorem can_R {r e : Int} (h : ∀ x, x ∈ ls → LkR routes x) : ∀ x, x ∈ canL routes ls r e → LkR routes x := fun x hx => by
 unfold canL at hx
 split at hx
 ·rcases List.mem_or_eq_of_mem_set hx with h1 | h1
  ·exact h x h1
  ·rw [h1]
   rcases Nat.lt_or_ge (findL ls r).toNat ls.length with hl | hl
   ·have h2 := h _ (getD_mem dLk hl)
    unfold endX; split
    ·exact ⟨h2.r, h2.ps, h2.ln⟩
    ·exact h2
   ·rw [List.set_eq_of_length_le hl] at hx
    rw [← h1]; exact h x hx
 ·exact h x hx
theorem can_len {r e : Int} : (canL routes ls r e).length = ls.length := by unfold canL; split <;> simp
theorem turn_R {t : Tu} (h : ∀ x, x ∈ ls → LkR routes x) : ∀ x, x ∈ turnL t ls → LkR routes x := fun x hx => by
 obtain ⟨y, hy, rfl⟩ := List.mem_map.1 hx
 have h2 := h y (List.mem_filter.1 hy).1
 exact ⟨h2.r, by show (tuK t y y.pieces.length).1.length + 1 ≤ _; rw [tuK_len]; exact h2.ps, h2.ln⟩
theorem setL_R {secs : List Sec} {pts : List Pnt} {r tr : Int} {states : List Int} {views : List View} {right : List Bool} (hrl : ∀ x, x ∈ routes → 1 ≤ x.length ∧ x.length ≤ 65536) (h : ∀ x, x ∈ ls → LkR routes x) : ∀ x, x ∈ setL secs pts routes ls r tr states views right → LkR routes x := fun x hx => by
 unfold setL at hx
 split at hx
 ·rename_i he
  rcases List.mem_append.1 hx with h1 | h1
  ·exact h x h1
  ·rw [List.mem_singleton.1 h1]
   have hr : 0 ≤ r ∧ r < (routes.length : Int) := by
    unfold setE at he
    split at he
    ·cases he
    ·omega
   obtain ⟨h2, h3⟩ := hrl _ (getD_mem (l := routes) (k := r.toNat) [] (by omega))
   exact ⟨hr, by show (List.replicate _ _).length + 1 ≤ (routes.getD r.toNat []).length; rw [List.length_replicate]; omega, h3⟩
 ·exact h x hx
theorem setL_len {secs : List Sec} {pts : List Pnt} {r tr : Int} {states : List Int} {views : List View} {right : List Bool} : (setL secs pts routes ls r tr states views right).length ≤ ls.length + 1 := by
 unfold setL; split
 ·rw [List.length_append]; simp
 ·omega
end
end Go.Lo
