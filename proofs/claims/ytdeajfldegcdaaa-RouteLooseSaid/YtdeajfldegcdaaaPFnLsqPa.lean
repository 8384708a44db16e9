/- Part of the logic of values: what the law reaches. -/
import Derived.Test.YtdeajfldegcdaaaPFnLsqGr
set_option linter.unusedVariables false
set_option linter.unusedSimpArgs false
namespace Go.Lo
structure WY where
 s : Int
 e : Int
 ns : List Need
section
variable (secs : List Sec) (pts : List Pnt)
def wyI (s e p : Int) : Int := idxB (fun x : En => decide (x.sec = p)) (aroundL secs pts s e)
def needR (s e p : Int) : Bool := decide ((pts.getD (pointI pts (nodeA secs s e)).toNat dP).right = (if (pts.getD (pointI pts (nodeA secs s e)).toNat dP).stem = p then s else p))
def needL (s e p : Int) : List Need := if pointI pts (nodeA secs s e) < 0 then [] else [⟨pointI pts (nodeA secs s e), needR secs pts s e p⟩]
def wyX (p : Int) (w : WY) : En := (aroundL secs pts w.s w.e).getD (wyI secs pts w.s w.e p).toNat dE
def wyN (p : Int) (w : WY) : WY := ⟨p, 1 - (wyX secs pts p w).en, w.ns ++ needL secs pts w.s w.e (wyX secs pts p w).sec⟩
def wyK (path : List Int) (w : WY) : Nat → WY
 | 0 => w
 | k + 1 => wyN secs pts (path.getD k 0) (wyK path w k)
def wyF : List Int → WY → Option (List Need)
 | [], w => some w.ns
 | p :: l, w => if wyI secs pts w.s w.e p < 0 then none else wyF l (wyN secs pts p w)
def wyO (s e : Int) (path : List Int) : Option (List Need) := wyF secs pts path ⟨s, e, []⟩
def wyL (s e : Int) (path : List Int) : List Need := (wyO secs pts s e path).getD []
def wyB (s e : Int) (path : List Int) : Bool := (wyO secs pts s e path).isSome
def paO (path : List Int) : Option (List Need) :=
 if path.length < 2 then none else if ¬ path.Nodup then none
 else if wyB secs pts (path.getD 0 0) 0 (path.drop 1) then wyO secs pts (path.getD 0 0) 0 (path.drop 1) else wyO secs pts (path.getD 0 0) 1 (path.drop 1)
def paL (path : List Int) : List Need := (paO secs pts path).getD []
def paB (path : List Int) : Bool := (paO secs pts path).isSome
end
section
variable {secs : List Sec} {pts : List Pnt} {s e p : Int} {path : List Int}
theorem need_no (h : pointI pts (nodeA secs s e) < 0) : needL secs pts s e p = [] := by unfold needL; rw [if_pos h]
theorem need_yes (h : ¬ pointI pts (nodeA secs s e) < 0) {leg : Int} (hl : leg = if (pts.getD (pointI pts (nodeA secs s e)).toNat dP).stem = p then s else p) {r : Bool} (hr : r = decide ((pts.getD (pointI pts (nodeA secs s e)).toNat dP).right = leg)) :
  needL secs pts s e p = [⟨pointI pts (nodeA secs s e), r⟩] := by unfold needL needR; rw [if_neg h, hr, hl]
theorem need_len : (needL secs pts s e p).length ≤ 1 := by unfold needL; split <;> simp
theorem wyK_len (w : WY) (hw : w.ns = []) : ∀ k, (wyK secs pts path w k).ns.length ≤ k
 | 0 => by simp [wyK, hw]
 | k + 1 => by
  have h1 := wyK_len w hw k
  have h2 := need_len (secs := secs) (pts := pts) (s := (wyK secs pts path w k).s) (e := (wyK secs pts path w k).e) (p := (wyX secs pts (path.getD k 0) (wyK secs pts path w k)).sec)
  show ((wyK secs pts path w k).ns ++ _).length ≤ k + 1
  rw [List.length_append]; omega
theorem drop_at {l : List Int} {k : Nat} (h : k < l.length) : l.drop k = l.getD k 0 :: l.drop (k + 1) := by
 rw [List.drop_eq_getElem_cons h]
 simp [h]
theorem wyX_ok {w : WY} (h : ¬ wyI secs pts w.s w.e p < 0) : ((wyX secs pts p w).en = 0 ∨ (wyX secs pts p w).en = 1) ∧ (wyX secs pts p w).sec = p ∧ (wyI secs pts w.s w.e p).toNat < (aroundL secs pts w.s w.e).length := by
 obtain ⟨j, h1, h2, _, h4⟩ := idxB_found dE (show ¬ idxB (fun x : En => decide (x.sec = p)) (aroundL secs pts w.s w.e) = -1 by unfold wyI at h; omega)
 have hj : (wyI secs pts w.s w.e p).toNat = j := by unfold wyI; rw [h1]; rfl
 unfold wyX
 rw [hj]
 exact ⟨around_en (getD_mem dE h2), of_decide_eq_true h4, h2⟩
theorem wy_step {R : Option (List Need)} {w : WY} {k : Nat} (hk : k < path.length) (h : wyF secs pts (path.drop k) w = R) (hi : ¬ wyI secs pts w.s w.e (path.getD k 0) < 0) : wyF secs pts (path.drop (k + 1)) (wyN secs pts (path.getD k 0) w) = R := by
 rw [drop_at hk] at h; unfold wyF at h; rw [if_neg hi] at h; exact h
theorem wy_stop {R : Option (List Need)} {w : WY} {k : Nat} (hk : k < path.length) (h : wyF secs pts (path.drop k) w = R) (hi : wyI secs pts w.s w.e (path.getD k 0) < 0) : R = none := by
 rw [drop_at hk] at h; unfold wyF at h; rw [if_pos hi] at h; exact h.symm
theorem wy_end {R : Option (List Need)} {w : WY} {k : Nat} (hk : path.length ≤ k) (h : wyF secs pts (path.drop k) w = R) : R = some w.ns := by
 rw [List.drop_of_length_le hk] at h; exact h.symm
theorem wyL_none (h : wyO secs pts s e path = none) : wyL secs pts s e path = [] ∧ wyB secs pts s e path = false := by unfold wyL wyB; rw [h]; exact ⟨rfl, rfl⟩
theorem wyL_some {l : List Need} (h : wyO secs pts s e path = some l) : wyL secs pts s e path = l ∧ wyB secs pts s e path = true := by unfold wyL wyB; rw [h]; exact ⟨rfl, rfl⟩
theorem paL_none (h : paO secs pts path = none) : paL secs pts path = [] ∧ paB secs pts path = false := by unfold paL paB; rw [h]; exact ⟨rfl, rfl⟩
theorem pa_short (h : path.length < 2) : paL secs pts path = [] ∧ paB secs pts path = false := paL_none (by unfold paO; rw [if_pos h])
theorem pa_dup (h : ¬ path.Nodup) : paL secs pts path = [] ∧ paB secs pts path = false := by
 apply paL_none; unfold paO
 split
 ·rfl
 ·rfl
theorem pa_at {k : Nat} (h1 : ¬ path.length < 2) (h2 : path.Nodup) (hk : k < 2) (h : ∀ j, j < k → wyB secs pts (path.getD 0 0) (j : Int) (path.drop 1) = false) (hb : wyB secs pts (path.getD 0 0) (k : Int) (path.drop 1) = true) :
  paL secs pts path = wyL secs pts (path.getD 0 0) (k : Int) (path.drop 1) ∧ paB secs pts path = true := by
 have hp : paO secs pts path = wyO secs pts (path.getD 0 0) (k : Int) (path.drop 1) := by
  unfold paO
  rw [if_neg h1, if_neg (fun h => h h2)]
  rcases Nat.lt_or_ge 0 k with h0 | h0
  ·obtain rfl : k = 1 := by omega
   rw [if_neg (by have h9 := h 0 h0; intro h8; rw [show ((0 : Nat) : Int) = 0 from rfl, h8] at h9; cases h9)]; rfl
  ·obtain rfl : k = 0 := by omega
   rw [if_pos (by exact hb)]; rfl
 unfold paL paB
 rw [hp]
 exact ⟨rfl, hb⟩
theorem pa_end {k : Nat} (h1 : ¬ path.length < 2) (h2 : path.Nodup) (hk : 2 ≤ k) (h : ∀ j, j < k → wyB secs pts (path.getD 0 0) (j : Int) (path.drop 1) = false) : paL secs pts path = [] ∧ paB secs pts path = false := by
 have a := h 0 (by omega)
 have b := h 1 (by omega)
 apply paL_none; unfold paO
 rw [if_neg h1, if_neg (fun h => h h2), if_neg (by intro h8; rw [show ((0 : Nat) : Int) = 0 from rfl, h8] at a; cases a)]
 cases hq : wyO secs pts (path.getD 0 0) 1 (path.drop 1) with
 | none => rfl
 | some l => have := (wyL_some hq).2; rw [show (1 : Int) = ((1 : Nat) : Int) from rfl, b] at this; cases this
theorem seen_step {k : Nat} (hk : k < path.length) (h : (path.take k).Nodup) (hn : ¬ path.getD k 0 ∈ path.take k) : (path.take (k + 1)).Nodup := by
 rw [take_snoc 0 hk]
 exact List.nodup_append.2 ⟨h, List.nodup_cons.2 ⟨by simp, List.nodup_nil⟩, fun a ha b hb e => by rw [List.mem_singleton.1 hb] at e; rw [e] at ha; exact hn ha⟩
theorem seen_dup {k : Nat} (hk : k < path.length) (hn : path.getD k 0 ∈ path.take k) : ¬ path.Nodup := fun h => by
 have h2 : (path.take (k + 1)).Nodup := h.sublist (List.take_sublist _ _)
 rw [take_snoc 0 hk] at h2
 exact (List.nodup_append.1 h2).2.2 _ hn _ (List.mem_singleton.2 rfl) rfl
theorem wyF_len : ∀ (l : List Int) (w : WY) (r : List Need), wyF secs pts l w = some r → r.length ≤ w.ns.length + l.length
 | [], w, r, h => by cases h; simp
 | p :: l, w, r, h => by
  unfold wyF at h
  split at h
  ·cases h
  ·have h1 := wyF_len l _ r h
   have h2 := need_len (secs := secs) (pts := pts) (s := w.s) (e := w.e) (p := (wyX secs pts p w).sec)
   simp only [wyN, List.length_append, List.length_cons] at h1 ⊢
   omega
theorem paL_len : (paL secs pts path).length ≤ path.length := by
 unfold paL
 cases h : paO secs pts path with
 | none => simp
 | some r =>
  unfold paO at h
  have key : ∀ e, wyO secs pts (path.getD 0 0) e (path.drop 1) = some r → r.length ≤ path.length := fun e hq => by
   have := wyF_len _ _ _ hq
   simp only [List.length_drop, List.length_nil] at this
   omega
  split at h
  ·cases h
  ·split at h
   ·cases h
   ·split at h
    ·exact key _ h
    ·exact key _ h
end
end Go.Lo
