/- Part of the logic of values: what the law reaches. -/
import Derived.Test.YtdeajfldegcdaaaPFnLsqLoL
namespace Go.Lo
structure Need where
 point : Int
 right : Bool
 deriving DecidableEq
def dN : Need := ⟨0, false⟩
def eB (b : Bool) : List AV := [.v (.bool b)]
def eI (n : Int) : List AV := [.v (.int .i64 n)]
def eU8 (n : Int) : List AV := [.v (.int .u8 n)]
def eN (n : Need) : List AV := [.v (.int .i64 n.point), .v (.bool n.right)]
instance (b : Bool) : NoIL (eB b) := by unfold eB; infer_instance
instance (b : Int) : NoIL (eI b) := by unfold eI; infer_instance
instance (b : Int) : NoIL (eU8 b) := by unfold eU8; infer_instance
instance (b : Need) : NoIL (eN b) := by unfold eN; infer_instance
instance (b : Bool) : FlatL (eB b) := by unfold eB; infer_instance
instance (b : Int) : FlatL (eI b) := by unfold eI; infer_instance
instance (b : Int) : FlatL (eU8 b) := by unfold eU8; infer_instance
instance (b : Need) : FlatL (eN b) := by unfold eN; infer_instance
def hasB (l : List Bool) (p : Int) : Bool := decide (p ≥ 0) && decide (p < (l.length : Int)) && l.getD p.toNat false
theorem has_step {α : Type} {l : List α} {k : Nat} {d n : α} (hk : k < l.length) (inv : n ∉ l.take k) (h : l.getD k d ≠ n) : n ∉ l.take (k + 1) := by
 rw [List.take_succ_eq_append_getElem hk]
 have : l.getD k d = l[k] := by simp [hk]
 rw [this] at h
 simp only [List.mem_append, List.mem_singleton, not_or]
 exact ⟨inv, fun e => h e.symm⟩
section
variable {α : Type} [DecidableEq α]
theorem has_stop {l : List α} {k : Nat} {d n : α} (hk : k < l.length) (h : l.getD k d = n) : decide (n ∈ l) = true := by
 simp only [decide_eq_true_eq]
 have : l.getD k d = l[k] := by simp [hk]
 rw [this] at h
 rw [← h]
 exact List.getElem_mem hk
theorem has_end {l : List α} {k : Nat} {n : α} (hk : l.length ≤ k) (inv : n ∉ l.take k) : decide (n ∈ l) = false := by
 rw [List.take_of_length_le hk] at inv
 simp [inv]
end
theorem take_snoc {α : Type} (d : α) {l : List α} {k : Nat} (h : k < l.length) : l.take (k + 1) = l.take k ++ [l.getD k d] := by
 rw [List.take_succ_eq_append_getElem h]
 simp [h]
def put1 (out : List Bool) (n : Need) : List Bool := if n.point < 0 ∨ n.point ≥ 8 then out else (out ++ List.replicate (n.point.toNat + 1 - out.length) false).set n.point.toNat n.right
def moveL (right : List Bool) (needs : List Need) : List Bool := needs.foldl put1 right
theorem put1_len (out : List Bool) (n : Need) : (put1 out n).length ≤ out.length + 8 := by
 unfold put1
 split
 ·omega
 ·simp; omega
theorem moveL_len (right : List Bool) (needs : List Need) : (moveL right needs).length ≤ right.length + 8 * needs.length := by
 induction needs generalizing right with
 | nil => simp [moveL]
 | cons n l ih =>
  have := ih (put1 right n)
  have := put1_len right n
  simp only [moveL, List.foldl_cons, List.length_cons] at *
  omega
theorem moveL_step {right : List Bool} {needs : List Need} {k : Nat} (h : k < needs.length) : moveL right (needs.take (k + 1)) = put1 (moveL right (needs.take k)) (needs.getD k dN) := by
 rw [take_snoc dN h]
 simp only [moveL, List.foldl_append, List.foldl_cons, List.foldl_nil]
theorem moveL_off {right : List Bool} {needs : List Need} {k : Nat} (h : k < needs.length) (hp : ((decide ((needs.getD k dN).point < 0)) || (decide ((needs.getD k dN).point ≥ 8))) = true) : moveL right (needs.take k) = moveL right (needs.take (k + 1)) := by
 rw [moveL_step h, put1, if_pos (by simpa using hp)]
theorem moveL_on {right : List Bool} {needs : List Need} {k j : Nat} (h : k < needs.length) (h0 : 0 ≤ (needs.getD k dN).point) (h8 : (needs.getD k dN).point < 8) (hj : j = (needs.getD k dN).point.toNat + 1 - (moveL right (needs.take k)).length) :
  moveL right (needs.take (k + 1)) = (moveL right (needs.take k) ++ List.replicate j false).set (needs.getD k dN).point.toNat (needs.getD k dN).right := by
 rw [moveL_step h, put1, if_neg (by omega), hj]
def refAt (right : List Bool) (needs : List Need) (i : Nat) : Bool := needs.foldl (fun b d => if d.point = (i : Int) ∧ (i : Int) < 8 then d.right else b) (hasB right (i : Int))
def refRow (right : List Bool) (needs : List Need) (N i : Nat) : List Bool := (List.range N).map fun j => if j < i then refAt right needs j else false
@[simp] theorem refRow_length (right : List Bool) (needs : List Need) (N i : Nat) : (refRow right needs N i).length = N := by simp [refRow]
def idxFrom {α : Type} (f : α → Bool) : Nat → List α → Int
 | _, [] => -1
 | i, a :: l => if f a = true then (i : Int) else idxFrom f (i + 1) l
def idxB {α : Type} (f : α → Bool) (l : List α) : Int := idxFrom f 0 l
theorem idxFrom_stop {α : Type} {f : α → Bool} (d : α) : ∀ (l : List α) (i k : Nat), k < l.length → (l.take k).any f = false → f (l.getD k d) = true → idxFrom f i l = ((i + k : Nat) : Int) := by
 intro l
 induction l with
 | nil => intro i k h; simp at h
 | cons a l ih =>
  intro i k h h1 h2
  cases k with
  | zero =>
   simp only [List.getD_cons_zero] at h2
   simp [idxFrom, h2]
  | succ k =>
   simp only [List.take_succ_cons, List.any_cons, Bool.or_eq_false_iff] at h1
   simp only [List.getD_cons_succ] at h2
   rw [idxFrom, if_neg (by rw [h1.1]; simp), ih (i + 1) k (by simpa using h) h1.2 h2]
   omega
theorem idxB_stop {α : Type} {f : α → Bool} (d : α) {l : List α} {k : Nat} (h : k < l.length) (h1 : (l.take k).any f = false) (h2 : f (l.getD k d) = true) : idxB f l = (k : Int) := by
 have := idxFrom_stop d l 0 k h h1 h2
 rw [Nat.zero_add] at this
 exact this
theorem idxFrom_end {α : Type} {f : α → Bool} : ∀ (l : List α) (i : Nat), l.any f = false → idxFrom f i l = -1 := by
 intro l
 induction l with
 | nil => intro i _; rfl
 | cons a l ih =>
  intro i h
  simp only [List.any_cons, Bool.or_eq_false_iff] at h
  rw [idxFrom, if_neg (by rw [h.1]; simp), ih _ h.2]
theorem idxB_end {α : Type} {f : α → Bool} {l : List α} {k : Nat} (hk : l.length ≤ k) (h : (l.take k).any f = false) : idxB f l = -1 := by
 rw [List.take_of_length_le hk] at h
 exact idxFrom_end l 0 h
theorem any_step {α : Type} {f : α → Bool} (d : α) {l : List α} {k : Nat} (hk : k < l.length) (inv : (l.take k).any f = false) (h : f (l.getD k d) = false) : (l.take (k + 1)).any f = false := by
 rw [take_snoc d hk, List.any_append, inv]
 simpa using h
theorem any_first {α : Type} {f : α → Bool} (d : α) (l : List α) (h : l.any f = true) : ∃ k, k < l.length ∧ (l.take k).any f = false ∧ f (l.getD k d) = true := by
 induction l with
 | nil => simp at h
 | cons a l ih =>
  cases ha : f a with
  | true => exact ⟨0, by simp, by simp, by simpa using ha⟩
  | false =>
   rw [List.any_cons, ha, Bool.false_or] at h
   obtain ⟨k, h1, h2, h3⟩ := ih h
   exact ⟨k + 1, by simpa using h1, by simp [ha, h2], by simpa using h3⟩
theorem idxB_found {α : Type} {f : α → Bool} (d : α) {l : List α} (h : ¬ idxB f l = -1) : ∃ k : Nat, idxB f l = (k : Int) ∧ k < l.length ∧ (l.take k).any f = false ∧ f (l.getD k d) = true := by
 cases ha : l.any f with
 | false => exact absurd (idxFrom_end l 0 ha) h
 | true =>
  obtain ⟨k, h1, h2, h3⟩ := any_first d l ha
  exact ⟨k, idxB_stop d h1 h2 h3, h1, h2, h3⟩
theorem idxB_any {α : Type} {f : α → Bool} (d : α) (l : List α) : decide (idxB f l ≥ 0) = l.any f := by
 cases ha : l.any f with
 | false => rw [show idxB f l = -1 from idxFrom_end l 0 ha]; rfl
 | true =>
  obtain ⟨k, h1, h2, h3⟩ := any_first d l ha
  rw [idxB_stop d h1 h2 h3]
  simp
def wrB (right : List Bool) (n : Need) : Bool := hasB right n.point != n.right
def delB (right : List Bool) (n : Need) : Bool := !(hasB right n.point != n.right)
def movesL (needs : List Need) (right : List Bool) : List Need := needs.filter (wrB right)
theorem movesL_step {needs : List Need} {right : List Bool} {k : Nat} (h : k < needs.length) : movesL (needs.take (k + 1)) right = movesL (needs.take k) right ++ (if wrB right (needs.getD k dN) = true then [needs.getD k dN] else []) := by
 rw [take_snoc dN h]
 simp only [movesL, List.filter_append, List.filter_cons, List.filter_nil]
theorem movesL_on {needs : List Need} {right : List Bool} {k : Nat} (h : k < needs.length) (hc : wrB right (needs.getD k dN) = true) : movesL (needs.take k) right ++ [needs.getD k dN] = movesL (needs.take (k + 1)) right := by rw [movesL_step h, if_pos hc]
theorem movesL_off {needs : List Need} {right : List Bool} {k : Nat} (h : k < needs.length) (hc : wrB right (needs.getD k dN) = false) : movesL (needs.take k) right = movesL (needs.take (k + 1)) right := by rw [movesL_step h, if_neg (by rw [hc]; simp), List.append_nil]
theorem movesL_len (needs : List Need) (right : List Bool) : (movesL needs right).length ≤ needs.length := List.length_filter_le _ _
def stepD (right : List Bool) (s : List Need × Nat) (n : Need) : List Need × Nat := if delB right n = true then s else (s.1.set s.2 n, s.2 + 1)
def delS (right : List Bool) (l : List Need) (j : Nat) : List Need × Nat := (l.take j).foldl (stepD right) (l, 0)
theorem delS_step (right : List Bool) {l : List Need} {j : Nat} (h : j < l.length) : delS right l (j + 1) = stepD right (delS right l j) (l.getD j dN) := by
 unfold delS
 rw [take_snoc dN h, List.foldl_append]
 rfl
theorem take_set_same {α : Type} (l : List α) (n : Nat) (x : α) : (l.set n x).take n = l.take n := by
 refine List.ext_getElem? (fun i => ?_)
 rw [List.getElem?_take, List.getElem?_take]
 split
 ·rw [List.getElem?_set_ne (by omega)]
 ·rfl
theorem delS_inv (right : List Bool) (l : List Need) : ∀ (j : Nat), j ≤ l.length → (delS right l j).1.length = l.length ∧ (delS right l j).2 ≤ j ∧ (∀ i, j ≤ i → (delS right l j).1[i]? = l[i]?) ∧ (delS right l j).1.take (delS right l j).2 = movesL (l.take j) right ∧ (delS right l j).2 = (movesL (l.take j) right).length := by
 intro j
 induction j with
 | zero => intro _; exact ⟨by simp [delS], by simp [delS], fun i _ => by simp [delS], by simp [delS, movesL], by simp [delS, movesL]⟩
 | succ j ih =>
  intro hj
  obtain ⟨h1, h2, h3, h4, h5⟩ := ih (by omega)
  rw [delS_step right (by omega)]
  unfold stepD
  by_cases hd : delB right (l.getD j dN) = true
  ·have hw : wrB right (l.getD j dN) = false := by simpa [delB, wrB] using hd
   rw [if_pos hd]
   exact ⟨h1, by omega, fun i hi => h3 i (by omega), by rw [h4, movesL_off (by omega) hw], by rw [h5, movesL_off (by omega) hw]⟩
  ·have hw : wrB right (l.getD j dN) = true := by simpa [delB, wrB] using hd
   rw [if_neg hd]
   refine ⟨by simp [h1], by simp; omega, fun i hi => ?_, ?_, ?_⟩
   ·simp only
    rw [List.getElem?_set_ne (by omega)]
    exact h3 i (by omega)
   ·rw [← movesL_on (by omega) hw, ← h4]
    simp only
    rw [take_snoc dN (by simp; omega)]
    rw [take_set_same]
    simp [show (delS right l j).2 < (delS right l j).1.length by omega]
   ·rw [← movesL_on (by omega) hw]
    simp [h5]
theorem delS_at (right : List Bool) {l : List Need} {j : Nat} (h : j < l.length) : (delS right l j).1.getD j dN = l.getD j dN := by
 have := (delS_inv right l j (by omega)).2.2.1 j (Nat.le_refl _)
 simp only [List.getD_eq_getElem?_getD, this]
theorem delS_keep (right : List Bool) {l : List Need} {j : Nat} (h : j < l.length) (hc : delB right ((delS right l j).1.getD j dN) = false) : delS right l (j + 1) = ((delS right l j).1.set (delS right l j).2 ((delS right l j).1.getD j dN), (delS right l j).2 + 1) := by
 rw [delS_step right h, delS_at right h] at *
 unfold stepD
 rw [if_neg (by rw [hc]; simp)]
theorem delS_drop (right : List Bool) {l : List Need} {j : Nat} (h : j < l.length) (hc : delB right ((delS right l j).1.getD j dN) = true) : delS right l (j + 1) = delS right l j := by
 rw [delS_at right h] at hc
 rw [delS_step right h]
 unfold stepD
 rw [if_pos hc]
theorem delS_start (right : List Bool) {l : List Need} : ∀ (i : Nat), i < l.length → (l.take i).any (delB right) = false → delS right l i = (l, i) := by
 intro i
 induction i with
 | zero => intro _ _; simp [delS]
 | succ i ih =>
  intro hi h
  rw [take_snoc dN (by omega), List.any_append, Bool.or_eq_false_iff] at h
  rw [delS_step right (by omega), ih (by omega) h.1]
  unfold stepD
  rw [if_neg (by simpa using h.2)]
  simp only [Prod.mk.injEq, and_true]
  refine List.ext_getElem? (fun k => ?_)
  rw [List.getElem?_set]
  split
  ·rename_i e
   subst e
   simp [show i < l.length by omega]
  ·rfl
theorem delS_first (right : List Bool) {l : List Need} {i : Nat} (hi : i < l.length) (h : (l.take i).any (delB right) = false) (hd : delB right (l.getD i dN) = true) : delS right l (i + 1) = (l, i) := by
 rw [delS_step right hi, delS_start right i hi h]
 unfold stepD
 rw [if_pos hd]
theorem delS_lt (right : List Bool) {l : List Need} {i : Nat} (hi : i < l.length) (h : (l.take i).any (delB right) = false) (hd : delB right (l.getD i dN) = true) : ∀ k, i + 1 + k ≤ l.length → (delS right l (i + 1 + k)).2 < i + 1 + k := by
 intro k
 induction k with
 | zero => intro _; rw [Nat.add_zero, delS_first right hi h hd]; simp
 | succ k ih =>
  intro hk
  have := ih (by omega)
  rw [show i + 1 + (k + 1) = (i + 1 + k) + 1 by omega, delS_step right (by omega)]
  unfold stepD
  split
  ·omega
  ·simp; omega
theorem zeros_N (n : Nat) : (Builtin.zeroCells #[.int .i64 0, .bool false] n).toList.map AV.v = enc eN (List.replicate n dN) := by
 induction n with
 | zero => simp [Builtin.zeroCells, enc]
 | succ n ih =>
  have e : (Builtin.zeroCells #[.int .i64 0, .bool false] (n + 1)).toList = (Builtin.zeroCells #[.int .i64 0, .bool false] n).toList ++ [.int .i64 0, .bool false] := by
   simp only [Builtin.zeroCells, Array.toList_map, Array.toList_range]
   show List.map _ (List.range ((n + 1) * 2)) = List.map _ (List.range (n * 2)) ++ _
   rw [show (n + 1) * 2 = n * 2 + 1 + 1 by omega, List.range_succ, List.range_succ, List.map_append, List.map_append, List.append_assoc]
   congr 1
   simp [Nat.add_mod]
  rw [e, List.map_append, ih, List.replicate_succ', enc_snoc]
  rfl
theorem clear_row {l : List Need} {i n : Nat} (h : i + n = l.length) : spl (enc eN l) (0 + i * 2) ((Builtin.zeroCells #[.int .i64 0, .bool false] n).toList.map AV.v) = enc eN (l.take i ++ List.replicate n dN) := by
 have hl : (enc eN (List.replicate n dN)).length = n * 2 := by rw [enc_length (f := eN) (s := 2) (fun _ => rfl)]; simp
 rw [zeros_N]
 unfold spl
 rw [hl, Nat.zero_add, enc_take (f := eN) (s := 2) (fun _ => rfl), enc_append, List.drop_of_length_le (by rw [enc_length (f := eN) (s := 2) (fun _ => rfl)]; omega), List.append_nil]
theorem movesL_none {l : List Need} {right : List Bool} (h : l.any (delB right) = false) : movesL l right = l := by
 unfold movesL
 rw [List.filter_eq_self]
 intro a ha
 have := List.any_eq_false.1 h a ha
 simpa [delB, wrB] using this
end Go.Lo
