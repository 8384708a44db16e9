/- Part of the logic of values: what the law reaches. -/
import Derived.Test.YtnjncdidiijpgaaPFnPoqLoL
namespace Go.Lo
structure Need where
 point : Int
 right : Bool
 deriving DecidableEq
def dN : Need := ⟨0, false⟩
def eB (b : Bool) : List AV := [.v (.bool b)]
def eI (n : Int) : List AV := [.v (.int .i64 n)]
def eU8 (n : Int) : List AV := [.v (.int .u8 n)]
def eN (n : Need) : List AV := [.v (.int .i64 n.point), .v (.bool n.right)]
instance (b : Bool) : NoIL (eB b) := by unfold eB; infer_instance
instance (b : Int) : NoIL (eI b) := by unfold eI; infer_instance
instance (b : Int) : NoIL (eU8 b) := by unfold eU8; infer_instance
instance (b : Need) : NoIL (eN b) := by unfold eN; infer_instance
instance (b : Bool) : FlatL (eB b) := by unfold eB; infer_instance
instance (b : Int) : FlatL (eI b) := by unfold eI; infer_instance
instance (b : Int) : FlatL (eU8 b) := by unfold eU8; infer_instance
instance (b : Need) : FlatL (eN b) := by unfold eN; infer_instance
def hasB (l : List Bool) (p : Int) : Bool := decide (p ≥ 0) && decide (p < (l.length : Int)) && l.getD p.toNat false
theorem has_step {α : Type} {l : List α} {k : Nat} {d n : α} (hk : k < l.length) (inv : n ∉ l.take k) (h : l.getD k d ≠ n) : n ∉ l.take (k + 1) := by
 rw [List.take_succ_eq_append_getElem hk]
 have : l.getD k d = l[k] := by simp [hk]
 rw [this] at h
 simp only [List.mem_append, List.mem_singleton, not_or]
 exact ⟨inv, fun e => h e.symm⟩
theorem alike_step {α : Type} {a b : List α} {k : Nat} {d : α} (ha : k < a.length) (hb : k < b.length) (inv : a.take k = b.take k) (h : a.getD k d = b.getD k d) : a.take (k + 1) = b.take (k + 1) := by
 rw [List.take_succ_eq_append_getElem ha, List.take_succ_eq_append_getElem hb, inv]
 congr 2
 simpa [ha, hb] using h
section
variable {α : Type} [DecidableEq α]
theorem alike_off {a b : List α} (h : a.length ≠ b.length) : decide (a = b) = false := by
 simp only [decide_eq_false_iff_not]; intro e; exact h (by rw [e])
theorem alike_stop {a b : List α} {k : Nat} {d : α} (h : a.getD k d ≠ b.getD k d) : decide (a = b) = false := by
 simp only [decide_eq_false_iff_not]; intro e; exact h (by rw [e])
theorem alike_end {a b : List α} {k : Nat} (hl : a.length = b.length) (hk : a.length ≤ k) (inv : a.take k = b.take k) : decide (a = b) = true := by
 rw [List.take_of_length_le hk, List.take_of_length_le (by omega)] at inv
 simp [inv]
theorem has_stop {l : List α} {k : Nat} {d n : α} (hk : k < l.length) (h : l.getD k d = n) : decide (n ∈ l) = true := by
 simp only [decide_eq_true_eq]
 have : l.getD k d = l[k] := by simp [hk]
 rw [this] at h
 rw [← h]
 exact List.getElem_mem hk
theorem has_end {l : List α} {k : Nat} {n : α} (hk : l.length ≤ k) (inv : n ∉ l.take k) : decide (n ∈ l) = false := by
 rw [List.take_of_length_le hk] at inv
 simp [inv]
end
theorem take_snoc {α : Type} (d : α) {l : List α} {k : Nat} (h : k < l.length) : l.take (k + 1) = l.take k ++ [l.getD k d] := by
 rw [List.take_succ_eq_append_getElem h]
 simp [h]
def put1 (out : List Bool) (n : Need) : List Bool := if n.point < 0 ∨ n.point ≥ 8 then out else (out ++ List.replicate (n.point.toNat + 1 - out.length) false).set n.point.toNat n.right
def moveL (right : List Bool) (needs : List Need) : List Bool := needs.foldl put1 right
theorem put1_len (out : List Bool) (n : Need) : (put1 out n).length ≤ out.length + 8 := by
 unfold put1
 split
 ·omega
 ·simp; omega
theorem moveL_len (right : List Bool) (needs : List Need) : (moveL right needs).length ≤ right.length + 8 * needs.length := by
 induction needs generalizing right with
 | nil => simp [moveL]
 | cons n l ih =>
  have := ih (put1 right n)
  have := put1_len right n
  simp only [moveL, List.foldl_cons, List.length_cons] at *
  omega
def refN (n : Nat) (needs : List Need) : Nat := needs.foldl (fun (n : Nat) d => if d.point ≥ (n : Int) ∧ d.point < 8 then d.point.toNat + 1 else n) n
def refAt (right : List Bool) (needs : List Need) (i : Nat) : Bool := needs.foldl (fun b d => if d.point = (i : Int) ∧ (i : Int) < 8 then d.right else b) (hasB right (i : Int))
def refRow (right : List Bool) (needs : List Need) (N i : Nat) : List Bool := (List.range N).map fun j => if j < i then refAt right needs j else false
theorem refN_step (n : Nat) {needs : List Need} {k : Nat} (h : k < needs.length) : refN n (needs.take (k + 1)) = if (needs.getD k dN).point ≥ (refN n (needs.take k) : Int) ∧ (needs.getD k dN).point < 8 then (needs.getD k dN).point.toNat + 1 else refN n (needs.take k) := by
 unfold refN
 rw [take_snoc dN h, List.foldl_append]
 rfl
theorem refN_on {n : Nat} {needs : List Need} {k : Nat} (h : k < needs.length) (hc : (decide ((needs.getD k dN).point ≥ (refN n (needs.take k) : Int)) && decide ((needs.getD k dN).point < 8)) = true) : (needs.getD k dN).point + 1 = ((refN n (needs.take (k + 1)) : Nat) : Int) := by
 simp only [Bool.and_eq_true, decide_eq_true_eq] at hc
 rw [refN_step n h, if_pos hc]
 omega
theorem refN_off {n : Nat} {needs : List Need} {k : Nat} (h : k < needs.length) (hc : (decide ((needs.getD k dN).point ≥ (refN n (needs.take k) : Int)) && decide ((needs.getD k dN).point < 8)) = false) : ((refN n (needs.take k) : Nat) : Int) = ((refN n (needs.take (k + 1)) : Nat) : Int) := by
 simp only [Bool.and_eq_false_iff, decide_eq_false_iff_not] at hc
 rw [refN_step n h, if_neg (by omega)]
theorem refN_le (n : Nat) (needs : List Need) : refN n needs ≤ n + 8 := by
 have key : ∀ (l : List Need) (m : Nat), m ≤ n + 8 → refN m l ≤ n + 8 := by
  intro l
  induction l with
  | nil => intro m h; exact h
  | cons d l ih =>
   intro m h
   simp only [refN, List.foldl_cons]
   refine ih _ ?_
   split <;> omega
 exact key needs n (by omega)
theorem refAt_step (right : List Bool) {needs : List Need} (i : Nat) {k : Nat} (h : k < needs.length) : refAt right (needs.take (k + 1)) i = if (needs.getD k dN).point = (i : Int) ∧ (i : Int) < 8 then (needs.getD k dN).right else refAt right (needs.take k) i := by
 rw [take_snoc dN h]
 simp only [refAt, List.foldl_append, List.foldl_cons, List.foldl_nil]
theorem refAt_on {right : List Bool} {needs : List Need} {i k : Nat} (h : k < needs.length) (hc : (((needs.getD k dN).point == (i : Int)) && decide ((i : Int) < 8)) = true) : refAt right (needs.take (k + 1)) i = (needs.getD k dN).right := by
 simp only [Bool.and_eq_true, decide_eq_true_eq, beq_iff_eq] at hc
 rw [refAt_step right i h, if_pos hc]
theorem refAt_off {right : List Bool} {needs : List Need} {i k : Nat} (h : k < needs.length) (hc : (((needs.getD k dN).point == (i : Int)) && decide ((i : Int) < 8)) = false) : refAt right (needs.take (k + 1)) i = refAt right (needs.take k) i := by
 simp only [Bool.and_eq_false_iff, decide_eq_false_iff_not, beq_eq_false_iff_ne] at hc
 rw [refAt_step right i h, if_neg (by omega)]
@[simp] theorem refRow_length (right : List Bool) (needs : List Need) (N i : Nat) : (refRow right needs N i).length = N := by simp [refRow]
theorem refRow_zero (right : List Bool) (needs : List Need) (N : Nat) : refRow right needs N 0 = List.replicate N false := by
 refine List.ext_getElem (by simp) (fun j h1 h2 => ?_)
 simp [refRow]
theorem refRow_step (right : List Bool) (needs : List Need) {N i : Nat} (_h : i < N) : refRow right needs N (i + 1) = (refRow right needs N i).set i (refAt right needs i) := by
 refine List.ext_getElem (by simp) (fun j h1 h2 => ?_)
 rw [List.getElem_set]
 simp only [refRow, List.getElem_map, List.getElem_range]
 split
 ·split
  ·rename_i e
   rw [e]
  ·rw [if_pos (by omega)]
 ·rw [if_neg (by omega), if_neg (by omega)]
theorem hasB_nat (right : List Bool) (i : Nat) : hasB right (i : Int) = right.getD i false := by
 unfold hasB
 by_cases h : i < right.length
 ·simp [h]
 ·simp [h]
theorem put1_get {M : List Bool} {d : Need} (i : Nat) : (put1 M d).getD i false = if d.point = (i : Int) ∧ (i : Int) < 8 then d.right else M.getD i false := by
 unfold put1
 by_cases hp : d.point < 0 ∨ d.point ≥ 8
 ·rw [if_pos hp, if_neg (by omega)]
 ·rw [if_neg hp]
  simp only [List.getD_eq_getElem?_getD, List.getElem?_set, List.length_append, List.length_replicate]
  by_cases hi : d.point = (i : Int)
  ·rw [if_pos (by omega), if_pos (by omega), if_pos (by omega)]
   rfl
  ·rw [if_neg (by omega), if_neg (by omega), List.getElem?_append]
   split
   ·rfl
   ·rw [List.getElem?_replicate]
    split
    ·rw [List.getElem?_eq_none (by omega)]; rfl
    ·rw [List.getElem?_eq_none (by omega)]
theorem put1_length (M : List Bool) (d : Need) : (put1 M d).length = if d.point ≥ (M.length : Int) ∧ d.point < 8 then d.point.toNat + 1 else M.length := by
 unfold put1
 by_cases hp : d.point < 0 ∨ d.point ≥ 8
 ·rw [if_pos hp, if_neg (by omega)]
 ·rw [if_neg hp, List.length_set, List.length_append, List.length_replicate]
  split <;> omega
theorem moveL_ref (needs : List Need) : ∀ (right : List Bool) (N : Nat), right.length = N → (moveL right needs).length = refN N needs ∧ ∀ (i : Nat) (b : Bool), right.getD i false = b → (moveL right needs).getD i false = needs.foldl (fun b d => if d.point = (i : Int) ∧ (i : Int) < 8 then d.right else b) b := by
 induction needs with
 | nil => intro right N h; exact ⟨h, fun i b hb => hb⟩
 | cons d l ih =>
  intro right N h
  have h1 := put1_length right d
  rw [h] at h1
  obtain ⟨h2, h3⟩ := ih (put1 right d) _ h1
  refine ⟨h2, fun i b hb => ?_⟩
  exact h3 i _ (by rw [put1_get, hb])
theorem refRow_all {right : List Bool} {needs : List Need} {N i : Nat} (hN : N = refN right.length needs) (hi : N ≤ i) : refRow right needs N i = moveL right needs := by
 obtain ⟨h1, h2⟩ := moveL_ref needs right right.length rfl
 refine List.ext_getElem (by rw [refRow_length, h1, hN]) (fun j hj hj2 => ?_)
 have := h2 j _ rfl
 rw [List.getD_eq_getElem?_getD, List.getElem?_eq_getElem hj2, Option.getD_some] at this
 rw [this]
 rw [refRow_length] at hj
 simp only [refRow, List.getElem_map, List.getElem_range]
 rw [if_pos (by omega)]
 simp only [refAt, hasB_nat]
def idxFrom {α : Type} (f : α → Bool) : Nat → List α → Int
 | _, [] => -1
 | i, a :: l => if f a = true then (i : Int) else idxFrom f (i + 1) l
def idxB {α : Type} (f : α → Bool) (l : List α) : Int := idxFrom f 0 l
theorem idxFrom_stop {α : Type} {f : α → Bool} (d : α) : ∀ (l : List α) (i k : Nat), k < l.length → (l.take k).any f = false → f (l.getD k d) = true → idxFrom f i l = ((i + k : Nat) : Int) := by
 intro l
 induction l with
 | nil => intro i k h; simp at h
 | cons a l ih =>
  intro i k h h1 h2
  cases k with
  | zero =>
   simp only [List.getD_cons_zero] at h2
   simp [idxFrom, h2]
  | succ k =>
   simp only [List.take_succ_cons, List.any_cons, Bool.or_eq_false_iff] at h1
   simp only [List.getD_cons_succ] at h2
   rw [idxFrom, if_neg (by rw [h1.1]; simp), ih (i + 1) k (by simpa using h) h1.2 h2]
   omega
theorem idxB_stop {α : Type} {f : α → Bool} (d : α) {l : List α} {k : Nat} (h : k < l.length) (h1 : (l.take k).any f = false) (h2 : f (l.getD k d) = true) : idxB f l = (k : Int) := by
 have := idxFrom_stop d l 0 k h h1 h2
 rw [Nat.zero_add] at this
 exact this
theorem idxFrom_end {α : Type} {f : α → Bool} : ∀ (l : List α) (i : Nat), l.any f = false → idxFrom f i l = -1 := by
 intro l
 induction l with
 | nil => intro i _; rfl
 | cons a l ih =>
  intro i h
  simp only [List.any_cons, Bool.or_eq_false_iff] at h
  rw [idxFrom, if_neg (by rw [h.1]; simp), ih _ h.2]
theorem idxB_end {α : Type} {f : α → Bool} {l : List α} {k : Nat} (hk : l.length ≤ k) (h : (l.take k).any f = false) : idxB f l = -1 := by
 rw [List.take_of_length_le hk] at h
 exact idxFrom_end l 0 h
theorem any_step {α : Type} {f : α → Bool} (d : α) {l : List α} {k : Nat} (hk : k < l.length) (inv : (l.take k).any f = false) (h : f (l.getD k d) = false) : (l.take (k + 1)).any f = false := by
 rw [take_snoc d hk, List.any_append, inv]
 simpa using h
theorem any_first {α : Type} {f : α → Bool} (d : α) (l : List α) (h : l.any f = true) : ∃ k, k < l.length ∧ (l.take k).any f = false ∧ f (l.getD k d) = true := by
 induction l with
 | nil => simp at h
 | cons a l ih =>
  cases ha : f a with
  | true => exact ⟨0, by simp, by simp, by simpa using ha⟩
  | false =>
   rw [List.any_cons, ha, Bool.false_or] at h
   obtain ⟨k, h1, h2, h3⟩ := ih h
   exact ⟨k + 1, by simpa using h1, by simp [ha, h2], by simpa using h3⟩
theorem idxB_found {α : Type} {f : α → Bool} (d : α) {l : List α} (h : ¬ idxB f l = -1) : ∃ k : Nat, idxB f l = (k : Int) ∧ k < l.length ∧ (l.take k).any f = false ∧ f (l.getD k d) = true := by
 cases ha : l.any f with
 | false => exact absurd (idxFrom_end l 0 ha) h
 | true =>
  obtain ⟨k, h1, h2, h3⟩ := any_first d l ha
  exact ⟨k, idxB_stop d h1 h2 h3, h1, h2, h3⟩
theorem idxB_any {α : Type} {f : α → Bool} (d : α) (l : List α) : decide (idxB f l ≥ 0) = l.any f := by
 cases ha : l.any f with
 | false => rw [show idxB f l = -1 from idxFrom_end l 0 ha]; rfl
 | true =>
  obtain ⟨k, h1, h2, h3⟩ := any_first d l ha
  rw [idxB_stop d h1 h2 h3]
  simp
def wrB (right : List Bool) (n : Need) : Bool := hasB right n.point != n.right
def movesL (needs : List Need) (right : List Bool) : List Need := needs.filter (wrB right)
theorem movesL_step {needs : List Need} {right : List Bool} {k : Nat} (h : k < needs.length) : movesL (needs.take (k + 1)) right = movesL (needs.take k) right ++ (if wrB right (needs.getD k dN) = true then [needs.getD k dN] else []) := by
 rw [take_snoc dN h]
 simp only [movesL, List.filter_append, List.filter_cons, List.filter_nil]
theorem movesL_on {needs : List Need} {right : List Bool} {k : Nat} (h : k < needs.length) (hc : wrB right (needs.getD k dN) = true) : movesL (needs.take k) right ++ [needs.getD k dN] = movesL (needs.take (k + 1)) right := by rw [movesL_step h, if_pos hc]
theorem movesL_off {needs : List Need} {right : List Bool} {k : Nat} (h : k < needs.length) (hc : wrB right (needs.getD k dN) = false) : movesL (needs.take k) right = movesL (needs.take (k + 1)) right := by rw [movesL_step h, if_neg (by rw [hc]; simp), List.append_nil]
theorem movesL_len (needs : List Need) (right : List Bool) : (movesL needs right).length ≤ needs.length := List.length_filter_le _ _
theorem take_set_same {α : Type} (l : List α) (n : Nat) (x : α) : (l.set n x).take n = l.take n := by
 refine List.ext_getElem? (fun i => ?_)
 rw [List.getElem?_take, List.getElem?_take]
 split
 ·rw [List.getElem?_set_ne (by omega)]
 ·rfl
end Go.Lo
