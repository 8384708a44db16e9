/- What the functions compute, in plain Lean. -/
import Derived.Test.YthfmdljohlolpaaLoL
namespace Go.Lo
structure Need where
  point : Int
  right : Bool
  deriving DecidableEq
def dN : Need := ⟨0, false⟩
def eB (b : Bool) : List AV := [.v (.bool b)]
def eI (n : Int) : List AV := [.v (.int .i64 n)]
def eU8 (n : Int) : List AV := [.v (.int .u8 n)]
def eN (n : Need) : List AV := [.v (.int .i64 n.point), .v (.bool n.right)]
instance (b : Bool) : NoIL (eB b) := by unfold eB; infer_instance
instance (b : Int) : NoIL (eI b) := by unfold eI; infer_instance
instance (b : Int) : NoIL (eU8 b) := by unfold eU8; infer_instance
instance (b : Need) : NoIL (eN b) := by unfold eN; infer_instance
instance (b : Bool) : FlatL (eB b) := by unfold eB; infer_instance
instance (b : Int) : FlatL (eI b) := by unfold eI; infer_instance
instance (b : Int) : FlatL (eU8 b) := by unfold eU8; infer_instance
instance (b : Need) : FlatL (eN b) := by unfold eN; infer_instance
def hasB (l : List Bool) (p : Int) : Bool := decide (p ≥ 0) && decide (p < (l.length : Int)) && l.getD p.toNat false

/-! lists, element by element -/
theorem has_step {α : Type} {l : List α} {k : Nat} {d n : α} (hk : k < l.length) (inv : n ∉ l.take k) (h : l.getD k d ≠ n) : n ∉ l.take (k + 1) := by
  rw [List.take_succ_eq_append_getElem hk]
  have : l.getD k d = l[k] := by simp [hk]
  rw [this] at h
  simp only [List.mem_append, List.mem_singleton, not_or]
  exact ⟨inv, fun e => h e.symm⟩
theorem alike_step {α : Type} {a b : List α} {k : Nat} {d : α} (ha : k < a.length) (hb : k < b.length) (inv : a.take k = b.take k) (h : a.getD k d = b.getD k d) : a.take (k + 1) = b.take (k + 1) := by
  rw [List.take_succ_eq_append_getElem ha, List.take_succ_eq_append_getElem hb, inv]
  congr 2
  simpa [ha, hb] using h
section
variable {α : Type} [DecidableEq α]
theorem alike_off {a b : List α} (h : a.length ≠ b.length) : decide (a = b) = false := by
  simp only [decide_eq_false_iff_not]; intro e; exact h (by rw [e])
theorem alike_stop {a b : List α} {k : Nat} {d : α} (h : a.getD k d ≠ b.getD k d) : decide (a = b) = false := by
  simp only [decide_eq_false_iff_not]; intro e; exact h (by rw [e])
theorem alike_end {a b : List α} {k : Nat} (hl : a.length = b.length) (hk : a.length ≤ k) (inv : a.take k = b.take k) : decide (a = b) = true := by
  rw [List.take_of_length_le hk, List.take_of_length_le (by omega)] at inv
  simp [inv]
theorem has_stop {l : List α} {k : Nat} {d n : α} (hk : k < l.length) (h : l.getD k d = n) : decide (n ∈ l) = true := by
  simp only [decide_eq_true_eq]
  have : l.getD k d = l[k] := by simp [hk]
  rw [this] at h
  rw [← h]
  exact List.getElem_mem hk
theorem has_end {l : List α} {k : Nat} {n : α} (hk : l.length ≤ k) (inv : n ∉ l.take k) : decide (n ∈ l) = false := by
  rw [List.take_of_length_le hk] at inv
  simp [inv]
end

theorem take_snoc {α : Type} (d : α) {l : List α} {k : Nat} (h : k < l.length) : l.take (k + 1) = l.take k ++ [l.getD k d] := by
  rw [List.take_succ_eq_append_getElem h]
  simp [h]
/-! points -/
def ofL (near : Bool) (l : List Need) : List Need := l.map fun n => ⟨cond near (n.point.tmod 4) n.point, n.right⟩
theorem ofL_step (near : Bool) {l : List Need} {k : Nat} (h : k < l.length) : ofL near (l.take (k + 1)) = ofL near (l.take k) ++ [⟨cond near ((l.getD k dN).point.tmod 4) (l.getD k dN).point, (l.getD k dN).right⟩] := by
  rw [take_snoc dN h]
  simp only [ofL, List.map_append, List.map_cons, List.map_nil]
theorem ofL_near {near : Bool} {l : List Need} {k : Nat} (h : k < l.length) (hn : near = true) : ofL near (l.take k) ++ [⟨(l.getD k dN).point.tmod 4, (l.getD k dN).right⟩] = ofL near (l.take (k + 1)) := by rw [ofL_step near h]; subst hn; rfl
theorem ofL_far {near : Bool} {l : List Need} {k : Nat} (h : k < l.length) (hn : near = false) : ofL near (l.take k) ++ [⟨(l.getD k dN).point, (l.getD k dN).right⟩] = ofL near (l.take (k + 1)) := by rw [ofL_step near h]; subst hn; rfl
theorem ofL_all (near : Bool) (l : List Need) (k : Nat) (h : l.length ≤ k) : ofL near (l.take k) = ofL near l := by rw [List.take_of_length_le h]
def put1 (out : List Bool) (n : Need) : List Bool := if n.point < 0 ∨ n.point ≥ 8 then out else (out ++ List.replicate (n.point.toNat + 1 - out.length) false).set n.point.toNat n.right
def moveL (right : List Bool) (needs : List Need) : List Bool := needs.foldl put1 right
theorem put1_len (out : List Bool) (n : Need) : (put1 out n).length ≤ out.length + 8 := by
  unfold put1
  split
  · omega
  · simp; omega
theorem moveL_len (right : List Bool) (needs : List Need) : (moveL right needs).length ≤ right.length + 8 * needs.length := by
  induction needs generalizing right with
  | nil => simp [moveL]
  | cons n l ih =>
    have := ih (put1 right n)
    have := put1_len right n
    simp only [moveL, List.foldl_cons, List.length_cons] at *
    omega
theorem moveL_step {right : List Bool} {needs : List Need} {k : Nat} (h : k < needs.length) : moveL right (needs.take (k + 1)) = put1 (moveL right (needs.take k)) (needs.getD k dN) := by
  rw [take_snoc dN h]
  simp only [moveL, List.foldl_append, List.foldl_cons, List.foldl_nil]
theorem moveL_off {right : List Bool} {needs : List Need} {k : Nat} (h : k < needs.length) (hp : ((decide ((needs.getD k dN).point < 0)) || (decide ((needs.getD k dN).point ≥ 8))) = true) : moveL right (needs.take k) = moveL right (needs.take (k + 1)) := by
  rw [moveL_step h, put1, if_pos (by simpa using hp)]
theorem moveL_on {right : List Bool} {needs : List Need} {k j : Nat} (h : k < needs.length) (h0 : 0 ≤ (needs.getD k dN).point) (h8 : (needs.getD k dN).point < 8) (hj : j = (needs.getD k dN).point.toNat + 1 - (moveL right (needs.take k)).length) :
    moveL right (needs.take (k + 1)) = (moveL right (needs.take k) ++ List.replicate j false).set (needs.getD k dN).point.toNat (needs.getD k dN).right := by
  rw [moveL_step h, put1, if_neg (by omega), hj]

def refN (n : Nat) (needs : List Need) : Nat := needs.foldl (fun (n : Nat) d => if d.point ≥ (n : Int) ∧ d.point < 8 then d.point.toNat + 1 else n) n
def refAt (right : List Bool) (needs : List Need) (i : Nat) : Bool := needs.foldl (fun b d => if d.point = (i : Int) ∧ (i : Int) < 8 then d.right else b) (hasB right (i : Int))
def refRow (right : List Bool) (needs : List Need) (N i : Nat) : List Bool := (List.range N).map fun j => if j < i then refAt right needs j else false
theorem refN_step (n : Nat) {needs : List Need} {k : Nat} (h : k < needs.length) : refN n (needs.take (k + 1)) = if (needs.getD k dN).point ≥ (refN n (needs.take k) : Int) ∧ (needs.getD k dN).point < 8 then (needs.getD k dN).point.toNat + 1 else refN n (needs.take k) := by
  unfold refN
  rw [take_snoc dN h, List.foldl_append]
  rfl
theorem refN_on {n : Nat} {needs : List Need} {k : Nat} (h : k < needs.length) (hc : (decide ((needs.getD k dN).point ≥ (refN n (needs.take k) : Int)) && decide ((needs.getD k dN).point < 8)) = true) : (needs.getD k dN).point + 1 = ((refN n (needs.take (k + 1)) : Nat) : Int) := by
  simp only [Bool.and_eq_true, decide_eq_true_eq] at hc
  rw [refN_step n h, if_pos hc]
  omega
theorem refN_off {n : Nat} {needs : List Need} {k : Nat} (h : k < needs.length) (hc : (decide ((needs.getD k dN).point ≥ (refN n (needs.take k) : Int)) && decide ((needs.getD k dN).point < 8)) = false) : ((refN n (needs.take k) : Nat) : Int) = ((refN n (needs.take (k + 1)) : Nat) : Int) := by
  simp only [Bool.and_eq_false_iff, decide_eq_false_iff_not] at hc
  rw [refN_step n h, if_neg (by omega)]
theorem refN_le (n : Nat) (needs : List Need) : refN n needs ≤ n + 8 := by
  have key : ∀ (l : List Need) (m : Nat), m ≤ n + 8 → refN m l ≤ n + 8 := by
    intro l
    induction l with
    | nil => intro m h; exact h
    | cons d l ih =>
      intro m h
      simp only [refN, List.foldl_cons]
      refine ih _ ?_
      split <;> omega
  exact key needs n (by omega)
theorem refAt_step (right : List Bool) {needs : List Need} (i : Nat) {k : Nat} (h : k < needs.length) : refAt right (needs.take (k + 1)) i = if (needs.getD k dN).point = (i : Int) ∧ (i : Int) < 8 then (needs.getD k dN).right else refAt right (needs.take k) i := by
  rw [take_snoc dN h]
  simp only [refAt, List.foldl_append, List.foldl_cons, List.foldl_nil]
theorem refAt_on {right : List Bool} {needs : List Need} {i k : Nat} (h : k < needs.length) (hc : (((needs.getD k dN).point == (i : Int)) && decide ((i : Int) < 8)) = true) : refAt right (needs.take (k + 1)) i = (needs.getD k dN).right := by
  simp only [Bool.and_eq_true, decide_eq_true_eq, beq_iff_eq] at hc
  rw [refAt_step right i h, if_pos hc]
theorem refAt_off {right : List Bool} {needs : List Need} {i k : Nat} (h : k < needs.length) (hc : (((needs.getD k dN).point == (i : Int)) && decide ((i : Int) < 8)) = false) : refAt right (needs.take (k + 1)) i = refAt right (needs.take k) i := by
  simp only [Bool.and_eq_false_iff, decide_eq_false_iff_not, beq_eq_false_iff_ne] at hc
  rw [refAt_step right i h, if_neg (by omega)]
@[simp] theorem refRow_length (right : List Bool) (needs : List Need) (N i : Nat) : (refRow right needs N i).length = N := by simp [refRow]
theorem refRow_zero (right : List Bool) (needs : List Need) (N : Nat) : refRow right needs N 0 = List.replicate N false := by
  refine List.ext_getElem (by simp) (fun j h1 h2 => ?_)
  simp [refRow]
theorem refRow_step (right : List Bool) (needs : List Need) {N i : Nat} (_h : i < N) : refRow right needs N (i + 1) = (refRow right needs N i).set i (refAt right needs i) := by
  refine List.ext_getElem (by simp) (fun j h1 h2 => ?_)
  rw [List.getElem_set]
  simp only [refRow, List.getElem_map, List.getElem_range]
  split
  · split
    · rename_i e
      rw [e]
    · rw [if_pos (by omega)]
  · rw [if_neg (by omega), if_neg (by omega)]
theorem hasB_nat (right : List Bool) (i : Nat) : hasB right (i : Int) = right.getD i false := by
  unfold hasB
  by_cases h : i < right.length
  · simp [h]
  · simp [h]
theorem put1_get {M : List Bool} {d : Need} (i : Nat) : (put1 M d).getD i false = if d.point = (i : Int) ∧ (i : Int) < 8 then d.right else M.getD i false := by
  unfold put1
  by_cases hp : d.point < 0 ∨ d.point ≥ 8
  · rw [if_pos hp, if_neg (by omega)]
  · rw [if_neg hp]
    simp only [List.getD_eq_getElem?_getD, List.getElem?_set, List.length_append, List.length_replicate]
    by_cases hi : d.point = (i : Int)
    · rw [if_pos (by omega), if_pos (by omega), if_pos (by omega)]
      rfl
    · rw [if_neg (by omega), if_neg (by omega), List.getElem?_append]
      split
      · rfl
      · rw [List.getElem?_replicate]
        split
        · rw [List.getElem?_eq_none (by omega)]; rfl
        · rw [List.getElem?_eq_none (by omega)]
theorem put1_length (M : List Bool) (d : Need) : (put1 M d).length = if d.point ≥ (M.length : Int) ∧ d.point < 8 then d.point.toNat + 1 else M.length := by
  unfold put1
  by_cases hp : d.point < 0 ∨ d.point ≥ 8
  · rw [if_pos hp, if_neg (by omega)]
  · rw [if_neg hp, List.length_set, List.length_append, List.length_replicate]
    split <;> omega
theorem moveL_ref (needs : List Need) : ∀ (right : List Bool) (N : Nat), right.length = N → (moveL right needs).length = refN N needs ∧ ∀ (i : Nat) (b : Bool), right.getD i false = b → (moveL right needs).getD i false = needs.foldl (fun b d => if d.point = (i : Int) ∧ (i : Int) < 8 then d.right else b) b := by
  induction needs with
  | nil => intro right N h; exact ⟨h, fun i b hb => hb⟩
  | cons d l ih =>
    intro right N h
    have h1 := put1_length right d
    rw [h] at h1
    obtain ⟨h2, h3⟩ := ih (put1 right d) _ h1
    refine ⟨h2, fun i b hb => ?_⟩
    exact h3 i _ (by rw [put1_get, hb])
theorem refRow_all {right : List Bool} {needs : List Need} {N i : Nat} (hN : N = refN right.length needs) (hi : N ≤ i) : refRow right needs N i = moveL right needs := by
  obtain ⟨h1, h2⟩ := moveL_ref needs right right.length rfl
  refine List.ext_getElem (by rw [refRow_length, h1, hN]) (fun j hj hj2 => ?_)
  have := h2 j _ rfl
  rw [List.getD_eq_getElem?_getD, List.getElem?_eq_getElem hj2, Option.getD_some] at this
  rw [this]
  rw [refRow_length] at hj
  simp only [refRow, List.getElem_map, List.getElem_range]
  rw [if_pos (by omega)]
  simp only [refAt, hasB_nat]
theorem moveL_snoc (right : List Bool) (l : List Need) (d : Need) : moveL right (l ++ [d]) = put1 (moveL right l) d := by simp [moveL]
theorem put1_twice (M : List Bool) (k : Int) (a b : Bool) : put1 (put1 M ⟨k, a⟩) ⟨k, b⟩ = put1 M ⟨k, b⟩ := by
  refine List.ext_getElem ?_ (fun i h1 h2 => ?_)
  · simp only [put1_length]
    split <;> (try split) <;> omega
  · have e1 := put1_get (M := put1 M ⟨k, a⟩) (d := ⟨k, b⟩) i
    have e2 := put1_get (M := M) (d := ⟨k, b⟩) i
    have e3 := put1_get (M := M) (d := ⟨k, a⟩) i
    rw [List.getD_eq_getElem?_getD, List.getElem?_eq_getElem h1, Option.getD_some] at e1
    rw [List.getD_eq_getElem?_getD, List.getElem?_eq_getElem h2, Option.getD_some] at e2
    rw [e1, e2, e3]
    simp only
    split <;> rfl
theorem moveL_twice (right : List Bool) (l : List Need) (k : Int) (a b : Bool) : moveL right (l ++ [⟨k, a⟩, ⟨k, b⟩]) = moveL right (l ++ [⟨k, b⟩]) := by
  rw [show l ++ [(⟨k, a⟩ : Need), ⟨k, b⟩] = (l ++ [⟨k, a⟩]) ++ [⟨k, b⟩] by simp, moveL_snoc, moveL_snoc, moveL_snoc, put1_twice]
theorem moveL_last (right : List Bool) (l : List Need) (k : Nat) (b : Bool) (hk : k < 8) : k < (moveL right (l ++ [⟨(k : Int), b⟩])).length ∧ (moveL right (l ++ [⟨(k : Int), b⟩])).getD k false = b := by
  rw [moveL_snoc]
  refine ⟨?_, ?_⟩
  · rw [put1_length]
    simp only
    split <;> omega
  · rw [put1_get, if_pos (by simp; omega)]
theorem twice_law (l : List Need) (right : List Bool) (p : Int) (a b : Bool) : ((decide (moveL right (l ++ [⟨p % 8, a⟩, ⟨p % 8, b⟩]) = moveL right (l ++ [⟨p % 8, b⟩])) && decide (((moveL right (l ++ [⟨p % 8, a⟩, ⟨p % 8, b⟩])).length : Int) > p % 8)) && ((moveL right (l ++ [⟨p % 8, a⟩, ⟨p % 8, b⟩])).getD (p % 8).toNat false == b)) = true := by
  obtain ⟨h1, h2⟩ := moveL_last right l (p % 8).toNat b (by omega)
  rw [show (((p % 8).toNat : Nat) : Int) = p % 8 by omega] at h1 h2
  rw [moveL_twice, h2]
  simp only [decide_true, Bool.true_and, BEq.rfl, Bool.and_true, decide_eq_true_eq]
  omega

/-! what a test finds first; what is left of a list -/
def idxFrom {α : Type} (f : α → Bool) : Nat → List α → Int
  | _, [] => -1
  | i, a :: l => if f a = true then (i : Int) else idxFrom f (i + 1) l
def idxB {α : Type} (f : α → Bool) (l : List α) : Int := idxFrom f 0 l
theorem idxFrom_stop {α : Type} {f : α → Bool} (d : α) : ∀ (l : List α) (i k : Nat), k < l.length → (l.take k).any f = false → f (l.getD k d) = true → idxFrom f i l = ((i + k : Nat) : Int) := by
  intro l
  induction l with
  | nil => intro i k h; simp at h
  | cons a l ih =>
    intro i k h h1 h2
    cases k with
    | zero =>
      simp only [List.getD_cons_zero] at h2
      simp [idxFrom, h2]
    | succ k =>
      simp only [List.take_succ_cons, List.any_cons, Bool.or_eq_false_iff] at h1
      simp only [List.getD_cons_succ] at h2
      rw [idxFrom, if_neg (by rw [h1.1]; simp), ih (i + 1) k (by simpa using h) h1.2 h2]
      omega
theorem idxB_stop {α : Type} {f : α → Bool} (d : α) {l : List α} {k : Nat} (h : k < l.length) (h1 : (l.take k).any f = false) (h2 : f (l.getD k d) = true) : idxB f l = (k : Int) := by
  have := idxFrom_stop d l 0 k h h1 h2
  rw [Nat.zero_add] at this
  exact this
theorem idxFrom_end {α : Type} {f : α → Bool} : ∀ (l : List α) (i : Nat), l.any f = false → idxFrom f i l = -1 := by
  intro l
  induction l with
  | nil => intro i _; rfl
  | cons a l ih =>
    intro i h
    simp only [List.any_cons, Bool.or_eq_false_iff] at h
    rw [idxFrom, if_neg (by rw [h.1]; simp), ih _ h.2]
theorem idxB_end {α : Type} {f : α → Bool} {l : List α} {k : Nat} (hk : l.length ≤ k) (h : (l.take k).any f = false) : idxB f l = -1 := by
  rw [List.take_of_length_le hk] at h
  exact idxFrom_end l 0 h
theorem any_step {α : Type} {f : α → Bool} (d : α) {l : List α} {k : Nat} (hk : k < l.length) (inv : (l.take k).any f = false) (h : f (l.getD k d) = false) : (l.take (k + 1)).any f = false := by
  rw [take_snoc d hk, List.any_append, inv]
  simpa using h
theorem any_first {α : Type} {f : α → Bool} (d : α) (l : List α) (h : l.any f = true) : ∃ k, k < l.length ∧ (l.take k).any f = false ∧ f (l.getD k d) = true := by
  induction l with
  | nil => simp at h
  | cons a l ih =>
    cases ha : f a with
    | true => exact ⟨0, by simp, by simp, by simpa using ha⟩
    | false =>
      rw [List.any_cons, ha, Bool.false_or] at h
      obtain ⟨k, h1, h2, h3⟩ := ih h
      exact ⟨k + 1, by simpa using h1, by simp [ha, h2], by simpa using h3⟩
theorem idxB_found {α : Type} {f : α → Bool} (d : α) {l : List α} (h : ¬ idxB f l = -1) : ∃ k : Nat, idxB f l = (k : Int) ∧ k < l.length ∧ (l.take k).any f = false ∧ f (l.getD k d) = true := by
  cases ha : l.any f with
  | false => exact absurd (idxFrom_end l 0 ha) h
  | true =>
    obtain ⟨k, h1, h2, h3⟩ := any_first d l ha
    exact ⟨k, idxB_stop d h1 h2 h3, h1, h2, h3⟩
theorem idxB_any {α : Type} {f : α → Bool} (d : α) (l : List α) : decide (idxB f l ≥ 0) = l.any f := by
  cases ha : l.any f with
  | false => rw [show idxB f l = -1 from idxFrom_end l 0 ha]; rfl
  | true =>
    obtain ⟨k, h1, h2, h3⟩ := any_first d l ha
    rw [idxB_stop d h1 h2 h3]
    simp
def wrB (right : List Bool) (n : Need) : Bool := hasB right n.point != n.right
def delB (right : List Bool) (n : Need) : Bool := !(hasB right n.point != n.right)
def movesL (needs : List Need) (right : List Bool) : List Need := needs.filter (wrB right)
theorem movesL_step {needs : List Need} {right : List Bool} {k : Nat} (h : k < needs.length) : movesL (needs.take (k + 1)) right = movesL (needs.take k) right ++ (if wrB right (needs.getD k dN) = true then [needs.getD k dN] else []) := by
  rw [take_snoc dN h]
  simp only [movesL, List.filter_append, List.filter_cons, List.filter_nil]
theorem movesL_on {needs : List Need} {right : List Bool} {k : Nat} (h : k < needs.length) (hc : wrB right (needs.getD k dN) = true) : movesL (needs.take k) right ++ [needs.getD k dN] = movesL (needs.take (k + 1)) right := by rw [movesL_step h, if_pos hc]
theorem movesL_off {needs : List Need} {right : List Bool} {k : Nat} (h : k < needs.length) (hc : wrB right (needs.getD k dN) = false) : movesL (needs.take k) right = movesL (needs.take (k + 1)) right := by rw [movesL_step h, if_neg (by rw [hc]; simp), List.append_nil]
theorem movesL_len (needs : List Need) (right : List Bool) : (movesL needs right).length ≤ needs.length := List.length_filter_le _ _
def stepD (right : List Bool) (s : List Need × Nat) (n : Need) : List Need × Nat := if delB right n = true then s else (s.1.set s.2 n, s.2 + 1)
def delS (right : List Bool) (l : List Need) (j : Nat) : List Need × Nat := (l.take j).foldl (stepD right) (l, 0)
theorem delS_step (right : List Bool) {l : List Need} {j : Nat} (h : j < l.length) : delS right l (j + 1) = stepD right (delS right l j) (l.getD j dN) := by
  unfold delS
  rw [take_snoc dN h, List.foldl_append]
  rfl
theorem take_set_same {α : Type} (l : List α) (n : Nat) (x : α) : (l.set n x).take n = l.take n := by
  refine List.ext_getElem? (fun i => ?_)
  rw [List.getElem?_take, List.getElem?_take]
  split
  · rw [List.getElem?_set_ne (by omega)]
  · rfl
theorem delS_inv (right : List Bool) (l : List Need) : ∀ (j : Nat), j ≤ l.length → (delS right l j).1.length = l.length ∧ (delS right l j).2 ≤ j ∧ (∀ i, j ≤ i → (delS right l j).1[i]? = l[i]?) ∧ (delS right l j).1.take (delS right l j).2 = movesL (l.take j) right ∧ (delS right l j).2 = (movesL (l.take j) right).length := by
  intro j
  induction j with
  | zero => intro _; exact ⟨by simp [delS], by simp [delS], fun i _ => by simp [delS], by simp [delS, movesL], by simp [delS, movesL]⟩
  | succ j ih =>
    intro hj
    obtain ⟨h1, h2, h3, h4, h5⟩ := ih (by omega)
    rw [delS_step right (by omega)]
    unfold stepD
    by_cases hd : delB right (l.getD j dN) = true
    · have hw : wrB right (l.getD j dN) = false := by simpa [delB, wrB] using hd
      rw [if_pos hd]
      exact ⟨h1, by omega, fun i hi => h3 i (by omega), by rw [h4, movesL_off (by omega) hw], by rw [h5, movesL_off (by omega) hw]⟩
    · have hw : wrB right (l.getD j dN) = true := by simpa [delB, wrB] using hd
      rw [if_neg hd]
      refine ⟨by simp [h1], by simp; omega, fun i hi => ?_, ?_, ?_⟩
      · simp only
        rw [List.getElem?_set_ne (by omega)]
        exact h3 i (by omega)
      · rw [← movesL_on (by omega) hw, ← h4]
        simp only
        rw [take_snoc dN (by simp; omega)]
        rw [take_set_same]
        simp [show (delS right l j).2 < (delS right l j).1.length by omega]
      · rw [← movesL_on (by omega) hw]
        simp [h5]
theorem delS_at (right : List Bool) {l : List Need} {j : Nat} (h : j < l.length) : (delS right l j).1.getD j dN = l.getD j dN := by
  have := (delS_inv right l j (by omega)).2.2.1 j (Nat.le_refl _)
  simp only [List.getD_eq_getElem?_getD, this]
theorem delS_keep (right : List Bool) {l : List Need} {j : Nat} (h : j < l.length) (hc : delB right ((delS right l j).1.getD j dN) = false) : delS right l (j + 1) = ((delS right l j).1.set (delS right l j).2 ((delS right l j).1.getD j dN), (delS right l j).2 + 1) := by
  rw [delS_step right h, delS_at right h] at *
  unfold stepD
  rw [if_neg (by rw [hc]; simp)]
theorem delS_drop (right : List Bool) {l : List Need} {j : Nat} (h : j < l.length) (hc : delB right ((delS right l j).1.getD j dN) = true) : delS right l (j + 1) = delS right l j := by
  rw [delS_at right h] at hc
  rw [delS_step right h]
  unfold stepD
  rw [if_pos hc]
theorem delS_start (right : List Bool) {l : List Need} : ∀ (i : Nat), i < l.length → (l.take i).any (delB right) = false → delS right l i = (l, i) := by
  intro i
  induction i with
  | zero => intro _ _; simp [delS]
  | succ i ih =>
    intro hi h
    rw [take_snoc dN (by omega), List.any_append, Bool.or_eq_false_iff] at h
    rw [delS_step right (by omega), ih (by omega) h.1]
    unfold stepD
    rw [if_neg (by simpa using h.2)]
    simp only [Prod.mk.injEq, and_true]
    refine List.ext_getElem? (fun k => ?_)
    rw [List.getElem?_set]
    split
    · rename_i e
      subst e
      simp [show i < l.length by omega]
    · rfl
theorem delS_first (right : List Bool) {l : List Need} {i : Nat} (hi : i < l.length) (h : (l.take i).any (delB right) = false) (hd : delB right (l.getD i dN) = true) : delS right l (i + 1) = (l, i) := by
  rw [delS_step right hi, delS_start right i hi h]
  unfold stepD
  rw [if_pos hd]
theorem delS_lt (right : List Bool) {l : List Need} {i : Nat} (hi : i < l.length) (h : (l.take i).any (delB right) = false) (hd : delB right (l.getD i dN) = true) : ∀ k, i + 1 + k ≤ l.length → (delS right l (i + 1 + k)).2 < i + 1 + k := by
  intro k
  induction k with
  | zero => intro _; rw [Nat.add_zero, delS_first right hi h hd]; simp
  | succ k ih =>
    intro hk
    have := ih (by omega)
    rw [show i + 1 + (k + 1) = (i + 1 + k) + 1 by omega, delS_step right (by omega)]
    unfold stepD
    split
    · omega
    · simp; omega
theorem zeros_N (n : Nat) : (Builtin.zeroCells #[.int .i64 0, .bool false] n).toList.map AV.v = enc eN (List.replicate n dN) := by
  induction n with
  | zero => simp [Builtin.zeroCells, enc]
  | succ n ih =>
    have e : (Builtin.zeroCells #[.int .i64 0, .bool false] (n + 1)).toList = (Builtin.zeroCells #[.int .i64 0, .bool false] n).toList ++ [.int .i64 0, .bool false] := by
      simp only [Builtin.zeroCells, Array.toList_map, Array.toList_range]
      show List.map _ (List.range ((n + 1) * 2)) = List.map _ (List.range (n * 2)) ++ _
      rw [show (n + 1) * 2 = n * 2 + 1 + 1 by omega, List.range_succ, List.range_succ, List.map_append, List.map_append, List.append_assoc]
      congr 1
      simp [Nat.add_mod]
    rw [e, List.map_append, ih, List.replicate_succ', enc_snoc]
    rfl
theorem clear_row {l : List Need} {i n : Nat} (h : i + n = l.length) : spl (enc eN l) (0 + i * 2) ((Builtin.zeroCells #[.int .i64 0, .bool false] n).toList.map AV.v) = enc eN (l.take i ++ List.replicate n dN) := by
  have hl : (enc eN (List.replicate n dN)).length = n * 2 := by rw [enc_length (f := eN) (s := 2) (fun _ => rfl)]; simp
  rw [zeros_N]
  unfold spl
  rw [hl, Nat.zero_add, enc_take (f := eN) (s := 2) (fun _ => rfl), enc_append, List.drop_of_length_le (by rw [enc_length (f := eN) (s := 2) (fun _ => rfl)]; omega), List.append_nil]
theorem movesL_none {l : List Need} {right : List Bool} (h : l.any (delB right) = false) : movesL l right = l := by
  unfold movesL
  rw [List.filter_eq_self]
  intro a ha
  have := List.any_eq_false.1 h a ha
  simpa [delB, wrB] using this
theorem getD_pre (a b : List Need) (k : Nat) : k < a.length → (a ++ b).getD k dN = a.getD k dN := fun h => by
  simp only [List.getD_eq_getElem?_getD, List.getElem?_append_left h]
theorem movesL_zero (l : List Need) (right : List Bool) : (((movesL l right).length : Int) == 0) = !(l.any (wrB right)) := by
  cases ha : l.any (wrB right) with
  | false =>
    have : movesL l right = [] := by
      unfold movesL
      rw [List.filter_eq_nil_iff]
      intro a h
      simpa using List.any_eq_false.1 ha a h
    rw [this]; rfl
  | true =>
    obtain ⟨x, h1, h2⟩ := List.any_eq_true.1 ha
    have : x ∈ movesL l right := List.mem_filter.2 ⟨h1, h2⟩
    have := List.length_pos_of_mem this
    simp only [Bool.not_true, beq_eq_false_iff_ne]
    omega

/-! each point once -/
def absP (p : Int) : Int := if p.tmod 8 < 0 then -(p.tmod 8) else p.tmod 8
def knownP (m : List Need) (p : Int) : Bool := m.any fun n => n.point == p
def once1 (m : List Need) (n : Need) : List Need := if knownP m (absP n.point) = true then m else m ++ [⟨absP n.point, n.right⟩]
def onceL (l : List Need) : List Need := l.foldl once1 []
theorem onceL_step {l : List Need} {k : Nat} (h : k < l.length) : onceL (l.take (k + 1)) = once1 (onceL (l.take k)) (l.getD k dN) := by
  unfold onceL
  rw [take_snoc dN h, List.foldl_append]
  rfl
theorem onceL_on {l : List Need} {k : Nat} (h : k < l.length) (hc : knownP (onceL (l.take k)) (absP (l.getD k dN).point) = false) : onceL (l.take k) ++ [⟨absP (l.getD k dN).point, (l.getD k dN).right⟩] = onceL (l.take (k + 1)) := by
  rw [onceL_step h, once1, if_neg (by rw [hc]; simp)]
theorem onceL_off {l : List Need} {k : Nat} (h : k < l.length) (hc : knownP (onceL (l.take k)) (absP (l.getD k dN).point) = true) : onceL (l.take k) = onceL (l.take (k + 1)) := by
  rw [onceL_step h, once1, if_pos hc]
theorem once1_len (m : List Need) (n : Need) : (once1 m n).length ≤ m.length + 1 := by
  unfold once1
  split <;> simp
theorem onceL_len (l : List Need) : (onceL l).length ≤ l.length := by
  have key : ∀ (l m : List Need), (l.foldl once1 m).length ≤ m.length + l.length := by
    intro l
    induction l with
    | nil => intro m; simp
    | cons a l ih =>
      intro m
      have h1 := ih (once1 m a)
      have h2 := once1_len m a
      simp only [List.foldl_cons, List.length_cons]
      omega
  have := key l []
  simpa [onceL] using this
theorem absP_in (p : Int) : 0 ≤ absP p ∧ absP p < 8 := by
  unfold absP
  have h1 := Int.tmod_lt_of_pos p (show (0 : Int) < 8 by decide)
  have h2 := Int.lt_tmod_of_pos p (show (0 : Int) < 8 by decide)
  split <;> omega
def Once (m : List Need) : Prop := (m.map (·.point)).Nodup ∧ ∀ n, n ∈ m → 0 ≤ n.point ∧ n.point < 8
theorem once1_once {m : List Need} (h : Once m) (n : Need) : Once (once1 m n) := by
  unfold once1
  split
  · exact h
  · rename_i hk
    refine ⟨?_, fun x hx => ?_⟩
    · rw [List.map_append, List.nodup_append]
      refine ⟨h.1, by simp, fun a ha b hb => ?_⟩
      simp only [List.map_cons, List.map_nil, List.mem_singleton] at hb
      subst hb
      intro e
      subst e
      obtain ⟨y, hy, he⟩ := List.mem_map.1 ha
      exact hk (List.any_eq_true.2 ⟨y, hy, by simpa using he⟩)
    · rcases List.mem_append.1 hx with hx | hx
      · exact h.2 x hx
      · simp only [List.mem_singleton] at hx
        subst hx
        exact absP_in _
theorem onceL_once (l : List Need) : Once (onceL l) := by
  have key : ∀ (l m : List Need), Once m → Once (l.foldl once1 m) := by
    intro l
    induction l with
    | nil => intro m h; exact h
    | cons a l ih => intro m h; exact ih _ (once1_once h a)
  exact key l [] ⟨by simp, fun n h => by simp at h⟩
theorem fold_skip (i : Nat) : ∀ (m : List Need) (b : Bool), (∀ n, n ∈ m → n.point ≠ (i : Int)) → m.foldl (fun b d => if d.point = (i : Int) ∧ (i : Int) < 8 then d.right else b) b = b := by
  intro m
  induction m with
  | nil => intro b _; rfl
  | cons d m ih =>
    intro b h
    rw [List.foldl_cons, if_neg (fun e => h d (by simp) e.1)]
    exact ih b (fun n hn => h n (List.mem_cons_of_mem _ hn))
theorem fold_hit (i : Nat) (hi : (i : Int) < 8) : ∀ (m : List Need) (b : Bool), (m.map (·.point)).Nodup → ∀ n, n ∈ m → n.point = (i : Int) → m.foldl (fun b d => if d.point = (i : Int) ∧ (i : Int) < 8 then d.right else b) b = n.right := by
  intro m
  induction m with
  | nil => intro b _ n h; simp at h
  | cons d m ih =>
    intro b h n hn he
    simp only [List.map_cons, List.nodup_cons] at h
    rw [List.foldl_cons]
    rcases List.mem_cons.1 hn with rfl | hn
    · rw [if_pos ⟨he, hi⟩, fold_skip i m _ (fun x hx e => h.1 (List.mem_map.2 ⟨x, hx, by rw [e, he]⟩))]
    · exact ih _ h.2 n hn he
theorem moveL_hit {right : List Bool} {m : List Need} (h : Once m) {n : Need} (hn : n ∈ m) : (moveL right m).getD n.point.toNat false = n.right := by
  obtain ⟨h0, h8⟩ := h.2 n hn
  have := (moveL_ref m right right.length rfl).2 n.point.toNat _ rfl
  rw [this]
  exact fold_hit _ (by omega) m _ h.1 n hn (by omega)
theorem put1_ge (M : List Bool) (d : Need) : M.length ≤ (put1 M d).length := by
  rw [put1_length]
  split <;> omega
theorem moveL_ge (m : List Need) : ∀ (right : List Bool), right.length ≤ (moveL right m).length ∧ ∀ n, n ∈ m → 0 ≤ n.point → n.point < 8 → n.point < ((moveL right m).length : Int) := by
  induction m with
  | nil => intro right; exact ⟨Nat.le_refl _, fun n h => by simp at h⟩
  | cons d m ih =>
    intro right
    obtain ⟨h1, h2⟩ := ih (put1 right d)
    have h3 := put1_ge right d
    refine ⟨Nat.le_trans h3 h1, fun n hn h0 h8 => ?_⟩
    rcases List.mem_cons.1 hn with rfl | hn
    · have h4 := put1_length right n
      have h5 : n.point < ((put1 right n).length : Int) := by rw [h4]; split <;> omega
      show n.point < ((moveL (put1 right n) m).length : Int)
      omega
    · exact h2 n hn h0 h8
theorem stands_hit {right : List Bool} {m : List Need} (h : Once m) {n : Need} (hn : n ∈ m) : wrB (moveL right m) n = false := by
  obtain ⟨h0, h8⟩ := h.2 n hn
  have h1 := moveL_hit (right := right) h hn
  have h2 := hasB_nat (moveL right m) n.point.toNat
  rw [show ((n.point.toNat : Nat) : Int) = n.point by omega] at h2
  unfold wrB
  rw [h2, h1]
  simp
theorem moveL_still {right : List Bool} {m : List Need} (h : Once m) : moveL (moveL right m) m = moveL right m := by
  have key : ∀ (l : List Need) (is : List Bool), (∀ n, n ∈ l → put1 is n = is) → l.foldl put1 is = is := by
    intro l
    induction l with
    | nil => intro is _; rfl
    | cons a l ih =>
      intro is hp
      rw [List.foldl_cons, hp a (by simp)]
      exact ih is (fun n hn => hp n (List.mem_cons_of_mem _ hn))
  refine key m _ (fun n hn => ?_)
  obtain ⟨h0, h8⟩ := h.2 n hn
  have h1 := moveL_hit (right := right) h hn
  have h2 := (moveL_ge m right).2 n hn h0 h8
  unfold put1
  rw [if_neg (by omega), show n.point.toNat + 1 - (moveL right m).length = 0 by omega]
  simp only [List.replicate_zero, List.append_nil]
  refine List.ext_getElem? (fun k => ?_)
  rw [List.getElem?_set]
  split
  · rename_i e
    subst e
    rw [if_pos (by omega)]
    rw [List.getD_eq_getElem?_getD, List.getElem?_eq_getElem (by omega)] at h1
    rw [List.getElem?_eq_getElem (by omega), ← h1]
    rfl
  · rfl
theorem once_stands {right : List Bool} {m : List Need} (h : Once m) : m.any (wrB (moveL right m)) = false ∧ (movesL m (moveL right m)).length = 0 := by
  refine ⟨List.any_eq_false.2 fun n hn => by rw [stands_hit h hn]; simp, ?_⟩
  have : movesL m (moveL right m) = [] := by
    unfold movesL
    rw [List.filter_eq_nil_iff]
    intro n hn
    rw [stands_hit h hn]
    simp
  rw [this]
  rfl
theorem absP_neg {p : Int} (h : decide (p.tmod 8 < 0) = true) : IntKind.i64.wrap (0 - p.tmod 8) = absP p := by
  have h1 := of_decide_eq_true h
  have h2 := Int.lt_tmod_of_pos p (show (0 : Int) < 8 by decide)
  rw [IntWalk.i64_in _ (by omega), absP, if_pos h1]
  omega
theorem absP_pos {p : Int} (h : decide (p.tmod 8 < 0) = false) : p.tmod 8 = absP p := by rw [absP, if_neg (of_decide_eq_false h)]
theorem knownP_step {m : List Need} {p : Int} {k : Nat} (h : k < m.length) : (knownP (m.take k) p || ((m.getD k dN).point == p)) = knownP (m.take (k + 1)) p := by
  unfold knownP
  rw [take_snoc dN h, List.any_append]
  simp
theorem ofL_false (m : List Need) : ofL false m = m := by
  unfold ofL
  exact (List.map_congr_left (fun n _ => rfl)).trans (List.map_id m)
end Go.Lo
