/- Part of the logic of values: what the law reaches. -/
import Derived.Test.YtnjncdidiijpgaaPFnPoqAu
set_option linter.unusedVariables false
set_option linter.unusedSimpArgs false
namespace Go.Lo
structure LkR (routes : List (List Int)) (x : Lk) : Prop where
 r : 0 ≤ x.route ∧ x.route < (routes.length : Int)
 ps : x.pieces.length + 1 ≤ (routes.getD x.route.toNat []).length
 ln : (routes.getD x.route.toNat []).length ≤ 65536
def findL (ls : List Lk) (r : Int) : Int := idxB (fun x => decide (x.route = r)) ls
def pcB (path ps : List Int) (s : Int) (j : Nat) : Bool := decide (path.getD (j + 1) 0 = s) && decide (¬ ps.getD j 0 = 0)
def hasPK (path ps : List Int) (s : Int) (k : Nat) : Bool := (List.range k).any (pcB path ps s)
def hasP (routes : List (List Int)) (s : Int) (x : Lk) : Bool := hasPK (routes.getD x.route.toNat []) x.pieces s x.pieces.length
def whoseL (routes : List (List Int)) (ls : List Lk) (s : Int) : Int := if idxB (hasP routes s) ls < 0 then -1 else (ls.getD (idxB (hasP routes s) ls).toNat dLk).route
section
variable {path ps : List Int} {s : Int} {k : Nat} {routes : List (List Int)} {ls : List Lk}
theorem hasPK_step (h : hasPK path ps s k = false) (h2 : pcB path ps s k = false) : hasPK path ps s (k + 1) = false := by
 unfold hasPK at *
 rw [List.range_succ, List.any_append, h]
 simp [h2]
theorem hasPK_on {n : Nat} (hk : k < n) (h2 : pcB path ps s k = true) : hasPK path ps s n = true := List.any_eq_true.2 ⟨k, List.mem_range.2 hk, h2⟩
theorem whose_at {i : Nat} (hi : i < ls.length) (h : (ls.take i).any (hasP routes s) = false) (h2 : hasP routes s (ls.getD i dLk) = true) : whoseL routes ls s = (ls.getD i dLk).route := by
 have e := idxB_stop dLk hi h h2
 unfold whoseL
 rw [e, if_neg (by omega)]; rfl
theorem whose_no {i : Nat} (hi : ls.length ≤ i) (h : (ls.take i).any (hasP routes s) = false) : whoseL routes ls s = -1 := by
 have e := idxB_end hi h
 unfold whoseL
 rw [e, if_pos (by omega)]
theorem pcB_f1 (h : (path.getD (k + 1) 0 == s) = false) : pcB path ps s k = false := by unfold pcB; rw [decide_eq_false ((beq_eq_false_iff_ne).1 h)]; rfl
theorem pcB_f2 (h : (ps.getD k 0 != 0) = false) : pcB path ps s k = false := by
 unfold pcB
 rw [decide_eq_false (p := ¬ ps.getD k 0 = 0) (fun h2 => h2 ((bne_eq_false_iff_eq).1 h)), Bool.and_false]
theorem pcB_t (h : (path.getD (k + 1) 0 == s) = true) (h2 : (ps.getD k 0 != 0) = true) : pcB path ps s k = true := by
 unfold pcB; rw [decide_eq_true ((beq_iff_eq).1 h), decide_eq_true ((bne_iff_ne).1 h2)]; rfl
end
end Go.Lo
