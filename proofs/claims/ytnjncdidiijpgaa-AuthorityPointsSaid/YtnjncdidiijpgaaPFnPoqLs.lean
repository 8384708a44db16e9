/- Part of the logic of values: what the law reaches. -/
import Derived.Test.YtnjncdidiijpgaaPFnPoqTo
set_option linter.unusedVariables false
set_option linter.unusedSimpArgs false
namespace Go.Lo
def lsA (l : List Int) : AV := if l = [] then .v (.slice none 0 0) else .ro l.length (enc eI l)
theorem ls_ne {l : List Int} (h : ¬ l = []) : lsA l = .ro l.length (enc eI l) := by unfold lsA; rw [if_neg h]
instance (l : List Int) : NoI (lsA l) := by
 unfold lsA
 split <;> infer_instance
section
variable {P : Program} {E : Env0} {st : St} {K : St → Prop}
theorem aop_lsNil {o : Oper} {op : BinOp} {t t' e : TypeId} {x y : Operand} {d : Nat} {l : List Int} {r : Bool} (ho : o.op = .binOp op t x y t') (hd : o.dst = some d) (hN : (okOp E.N x && okOp E.N y && Nat.blt d E.N) = true)
  (ht : P.underlying t = some (.slice e)) (hx : evA st.env x = lsA l) (hy : evA st.env y = .v (.slice none 0 0)) (hop : op = .eql ∧ r = decide (l = []) ∨ op = .neq ∧ r = !decide (l = []))
  (h : K ⟨upd st.env d (.v (.bool r)), st.ob⟩) : AOp P E o st K := by
 by_cases hl : l = []
 ·subst hl
  refine aop_bin ho hd hN hx hy (fun w => ?_) h
  rcases hop with ⟨rfl, rfl⟩ | ⟨rfl, rfl⟩
  ·simp only [eqGuard, binOp, equal_unfold, Sem.run_bind, equalIn_slNil ht, Result.andThen_ok]
   rfl
  ·simp only [eqGuard, binOp, equal_unfold, Sem.run_bind, equalIn_slNil ht, Result.andThen_ok]
   rfl
 ·refine aop_slNil ho hd hN ht (hx.trans (ls_ne hl)) hy (hop.elim (fun h => .inl h.1) (fun h => .inr h.1)) (fun b hb => ?_)
  have hn : l.length ≠ 0 := fun h0 => hl (List.eq_nil_of_length_eq_zero h0)
  rw [hb hn]
  rcases hop with ⟨rfl, rfl⟩ | ⟨rfl, rfl⟩
  ·rw [decide_eq_false hl] at h; exact h
  ·rw [decide_eq_false hl] at h; exact h
theorem len_ls {av : AV} {l : List Int} (h : av = lsA l) : ∀ w C u, R w C av u → ∃ A c, u = .slice A l.length c := by
 by_cases hl : l = []
 ·subst hl; exact len_nil (h.trans rfl)
 ·exact len_ro (h.trans (ls_ne hl))
end
def doO (f : Fld) (ls : List Lk) (id : Int) : Nat → List Int
 | 0 => []
 | k + 1 => if (ls.getD k dLk).train = id then doO f ls id k ++ pcO (pathOf f (ls.getD k dLk)) (ls.getD k dLk).pieces (ls.getD k dLk).pieces.length else doO f ls id k
def doL (f : Fld) (ls : List Lk) (id : Int) : Nat → List Int
 | 0 => []
 | k + 1 => if (ls.getD k dLk).train = id then pathOf f (ls.getD k dLk) else doL f ls id k
section
variable {f : Fld} {ls : List Lk} {id : Int} {k j : Nat} {R : List Int}
theorem doO_no (h : ¬ (ls.getD k dLk).train = id) : doO f ls id (k + 1) = doO f ls id k := by
 conv => lhs; unfold doO
 rw [if_neg h]
theorem doO_on (h : (ls.getD k dLk).train = id) : doO f ls id (k + 1) = doO f ls id k ++ pcO (pathOf f (ls.getD k dLk)) (ls.getD k dLk).pieces (ls.getD k dLk).pieces.length := by
 conv => lhs; unfold doO
 rw [if_pos h]
theorem doL_no (h : ¬ (ls.getD k dLk).train = id) : doL f ls id (k + 1) = doL f ls id k := by
 conv => lhs; unfold doL
 rw [if_neg h]
theorem doL_on (h : (ls.getD k dLk).train = id) : doL f ls id (k + 1) = pathOf f (ls.getD k dLk) := by
 conv => lhs; unfold doL
 rw [if_pos h]
theorem mine_no (hk : k < ls.length) (h : ¬ (ls.getD k dLk).train = id) : mineL (ls.drop k) id = mineL (ls.drop (k + 1)) id := by
 rw [drop_lk hk]
 unfold mineL restG
 rw [List.filter_cons_of_neg (by simp only [Bool.not_not, decide_eq_true_eq]; exact h)]
theorem mine_on (hk : k < ls.length) (h : (ls.getD k dLk).train = id) : mineL (ls.drop k) id = ls.getD k dLk :: mineL (ls.drop (k + 1)) id := by
 rw [drop_lk hk, mine_cons _ h]
theorem do_no (hk : k < ls.length) (h : ¬ (ls.getD k dLk).train = id) (hi : auR f (mineL (ls.drop k) id) (doO f ls id k) (doL f ls id k) = R) : auR f (mineL (ls.drop (k + 1)) id) (doO f ls id (k + 1)) (doL f ls id (k + 1)) = R := by
 rw [← mine_no hk h, doO_no h, doL_no h]; exact hi
theorem do_on (hk : k < ls.length) (h : (ls.getD k dLk).train = id) (hi : auR f (mineL (ls.drop k) id) (doO f ls id k) (doL f ls id k) = R) (hl : lkB f (ls.getD k dLk) (doL f ls id k) = true)
  (hp : pcF f (pathOf f (ls.getD k dLk)) (ls.getD k dLk).pieces = (pcO (pathOf f (ls.getD k dLk)) (ls.getD k dLk).pieces j, true)) (hj : j = (ls.getD k dLk).pieces.length) :
  auR f (mineL (ls.drop (k + 1)) id) (doO f ls id (k + 1)) (doL f ls id (k + 1)) = R := by
 subst hj
 rw [mine_on hk h] at hi
 unfold auR at hi
 rw [if_pos hl, hp, if_pos rfl] at hi
 rw [doO_on h, doL_on h]; exact hi
theorem do_stop (hk : k < ls.length) (h : (ls.getD k dLk).train = id) (hi : auR f (mineL (ls.drop k) id) (doO f ls id k) (doL f ls id k) = R) (hl : lkB f (ls.getD k dLk) (doL f ls id k) = false) : doO f ls id k = R := by
 rw [mine_on hk h] at hi
 unfold auR at hi
 rw [if_neg (by rw [hl]; exact Bool.false_ne_true)] at hi; exact hi
theorem do_part (hk : k < ls.length) (h : (ls.getD k dLk).train = id) (hi : auR f (mineL (ls.drop k) id) (doO f ls id k) (doL f ls id k) = R) (hl : lkB f (ls.getD k dLk) (doL f ls id k) = true)
  (hp : pcF f (pathOf f (ls.getD k dLk)) (ls.getD k dLk).pieces = (pcO (pathOf f (ls.getD k dLk)) (ls.getD k dLk).pieces j, false)) : doO f ls id k ++ pcO (pathOf f (ls.getD k dLk)) (ls.getD k dLk).pieces j = R := by
 rw [mine_on hk h] at hi
 unfold auR at hi
 rw [if_pos hl, hp, if_neg Bool.false_ne_true] at hi; exact hi
theorem do_end (hk : ls.length ≤ k) (hi : auR f (mineL (ls.drop k) id) (doO f ls id k) (doL f ls id k) = R) : doO f ls id k = R := by
 rw [List.drop_of_length_le hk] at hi; exact hi
theorem do_len (hm : ∀ x, x ∈ ls → x.pieces.length ≤ 65536) : ∀ k, (doO f ls id k).length ≤ k * 65536
 | 0 => Nat.le_refl _
 | k + 1 => by
  have h := do_len hm k
  have hs : (k + 1) * 65536 = k * 65536 + 65536 := Nat.succ_mul k 65536
  by_cases ht : (ls.getD k dLk).train = id
  ·rw [doO_on ht]
   have h2 := pcO_len (pathOf f (ls.getD k dLk)) (ls.getD k dLk).pieces (ls.getD k dLk).pieces.length
   have h3 : (ls.getD k dLk).pieces.length ≤ 65536 := by
    rcases Nat.lt_or_ge k ls.length with hk | hk
    ·exact hm _ (getD_mem dLk hk)
    ·rw [List.getD_eq_getElem?_getD, List.getElem?_eq_none hk]; exact Nat.zero_le _
   rw [List.length_append]; omega
  ·rw [doO_no ht, hs]; exact Nat.le_trans h (Nat.le_add_right _ _)
theorem doL_len (hm : ∀ x, x ∈ ls → (pathOf f x).length ≤ 65536) : ∀ k, k ≤ ls.length → (doL f ls id k).length ≤ 65536
 | 0, _ => Nat.zero_le _
 | k + 1, hk => by
  by_cases ht : (ls.getD k dLk).train = id
  ·rw [doL_on ht]; exact hm _ (getD_mem dLk (by omega))
  ·rw [doL_no ht]; exact doL_len hm k (by omega)
theorem findV_id {views : List View} (h : ¬ findI views id < 0) : (findV views id).id = id := by
 obtain ⟨j, h1, h2, _, h4⟩ := idxB_found dV (show ¬ idxB (fun v : View => decide (v.id = id)) views = -1 by unfold findI at h; omega)
 unfold findV
 rw [if_neg h]
 have : (findI views id).toNat = j := by unfold findI; rw [h1]; rfl
 rw [this]
 exact of_decide_eq_true h4
theorem moves_any (l : List Need) (right : List Bool) : decide (((movesL l right).length : Int) > 0) = l.any (wrB right) := by
 unfold movesL
 induction l with
 | nil => rfl
 | cons a l ih =>
  rw [List.filter_cons, List.any_cons]
  cases h : wrB right a with
  | true => simp
  | false => simpa using ih
theorem do_lk {x : Lk} {last : List Int} (hen : x.ends = -1 ∨ 0 ≤ x.ends) {b1 b2 b3 : Bool} (h1 : b1 = (x.ends != -1)) (h2 : b2 = (decide (last = []) && !(f.span.any fun s => decide (s ∈ pathOf f x)))) (h3 : b3 = ((!decide (last = [])) && ((pathOf f x).getD 0 0 != last.getD (last.length - 1) 0))) :
  lkB f x last = !(b1 || b2 || b3) := by
 subst h1; subst h2; subst h3
 have he : decide (x.ends < 0) = !(x.ends != -1) := by
  rcases hen with h | h
  ·rw [h]; rfl
  ·rw [decide_eq_false (by omega)]; simp; omega
 unfold lkB cntB
 rw [he]
 by_cases hl : last = []
 ·subst hl
  simp [Bool.not_or]
 ·have hn : ¬ last.length = 0 := fun h => hl (List.eq_nil_of_length_eq_zero h)
  rw [if_neg hn, decide_eq_false hl]
  simp [Bool.not_or, bne, Bool.beq_eq_decide_eq]
end
end Go.Lo
