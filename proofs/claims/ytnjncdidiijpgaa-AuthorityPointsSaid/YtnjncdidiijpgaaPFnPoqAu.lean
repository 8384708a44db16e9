/- Part of the logic of values: what the law reaches. -/
import Derived.Test.YtnjncdidiijpgaaPFnPoqPa
import Derived.Test.YtnjncdidiijpgaaPFnPoqLoY
import Derived.Test.YtnjncdidiijpgaaPFnPoqSt
import Derived.Test.YtnjncdidiijpgaaPFnPoqDr
set_option linter.unusedVariables false
set_option linter.unusedSimpArgs false
namespace Go.Lo
structure Lk where
 route : Int
 train : Int
 ends : Int
 pieces : List Int
def dLk : Lk := ⟨0, 0, 0, []⟩
def eLk (x : Lk) : List AV := [.v (.int .i64 x.route), .v (.int .i64 x.train), .v (.int .i64 x.ends), .ro x.pieces.length (enc eU8 x.pieces)]
instance (x : Lk) : NoIL (eLk x) := by unfold eLk; infer_instance
theorem zed_Lk : ∀ (j : Nat) (av : AV) (u : Value), (eLk dLk)[j]? = some av → (#[.int .i64 0, .int .i64 0, .int .i64 0, .slice none 0 0] : Array Value)[j]? = some u → Zed av u
 | 0, av, u, h1, h2 => by cases h1; cases h2; exact .inl rfl
 | 1, av, u, h1, h2 => by cases h1; cases h2; exact .inl rfl
 | 2, av, u, h1, h2 => by cases h1; cases h2; exact .inl rfl
 | 3, av, u, h1, h2 => by cases h1; cases h2; exact .inr ⟨rfl, rfl⟩
 | n + 4, av, u, h1, h2 => by simp [eLk] at h1
structure Fld where
 id : Int
 span : List Int
 secs : List Sec
 parts : List (List Int)
 pts : List Pnt
 routes : List (List Int)
 st : List Int
 ow : List Int
 right : List Bool
structure FldOk (f : Fld) : Prop where
 hs : f.secs.length ≤ 65536
 hp : f.pts.length ≤ 65536
 hpa : f.parts.length ≤ 65536
 hpl : ∀ x, x ∈ f.parts → x.length ≤ 65536
 hst : f.st.length ≤ 65536
 how : f.ow.length ≤ 65536
 hr : f.right.length ≤ 65536
 hsp : f.span.length ≤ 65536
 hro : f.routes.length ≤ 65536
 hrl : ∀ x, x ∈ f.routes → 1 ≤ x.length ∧ x.length ≤ 65536
 hrs : ∀ x, x ∈ f.routes → ∀ s, s ∈ x → 0 ≤ s ∧ s < (f.st.length : Int)
 hpo : ∀ s : Int, 0 ≤ s → s < (f.st.length : Int) → 0 ≤ partI f.parts s ∧ partI f.parts s < (f.ow.length : Int)
def openB (f : Fld) (s : Int) : Bool := decide (f.st.getD s.toNat 0 = 0) || (decide (f.st.getD s.toNat 0 = 1) && decide (f.ow.getD (partI f.parts s).toNat 0 = f.id))
def stepL (f : Fld) (path : List Int) (i : Nat) : List Need := (paL f.secs f.pts (path.take (i + 2))).drop (min (paL f.secs f.pts (path.take (i + 1))).length (paL f.secs f.pts (path.take (i + 2))).length)
def stepB (f : Fld) (path : List Int) (i : Nat) : Bool := !((stepL f path i).any (wrB f.right))
def okB (f : Fld) (path : List Int) (i : Nat) : Bool := stepB f path i && openB f (path.getD (i + 1) 0)
def pcR (f : Fld) (path : List Int) : List Int → Nat → List Int → List Int × Bool
 | [], _, out => (out, true)
 | b :: l, k, out => if b = 0 then pcR f path l (k + 1) out else if okB f path k then pcR f path l (k + 1) (out ++ [path.getD (k + 1) 0]) else (out, false)
def pcO (path ps : List Int) : Nat → List Int
 | 0 => []
 | k + 1 => if ps.getD k 0 = 0 then pcO path ps k else pcO path ps k ++ [path.getD (k + 1) 0]
def pcF (f : Fld) (path ps : List Int) : List Int × Bool := pcR f path ps 0 []
section
variable {f : Fld} {path ps : List Int} {k : Nat}
theorem pcO_len (path ps : List Int) : ∀ k, (pcO path ps k).length ≤ k
 | 0 => Nat.le_refl 0
 | k + 1 => by
  have h := pcO_len path ps k
  unfold pcO; split
  ·omega
  ·rw [List.length_append]; simp; omega
theorem pcO_no (h : ps.getD k 0 = 0) : pcO path ps (k + 1) = pcO path ps k := by
 conv => lhs; unfold pcO
 rw [if_pos h]
theorem pcO_on (h : ¬ ps.getD k 0 = 0) : pcO path ps (k + 1) = pcO path ps k ++ [path.getD (k + 1) 0] := by
 conv => lhs; unfold pcO
 rw [if_neg h]
theorem pc_no {R : List Int × Bool} (hk : k < ps.length) (hi : pcR f path (ps.drop k) k (pcO path ps k) = R) (h : ps.getD k 0 = 0) : pcR f path (ps.drop (k + 1)) (k + 1) (pcO path ps (k + 1)) = R := by
 rw [drop_at hk] at hi; unfold pcR at hi; rw [if_pos h] at hi; rw [pcO_no h]; exact hi
theorem pc_on {R : List Int × Bool} (hk : k < ps.length) (hi : pcR f path (ps.drop k) k (pcO path ps k) = R) (h : ¬ ps.getD k 0 = 0) (ho : okB f path k = true) : pcR f path (ps.drop (k + 1)) (k + 1) (pcO path ps (k + 1)) = R := by
 rw [drop_at hk] at hi; unfold pcR at hi; rw [if_neg h, if_pos ho] at hi; rw [pcO_on h]; exact hi
theorem pc_cut {R : List Int × Bool} (hk : k < ps.length) (hi : pcR f path (ps.drop k) k (pcO path ps k) = R) (h : ¬ ps.getD k 0 = 0) (ho : okB f path k = false) : R = (pcO path ps k, false) := by
 rw [drop_at hk] at hi; unfold pcR at hi; rw [if_neg h, if_neg (by rw [ho]; exact Bool.false_ne_true)] at hi; exact hi.symm
theorem pc_end {R : List Int × Bool} (hk : ps.length ≤ k) (hi : pcR f path (ps.drop k) k (pcO path ps k) = R) : R = (pcO path ps k, true) := by
 rw [List.drop_of_length_le hk] at hi; exact hi.symm
theorem pcR_len : ∀ (l : List Int) (k : Nat) (out : List Int), (pcR f path l k out).1.length ≤ out.length + l.length
 | [], k, out => by simp [pcR]
 | b :: l, k, out => by
  unfold pcR
  split
  ·have := pcR_len l (k + 1) out; simp only [List.length_cons]; omega
  ·split
   ·have := pcR_len l (k + 1) (out ++ [path.getD (k + 1) 0]); simp only [List.length_cons, List.length_append, List.length_nil] at this ⊢; omega
   ·simp only [List.length_cons]; omega
theorem pcF_len : (pcF f path ps).1.length ≤ ps.length := by have := pcR_len (f := f) (path := path) ps 0 []; simpa [pcF] using this
end
def pathOf (f : Fld) (x : Lk) : List Int := f.routes.getD x.route.toNat []
def cntB (f : Fld) (path last : List Int) : Bool := if last.length = 0 then f.span.any (fun s => decide (s ∈ path)) else decide (path.getD 0 0 = last.getD (last.length - 1) 0)
def lkB (f : Fld) (x : Lk) (last : List Int) : Bool := decide (x.ends < 0) && cntB f (pathOf f x) last
def auR (f : Fld) : List Lk → List Int → List Int → List Int
 | [], out, _ => out
 | x :: l, out, last => if lkB f x last then (if (pcF f (pathOf f x) x.pieces).2 then auR f l (out ++ (pcF f (pathOf f x) x.pieces).1) (pathOf f x) else out ++ (pcF f (pathOf f x) x.pieces).1) else out
def auO (f : Fld) (mine : List Lk) : Nat → List Int
 | 0 => []
 | k + 1 => auO f mine k ++ (pcF f (pathOf f (mine.getD k dLk)) (mine.getD k dLk).pieces).1
def auL (f : Fld) (mine : List Lk) : Nat → List Int
 | 0 => []
 | k + 1 => pathOf f (mine.getD k dLk)
section
variable {f : Fld} {mine : List Lk} {k : Nat} {R : List Int}
theorem drop_lk {l : List Lk} (h : k < l.length) : l.drop k = l.getD k dLk :: l.drop (k + 1) := by
 rw [List.drop_eq_getElem_cons h]
 simp [h]
theorem au_on (hk : k < mine.length) (hi : auR f (mine.drop k) (auO f mine k) (auL f mine k) = R) (h : lkB f (mine.getD k dLk) (auL f mine k) = true) (h2 : (pcF f (pathOf f (mine.getD k dLk)) (mine.getD k dLk).pieces).2 = true) :
  auR f (mine.drop (k + 1)) (auO f mine (k + 1)) (auL f mine (k + 1)) = R := by
 rw [drop_lk hk] at hi; unfold auR at hi; rw [if_pos h, if_pos h2] at hi; exact hi
theorem au_part (hk : k < mine.length) (hi : auR f (mine.drop k) (auO f mine k) (auL f mine k) = R) (h : lkB f (mine.getD k dLk) (auL f mine k) = true) (h2 : (pcF f (pathOf f (mine.getD k dLk)) (mine.getD k dLk).pieces).2 = false) :
  auO f mine (k + 1) = R := by
 rw [drop_lk hk] at hi; unfold auR at hi; rw [if_pos h, if_neg (by rw [h2]; exact Bool.false_ne_true)] at hi; exact hi
theorem au_stop (hk : k < mine.length) (hi : auR f (mine.drop k) (auO f mine k) (auL f mine k) = R) (h : lkB f (mine.getD k dLk) (auL f mine k) = false) : auO f mine k = R := by
 rw [drop_lk hk] at hi; unfold auR at hi; rw [if_neg (by rw [h]; exact Bool.false_ne_true)] at hi; exact hi
theorem au_end (hk : mine.length ≤ k) (hi : auR f (mine.drop k) (auO f mine k) (auL f mine k) = R) : auO f mine k = R := by
 rw [List.drop_of_length_le hk] at hi; exact hi
end
theorem addN2 {i : Nat} (h : i ≤ 1000000) : binI .i64 .add (i : Int) 2 = .int .i64 ((i + 2 : Nat) : Int) := by
 rw [addI (by omega)]; congr 1
theorem openB_0 {f : Fld} {s : Int} (h : f.st.getD s.toNat 0 = 0) : openB f s = true := by unfold openB; rw [decide_eq_true h]; rfl
theorem openB_1 {f : Fld} {s : Int} (h0 : ¬ f.st.getD s.toNat 0 = 0) (h : f.st.getD s.toNat 0 = 1) : openB f s = decide (f.ow.getD (partI f.parts s).toNat 0 = f.id) := by unfold openB; rw [decide_eq_false h0, decide_eq_true h]; rfl
theorem openB_2 {f : Fld} {s : Int} (h0 : ¬ f.st.getD s.toNat 0 = 0) (h : ¬ f.st.getD s.toNat 0 = 1) : openB f s = false := by unfold openB; rw [decide_eq_false h0, decide_eq_false h]; rfl
theorem bne_dec (a b : Int) : (a != b) = !decide (a = b) := rfl
abbrev fldOf (v : View) (secs : List Sec) (parts : List (List Int)) (pts : List Pnt) (routes : List (List Int)) (st ow : List Int) (right : List Bool) : Fld := ⟨v.id, v.span, secs, parts, pts, routes, st, ow, right⟩
structure LkOk (f : Fld) (x : Lk) : Prop where
 r : 0 ≤ x.route ∧ x.route < (f.routes.length : Int)
 ps : x.pieces.length + 1 ≤ (pathOf f x).length
def mineL (locks : List Lk) (id : Int) : List Lk := restG (fun x : Lk => !decide (x.train = id)) locks
def auT (views : List View) (id : Int) (f : Fld) (locks : List Lk) : List Int := if findI views id < 0 then [] else if (findV views id).sure then auR f (mineL locks id) [] [] else []
theorem auT_no {views : List View} {id : Int} {f : Fld} {locks : List Lk} (h : findI views id < 0 ∨ (findV views id).sure = false) : auT views id f locks = [] := by
 unfold auT
 rcases h with h | h
 ·rw [if_pos h]
 ·split
  ·rfl
  ·rw [if_neg (by rw [h]; exact Bool.false_ne_true)]
theorem auT_yes {views : List View} {id : Int} {f : Fld} {locks : List Lk} (h1 : ¬ findI views id < 0) (h2 : (findV views id).sure = true) : auT views id f locks = auR f (mineL locks id) [] [] := by
 unfold auT; rw [if_neg h1, if_pos h2]
theorem mine_mem {locks : List Lk} {id : Int} {x : Lk} (h : x ∈ mineL locks id) : x ∈ locks := (List.mem_filter.1 h).1
theorem mine_len (locks : List Lk) (id : Int) : (mineL locks id).length ≤ locks.length := List.length_filter_le _ _
theorem lk_f {f : Fld} {x : Lk} {last : List Int} (h : (decide (x.ends ≥ 0) || !cntB f (pathOf f x) last) = true) : lkB f x last = false := by
 unfold lkB
 cases hc : cntB f (pathOf f x) last with
 | false => simp
 | true => rw [hc] at h; simp at h; rw [decide_eq_false (by omega)]; rfl
theorem lk_t {f : Fld} {x : Lk} {last : List Int} (h : (decide (x.ends ≥ 0) || !cntB f (pathOf f x) last) = false) : lkB f x last = true := by
 unfold lkB
 cases hc : cntB f (pathOf f x) last with
 | false => rw [hc] at h; simp at h
 | true => rw [hc] at h; simp at h; rw [decide_eq_true (by omega)]; rfl
theorem auO_len {f : Fld} {mine : List Lk} (hm : ∀ x, x ∈ mine → x.pieces.length ≤ 65536) : ∀ k, (auO f mine k).length ≤ k * 65536
 | 0 => Nat.le_refl _
 | k + 1 => by
  have h := auO_len (f := f) hm k
  show (auO f mine k ++ _).length ≤ _
  have h2 := pcF_len (f := f) (path := pathOf f (mine.getD k dLk)) (ps := (mine.getD k dLk).pieces)
  have h3 : (mine.getD k dLk).pieces.length ≤ 65536 := by
   rcases Nat.lt_or_ge k mine.length with hk | hk
   ·exact hm _ (getD_mem dLk hk)
   ·rw [List.getD_eq_getElem?_getD, List.getElem?_eq_none hk]; exact Nat.zero_le _
  rw [List.length_append, Nat.succ_mul]; omega
theorem auL_len {f : Fld} {mine : List Lk} (hf : FldOk f) (hm : ∀ x, x ∈ mine → LkOk f x) : ∀ k, k ≤ mine.length → (auL f mine k).length ≤ 65536
 | 0, _ => Nat.zero_le _
 | k + 1, h => by
  have hx := (hm _ (getD_mem (l := mine) (k := k) dLk (by omega))).r
  exact (hf.hrl _ (getD_mem (l := f.routes) (k := (mine.getD k dLk).route.toNat) [] (by omega))).2
end Go.Lo
