/- Part of the logic of values: what the law reaches. -/
import Derived.Test.YtnjncdidiijpgaaPFnPoqLs
import Derived.Test.YtnjncdidiijpgaaPFnPoqAq
import Derived.Test.YtnjncdidiijpgaaPFnPoqDr
set_option linter.unusedVariables false
set_option linter.unusedSimpArgs false
namespace Go.Lo
def goodP (n : Nat) (pts : List Pnt) (ns : List Need) : Bool :=
 (ns.all fun z => !wrB (moveL [] (movesL ns [])) z) && ns.all fun z => mayB pts (List.replicate n 0) [] (List.replicate n false) (List.replicate pts.length false) z.point
def chkP (secs : List Sec) (pts : List Pnt) : Nat → Int → Int → List Need → Bool
 | 0, _, _, ns => goodP secs.length pts ns
 | k + 1, s, e, ns => goodP secs.length pts ns && (aroundL secs pts s e).all fun x => chkP secs pts k x.sec (1 - x.en) (ns ++ needL secs pts s e x.sec)
def chkA (secs : List Sec) (pts : List Pnt) : Bool := (List.range secs.length).all fun s => chkP secs pts 8 (s : Int) 0 [] && chkP secs pts 8 (s : Int) 1 []
theorem chk_3 (u : Int) : chkA (secsE (rowE 3) u 3) [] = true := by kernel_rfl
theorem chk_4 (u : Int) : chkA (secsE (rowE 4) u 4) [] = true := by kernel_rfl
theorem chk_5 (u : Int) : chkA (secsE (rowE 5) u 5) [] = true := by kernel_rfl
theorem chk_6 (u : Int) : chkA (secsE (rowE 6) u 6) [] = true := by kernel_rfl
theorem chk_7 (u : Int) : chkA (secsE (rowE 7) u 7) [] = true := by kernel_rfl
theorem chk_8 (u : Int) : chkA (secsE (rowE 8) u 8) [] = true := by kernel_rfl
theorem chk_y (u : Int) : chkA (secsE [⟨0, 1⟩, ⟨1, 2⟩, ⟨3, 1⟩] u 3) [⟨1, 0, 1, 2⟩] = true := by kernel_rfl
theorem chk_l (u : Int) : chkA (secsE [⟨0, 1⟩, ⟨1, 2⟩, ⟨2, 3⟩, ⟨2, 4⟩, ⟨5, 3⟩, ⟨4, 5⟩, ⟨5, 6⟩, ⟨6, 7⟩] u 8) [⟨2, 1, 2, 3⟩, ⟨5, 6, 4, 5⟩] = true := by kernel_rfl
theorem chk_d (u : Int) : chkA (secsE [⟨0, 1⟩, ⟨2, 1⟩, ⟨2, 3⟩, ⟨2, 4⟩, ⟨3, 5⟩, ⟨4, 6⟩] u 6) [⟨2, 1, 3, 2⟩] = true := by kernel_rfl
theorem chk_full (form len : Int) : chkA (mkSecs form len) (mkPts form) = true := by
 unfold mkSecs
 rw [mk_secsE]
 unfold mkEnds mkPts
 split
 ·have h : rowN form = 3 ∨ rowN form = 4 ∨ rowN form = 5 ∨ rowN form = 6 ∨ rowN form = 7 ∨ rowN form = 8 := by unfold rowN; omega
  rw [rowE_len]
  rcases h with h | h | h | h | h | h <;> rw [h]
  ·exact chk_3 _
  ·exact chk_4 _
  ·exact chk_5 _
  ·exact chk_6 _
  ·exact chk_7 _
  ·exact chk_8 _
 ·split
  ·exact chk_y _
  ·split
   ·exact chk_l _
   ·exact chk_d _
section
variable {secs : List Sec} {pts : List Pnt} {routes : List (List Int)} {parts : List (List Int)}
theorem chk_wk (hT : topB secs pts = true) : ∀ (n : Nat) (l : List Int) (s e : Int) (ns : List Need), chkP secs pts n s e ns = true → Wk secs pts s e l → l.length ≤ n → goodP secs.length pts (ns ++ ndL secs pts s e l) = true
 | 0, [], s, e, ns, h, _, _ => by rw [show ndL secs pts s e [] = [] from rfl, List.append_nil]; exact h
 | n + 1, [], s, e, ns, h, _, _ => by
  unfold chkP at h
  rw [Bool.and_eq_true] at h
  rw [show ndL secs pts s e [] = [] from rfl, List.append_nil]; exact h.1
 | n + 1, p :: l, s, e, ns, h, hw, hl => by
  unfold chkP at h
  rw [Bool.and_eq_true] at h
  obtain ⟨x, hx, hp⟩ := hw.1
  subst hp
  have h2 := List.all_eq_true.1 h.2 x hx
  have h3 := hw.2
  rw [top_en hT hx] at h3
  have h4 := chk_wk hT n l x.sec (1 - x.en) (ns ++ needL secs pts s e x.sec) h2 h3 (by simpa using hl)
  rw [List.append_assoc] at h4
  show goodP secs.length pts (ns ++ (needL secs pts s e x.sec ++ ndL secs pts x.sec (wyY secs pts s e x.sec) l)) = true
  rw [top_en hT hx]; exact h4
theorem route_good (hT : topB secs pts = true) (hc : chkA secs pts = true) (hw : AllWk secs pts routes) (hnd : ∀ x, x ∈ routes → x.Nodup) (hL : LayOk secs parts pts routes) {path : List Int} (hp : path ∈ routes) : goodP secs.length pts (paL secs pts path) = true := by
 obtain ⟨s, e, l, rfl, hl⟩ := hw path hp
 have hn := hnd _ hp
 have h8 : (s :: l).length ≤ secs.length := nd_len hn (fun y hy => hL.hrs _ hp y hy)
 have hs := hL.hs
 have h2 := (hL.hrl _ hp).1
 cases l with
 | nil => simp at h2
 | cons p l =>
  rw [pa_wk hT hn hl]
  obtain ⟨x, hx, _⟩ := hl.1
  obtain ⟨he, hsr, _⟩ := top_at hT hx
  have h3 := List.all_eq_true.1 hc s.toNat (List.mem_range.2 (by omega))
  rw [Bool.and_eq_true, show ((s.toNat : Nat) : Int) = s by omega] at h3
  have h4 : chkP secs pts 8 s e [] = true := by
   rcases he with rfl | rfl
   ·exact h3.1
   ·exact h3.2
  have := chk_wk hT 8 (p :: l) s e [] h4 hl (by simp only [List.length_cons] at h8 ⊢; omega)
  rwa [List.nil_append] at this
theorem whose_nil (routes : List (List Int)) (s : Int) : whoseL routes [] s = -1 := rfl
theorem sec_nil (routes : List (List Int)) (n : Nat) : secL routes [] n = List.replicate n false := by
 unfold secL
 rw [List.eq_replicate_iff]
 refine ⟨by simp, fun b hb => ?_⟩
 obtain ⟨i, _, rfl⟩ := List.mem_map.1 hb
 rfl
theorem held_nil : heldL secs pts routes [] = List.replicate pts.length false := rfl
theorem rep_getD (n k : Nat) : (List.replicate n (0 : Int)).getD k 0 = 0 := by
 rw [List.getD_eq_getElem?_getD, List.getElem?_replicate]
 split <;> rfl
theorem set_ok {k : Nat} (hL : LayOk secs parts pts routes) (hk : k < routes.length) (hg : goodP secs.length pts (paL secs pts (routes.getD k [])) = true) : setE secs pts routes [] (k : Int) (List.replicate secs.length 0) [] [] = 0 := by
 have hp : routes.getD k [] ∈ routes := getD_mem [] hk
 have hb : busyK routes [] (List.replicate secs.length 0) (routes.getD k []) ((routes.getD k []).length - 1) = false := by
  unfold busyK
  cases hq : (List.range ((routes.getD k []).length - 1)).any (busyB routes [] (List.replicate secs.length 0) (routes.getD k [])) with
  | false => rfl
  | true =>
   obtain ⟨i, hi, hi2⟩ := List.any_eq_true.1 hq
   have hi3 := List.mem_range.1 hi
   have hr := hL.hrs _ hp _ (getD_mem (l := routes.getD k []) (k := i + 1) 0 (by omega))
   unfold busyB at hi2
   rw [List.length_replicate, rep_getD, whose_nil, decide_eq_false (by omega)] at hi2
   cases hi2
 have hm : (movesL (paL secs pts (routes.getD k [])) []).any (noMay secs pts routes [] (List.replicate secs.length 0) []) = false := by
  cases hq : (movesL (paL secs pts (routes.getD k [])) []).any (noMay secs pts routes [] (List.replicate secs.length 0) []) with
  | false => rfl
  | true =>
   obtain ⟨z, hz, hz2⟩ := List.any_eq_true.1 hq
   unfold goodP at hg
   rw [Bool.and_eq_true] at hg
   have h2 := List.all_eq_true.1 hg.2 z (List.mem_filter.1 hz).1
   unfold noMay at hz2
   rw [sec_nil, held_nil, h2] at hz2
   cases hz2
 exact set_0 (r := (k : Int)) ⟨by omega, by omega⟩ (by show ¬ (-1 : Int) ≥ 0; decide) (by rw [Int.toNat_natCast]; exact hb) (by rw [Int.toNat_natCast]; exact hm)
theorem hld_ones : ∀ (l : List Int) (a : Int) (pre : List Int) , hldR (pre ++ a :: l) (List.replicate l.length 1) pre.length = l
 | [], a, pre => rfl
 | b :: l, a, pre => by
  have ih := hld_ones l b (pre ++ [a])
  rw [show pre ++ [a] ++ b :: l = pre ++ a :: b :: l by simp, List.length_append, List.length_singleton] at ih
  rw [List.length_cons, List.replicate_succ, hldR_cons, if_neg (by decide), ih]
  congr 1
  rw [List.getD_eq_getElem?_getD, List.getElem?_append_right (by omega), show pre.length + 1 - pre.length = 1 by omega]; rfl
theorem hld_path (path : List Int) (h : 1 ≤ path.length) : hldR path (List.replicate (path.length - 1) 1) 0 = path.drop 1 := by
 cases path with
 | nil => simp at h
 | cons a l => exact hld_ones l a []
theorem pcR_ones {f : Fld} {path : List Int} : ∀ (l : List Int) (k : Nat) (out : List Int), (∀ j, j < l.length → okB f path (k + j) = true) → (pcR f path l k out).2 = true
 | [], k, out, h => rfl
 | b :: l, k, out, h => by
  have h0 := h 0 (by simp)
  have ih : ∀ out, (pcR f path l (k + 1) out).2 = true := fun out => pcR_ones l (k + 1) out (fun j hj => by
   have := h (j + 1) (by simpa using hj)
   rw [show k + 1 + j = k + (j + 1) by omega]; exact this)
  unfold pcR
  split
  ·exact ih _
  ·rw [if_pos (by simpa using h0)]; exact ih _
section
variable {st ow : List Int} {right : List Bool} {k : Nat} {sp : List Int}
def oneK (r : Int) (path : List Int) : List Lk := [⟨r, 1, -1, List.replicate (path.length - 1) 1⟩]
def vw1 (path : List Int) : View := ⟨1, true, path.take 1⟩
theorem one_find (path : List Int) : findV [vw1 path] 1 = vw1 path := rfl
theorem one_whole (hT : topB secs pts = true) (hw : AllWk secs pts routes) (hnd : ∀ x, x ∈ routes → x.Nodup) (hL : LayOk secs parts pts routes) (hk : k < routes.length) (hst : ∀ i, st.getD i 0 = 0) (hr : ∀ z, z ∈ paL secs pts (routes.getD k []) → wrB right z = false) :
  auT [vw1 (routes.getD k [])] 1 (fldOf (findV [vw1 (routes.getD k [])] 1) secs parts pts routes st ow right) (oneK (k : Int) (routes.getD k [])) = (routes.getD k []).drop 1 := by
 have hp : routes.getD k [] ∈ routes := getD_mem [] hk
 have h2 := (hL.hrl _ hp).1
 rw [one_find]
 have hau : auT [vw1 (routes.getD k [])] 1 (fldOf (vw1 (routes.getD k [])) secs parts pts routes st ow right) (oneK (k : Int) (routes.getD k [])) = auR (fldOf (vw1 (routes.getD k [])) secs parts pts routes st ow right) (oneK (k : Int) (routes.getD k [])) [] [] := rfl
 rw [hau]
 generalize hf : fldOf (vw1 (routes.getD k [])) secs parts pts routes st ow right = f
 have hpo : pathOf f ⟨(k : Int), 1, -1, List.replicate ((routes.getD k []).length - 1) 1⟩ = routes.getD k [] := by rw [← hf]; show routes.getD (k : Int).toNat [] = _; rw [Int.toNat_natCast]
 have hlk : lkB f ⟨(k : Int), 1, -1, List.replicate ((routes.getD k []).length - 1) 1⟩ [] = true := by
  unfold lkB
  rw [hpo]
  unfold cntB
  show (decide ((-1 : Int) < 0) && f.span.any fun s => decide (s ∈ routes.getD k [])) = true
  have : f.span = (routes.getD k []).take 1 := by rw [← hf]; rfl
  rw [this]
  cases hq : routes.getD k [] with
  | nil => rw [hq] at h2; simp at h2
  | cons a l => simp
 have hst1 : ∀ j, j < (List.replicate ((routes.getD k []).length - 1) (1 : Int)).length → okB f (routes.getD k []) (0 + j) = true := fun j hj => by
  rw [List.length_replicate] at hj
  rw [Nat.zero_add]
  unfold okB
  rw [Bool.and_eq_true]
  constructor
  ·unfold stepB
   rw [step_same (f := f) (by rw [← hf]; exact hT) (by rw [← hf]; exact hw) (by rw [← hf]; exact hnd) (by rw [← hf]; exact hp) (by omega)]
   have hany : ((stD f.secs f.pts (routes.getD k []) j).any (wrB f.right)) = false := by
    cases hq : ((stD f.secs f.pts (routes.getD k []) j).any (wrB f.right)) with
    | false => rfl
    | true =>
     obtain ⟨z, hz, hz2⟩ := List.any_eq_true.1 hq
     have hz3 : z ∈ paL f.secs f.pts (routes.getD k []) := by
      unfold stD at hz
      split at hz
      ·cases hz
      ·exact List.mem_of_mem_take (List.mem_of_mem_drop hz)
     rw [← hf] at hz2 hz3
     rw [hr z hz3] at hz2; cases hz2
   rw [hany]; rfl
  ·refine openB_0 ?_
   rw [← hf]; exact hst _
 have hall := pcR_ones (f := f) (path := routes.getD k []) _ 0 [] hst1
 have hfst := pcR_all (f := f) (path := routes.getD k []) _ 0 [] hall
 rw [hld_path _ (by omega), List.nil_append] at hfst
 show auR f [⟨(k : Int), 1, -1, List.replicate ((routes.getD k []).length - 1) 1⟩] [] [] = _
 unfold auR
 rw [if_pos hlk, hpo, if_pos (show (pcF f (routes.getD k []) (List.replicate ((routes.getD k []).length - 1) 1)).2 = true from hall)]
 unfold auR
 rw [List.nil_append]; exact hfst
theorem one_some (hL : LayOk secs parts pts routes) (hk : k < routes.length) :
  auT [vw1 (routes.getD k [])] 1 (fldOf (findV [vw1 (routes.getD k [])] 1) secs parts pts routes st ow right) (oneK (k : Int) (routes.getD k [])) <+: (routes.getD k []).drop 1 := by
 have hp : routes.getD k [] ∈ routes := getD_mem [] hk
 have h2 := (hL.hrl _ hp).1
 obtain ⟨a, h1, h3⟩ := auR_pre (f := fldOf (findV [vw1 (routes.getD k [])] 1) secs parts pts routes st ow right) (oneK (k : Int) (routes.getD k [])) [] []
 have hau : auT [vw1 (routes.getD k [])] 1 (fldOf (findV [vw1 (routes.getD k [])] 1) secs parts pts routes st ow right) (oneK (k : Int) (routes.getD k [])) = auR (fldOf (findV [vw1 (routes.getD k [])] 1) secs parts pts routes st ow right) (oneK (k : Int) (routes.getD k [])) [] [] := rfl
 rw [hau, h1, List.nil_append]
 refine h3.trans ?_
 show hldR (routes.getD (k : Int).toNat []) (List.replicate ((routes.getD k []).length - 1) 1) 0 ++ [] <+: _
 rw [List.append_nil, Int.toNat_natCast, hld_path _ (by omega)]
 exact List.prefix_refl _
end
theorem st0 {x : Act} (h : x.sts = []) (n i : Nat) : (stL x n).getD i 0 = 0 := by
 unfold stL
 rw [List.getD_eq_getElem?_getD, List.getElem?_map]
 cases hq : (List.range n)[i]? with
 | none => rfl
 | some j => show stA x j = 0; unfold stA; rw [if_neg (by rw [h]; simp)]
theorem good_stand {n : Nat} {ns : List Need} (h : goodP n pts ns = true) {z : Need} (hz : z ∈ ns) : wrB (moveL [] (movesL ns [])) z = false := by
 unfold goodP at h
 rw [Bool.and_eq_true] at h
 simpa using List.all_eq_true.1 h.1 z hz
theorem one_R {k : Nat} (hL : LayOk secs parts pts routes) (hk : k < routes.length) : ∀ y, y ∈ oneK (k : Int) (routes.getD k []) → LkR routes y := fun y hy => by
 obtain ⟨h1, h2⟩ := hL.hrl _ (getD_mem (l := routes) (k := k) [] hk)
 rw [List.mem_singleton.1 hy]
 refine ⟨⟨by show (0 : Int) ≤ (k : Int); omega, by show (k : Int) < _; omega⟩, ?_, ?_⟩
 ·show (List.replicate ((routes.getD k []).length - 1) (1 : Int)).length + 1 ≤ (routes.getD (k : Int).toNat []).length
  rw [Int.toNat_natCast, List.length_replicate]; omega
 ·show (routes.getD (k : Int).toNat []).length ≤ 65536
  rw [Int.toNat_natCast]; exact h2
theorem one_En (r : Int) (path : List Int) : EnOk (oneK r path) := fun x hx => by rw [List.mem_singleton.1 hx]; exact .inl rfl
theorem act_rt {rt : List Bool} (h : rt.length ≤ maxLen) : ActOk ⟨0, 0, 0, [], [], rt, [], 0⟩ where
 dw := by show (0 : Int) ≤ 0 ∧ (0 : Int) ≤ 255; decide
 n := by show (0 : Int) ≤ 0 ∧ (0 : Int) ≤ 255; decide
 tr := by show (0 : Int) ≤ 0 ∧ (0 : Int) ≤ 255; decide
 sts := fun y h => by cases h
 ow := fun y h => by cases h
 sp := fun y h => by cases h
 tk := by show (0 : Int) ≤ 0 ∧ (0 : Int) ≤ 255; decide
 l1 := Nat.zero_le _
 l2 := Nat.zero_le _
 l3 := h
 l4 := Nat.zero_le _
end
end Go.Lo
