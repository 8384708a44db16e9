/- Walks of Go functions in the logic of values: what the law reaches. -/
import Derived.Test.YtnjncdidiijpgaaPFnOf4
set_option linter.unusedVariables false
set_option linter.unusedSimpArgs false
set_option maxRecDepth 10000
set_option maxHeartbeats 16000000
namespace Go.Lo
open Go.Proofs
abbrev Z8u (ls : List Lk) (k : Nat) : List AV := [.i ((ls.getD k dLk).route), .i ((ls.getD k dLk).train), .i ((ls.getD k dLk).ends), .ro ((ls.getD k dLk).pieces.length) (enc eU8 ((ls.getD k dLk).pieces))]
theorem r15_copiedO (ls : List Lk) (hll : ls.length ≤ 65536) (hpl : ∀ x, x ∈ ls → x.pieces.length ≤ 65536) : FnO Try.prog 49 [.ro ls.length (enc eLk ls)] (.sl 0 0 ls.length) (⟨enc eOw (ow 1 ls), 58, 4⟩ :: ls.map (pcO_ 5)) := by
 refine fnE_of_body (N := 25) Try.func49 rfl rfl (resOf1 rfl) (by simp) (fun w0 X hL_ => ?_)
 refine seqR ?_
 refine mG vN ?_
 refine op0 ?_
 refine seqR ?_
 refine mG vN ?_
 refine op0 ?_
 refine awp_seq ?_
 refine seqR ?_
 refine mG (.i 0) ?_
 refine op0 ?_
 refine awp_block ?_
 refine awp_count (fun k => ⟨(upd (upd (upd (upd none_ 0 (.q eLk ls)) 2 vN) 3 (.sl 1 0 k)) 4 (.i (k : Int))), cpOb 5 58 ls k⟩) (ls.length) ?_ (fun k hk_k => ?_)
 ·refine (imp_adopt 3 1 58 4 rfl rfl).trans (imp_le ⟨lu rfl (lu rfl (lu rfl (lu rfl ln))), fun id => .inl ?_⟩)
  show updO (famO (rowC 5 ls 0)) 1 (.live ⟨enc eOw (ow 8 (ls.take 0)), 58, 4⟩) id = updO (fun _ => .free) 1 (.live ⟨[], 58, 4⟩) id
  by_cases h : id = 1
  ·subst h; rfl
  rw [updO_ne _ _ h, updO_ne _ _ h, fam_0]
 have htk : (ls.take k).length = k := by rw [List.length_take]; omega
 refine awp_seq ?_
 refine seqR ?_
 refine mG (.i (k : Int)) ?_
 refine mG (.q eLk ls) ?_
 refine oG (qN ut41 ?_)
 refine bG ((.bool (decide ((k : Int) < (ls.length : Int))))) ?_
 refine op0 ?_
 refine awp_cond (decide ((k : Int) < (ls.length : Int))) rfl rfl (fun hc0 => ?_) (fun hc0 => ?_)
 ·have hf1 := of_decide_eq_true hc0
  have hxl := hpl _ (getD_mem (l := ls) (k := k) dLk om)
  refine awp_skip ?_
  refine awp_seq ?_
  refine awp_block ?_
  refine seqR ?_
  refine mG (.q eLk ls) ?_
  refine mG (.i (k : Int)) ?_
  refine oG (aop_ixE dLk rfl rfl rfl ut41 sz58 rfl rfl (fun _ => rfl) rfl om ?_)
  refine oG (qLB (Z8u ls k) ag58 sz58 ?_)
  refine oG (aop_alloc 2 rfl rfl rfl rfl ze58 rfl ?_)
  refine oG (qS sz58 ?_)
  refine rU (upd (upd (upd (upd (upd none_ 0 (.q eLk ls)) 2 vN) 3 (.sl 1 0 k)) 4 (.i (k : Int))) 5 (.pt 2 0)) (updO (updO (cpOb 5 58 ls k) 2 (.live ⟨[.i 0, .i 0, .i 0, vN], 58, 1⟩)) 2 (.live ⟨(Z8u ls k), 58, 1⟩)) ?_
  refine seqR ?_
  refine fG (.pt 2 3) ft58_3 sz27 ?_
  refine oG (qL (.ro ((ls.getD k dLk).pieces.length) (enc eU8 ((ls.getD k dLk).pieces))) ag27 ?_)
  refine oG (aop_appNil (k + 8) rfl rfl rfl rfl ut27 in5 rfl (by decide) rfl rfl (enc_len (fun _ => rfl) rfl) om om ?_ ?_)
  ·exact cpOb_free (eL := 58) (A := .dead) (B := .dead)
  refine fG (.pt 2 3) ft58_3 sz27 ?_
  refine oG (qS sz27 ?_)
  refine op0 ?_
  refine regR ?_
  refine mG (.sl 1 0 k) ?_
  refine oG (qLB [.i ((ls.getD k dLk).route), .i ((ls.getD k dLk).train), .i ((ls.getD k dLk).ends), .sl (k + 8) 0 (ls.getD k dLk).pieces.length] ag58 sz58 ?_)
  refine oG (aop_lit rfl rfl rfl ut41 iz58 (by decide) (by decide) rfl rfl ?_)
  refine oG (aop_append (ob := ⟨enc eOw (ow 8 (ls.take k)), 58, 4⟩) 3 rfl rfl rfl rfl ut41 in58 rfl (by decide) rfl rfl rfl rfl (enc_len (fun _ => rfl) (by rw [ow_len, htk])) rfl rfl om om rfl rfl ?_)
  refine mG (.sl 3 0 (k + 1)) ?_
  refine op0 ?_
  refine regR ?_
  refine mG (.i (k : Int)) ?_
  refine oG (qB (.int .i64 ((k + 1 : Nat) : Int)) (addN om) ?_)
  refine mG (.i ((k + 1 : Nat) : Int)) ?_
  refine op0 ?_
  show _ ∧ _
  refine ⟨by omega, ?_⟩
  have hs_ := take_snoc dLk (l := ls) (k := k) om
  have hn : (ls.take (k + 1)).length = k + 1 := by rw [List.length_take]; omega
  refine imp_ren (fun i => cond (Nat.beq i 3) 1 i) (fun i => cond (Nat.beq i 1) 3 i) (fun i => i = 3 ∨ (8 ≤ i ∧ i < 8 + (k + 1))) rfl (fun i hi => ?_) (ru_no rfl (ru_upd (.sl _ _ _ (Or.inl rfl)) rfl (ru_no rfl (ru_no rfl ru_none)))) (fun i o' hl => ?_) (fun i hi hf => ?_)
  ·rcases hi with rfl | hi
   ·rfl
   obtain ⟨j, rfl⟩ : ∃ j, i = j + 8 := ⟨i - 8, by omega⟩
   rfl
  ·rcases cpOb_live hl with ⟨rfl, rfl⟩ | ⟨j, rfl, hj, rfl⟩
   ·refine ⟨⟨enc eOw (ow 8 (ls.take k)) ++ [.i (ls.getD k dLk).route, .i (ls.getD k dLk).train, .i (ls.getD k dLk).ends, .sl (k + 8) 0 (ls.getD k dLk).pieces.length], 58, 4⟩, .inl rfl, rfl, rfl, ?_, fun c hc => ?_⟩
    ·show LObj.mk _ _ _ = LObj.mk _ _ _
     (try simp only [Z8u]); rw [hs_, ow_snoc, enc_snoc, mapL_append, ow_map _ 8 8 (fun i hi => by rw [show 8 + i = i + 8 by omega]; rfl), htk, show 8 + k = k + 8 by omega]
     rfl
    rcases List.mem_append.1 hc with hc | hc
    ·exact ow_ok (fun i h1 h2 => .inr ⟨h1, by rw [htk] at h2; omega⟩) c hc
    simp only [List.mem_cons, List.not_mem_nil, or_false] at hc
    rcases hc with rfl | rfl | rfl | rfl
    ·exact .v _
    ·exact .v _
    ·exact .v _
    exact .sl _ _ _ (.inr ⟨by omega, by omega⟩)
   refine ⟨_, .inr ⟨by show 8 ≤ j + 8; omega, by show j + 8 < _; omega⟩, rfl, (cp_next (eL := 58) (A := .dead) (B := .dead) (B2 := .dead) (X := .dead) j).trans (rowC_live hj), pcO_map.symm, pcO_ok⟩
  rcases hi with rfl | ⟨h1, h2⟩
  ·intro h; cases h
  obtain ⟨j, rfl⟩ : ∃ j, i = j + 8 := ⟨i - 8, by omega⟩
  intro h
  have h3 : cpOb 5 58 ls (k + 1) (j + 8) = .free := h
  rw [cpOb_hi, rowC_live om] at h3
  cases h3
 have hf2 := of_decide_eq_false hc0
 refine awp_exit ?_
 refine seqR ?_
 refine mG (.sl 1 0 k) ?_
 refine mG (.sl 1 0 k) ?_
 refine op0 ?_
 refine awp_ret ?_
 have he : ls.take k = ls := List.take_of_length_le om
 have hkn : k = ls.length := by omega
 subst hkn
 have hnd : (1 :: (List.range ls.length).map (· + 8)).Nodup := by
  rw [List.nodup_cons]
  refine ⟨fun h => ?_, ?_⟩
  ·obtain ⟨j, _, hj⟩ := List.mem_map.1 h; omega
  exact List.Pairwise.map (· + 8) (fun a b h => by intro h2; exact h om) List.nodup_range
 have hix : ∀ j, j < ls.length → ix (1 :: (List.range ls.length).map (· + 8)) (8 + j) = 1 + j := fun j hj => ix_of hnd (by rw [show 1 + j = j + 1 by omega, List.getElem?_cons_succ, List.getElem?_map, List.getElem?_range hj]; simp; omega)
 refine ⟨1 :: (List.range ls.length).map (· + 8), .sl 0 0 ls.length, _, rfl, ⟨rfl, rfl⟩, hnd, rfl, .sl _ _ _ (List.mem_cons_self ..), by simp, fun i id hi => ?_⟩
 cases i with
 | zero =>
  simp only [List.getElem?_cons_zero, Option.some.injEq] at hi
  subst hi
  refine ⟨⟨enc eOw (ow 8 (ls.take ls.length)), 58, 4⟩, rfl, ?_, ?_⟩
  ·rw [List.getElem?_cons_zero]
   show some _ = some (LObj.mk _ _ _)
   rw [he, ow_map _ 8 1 hix]
  rw [he]; exact ow_ok (fun i h1 h2 => List.mem_cons_of_mem _ (List.mem_map.2 ⟨i - 8, List.mem_range.2 om, by omega⟩))
 | succ j =>
  rw [List.getElem?_cons_succ, List.getElem?_map, Option.map_eq_some_iff] at hi
  obtain ⟨j', hj, rfl⟩ := hi
  obtain ⟨hjl, rfl⟩ := List.getElem?_eq_some_iff.1 hj
  simp only [List.length_range] at hjl
  simp only [List.getElem_range]
  refine ⟨pcO_ 5 (ls.getD j dLk), ?_, ?_, pcO_ok⟩
  ·exact cpOb_hi.trans (rowC_live hjl)
  rw [List.getElem?_cons_succ, List.getElem?_map, pcO_map, List.getElem?_eq_getElem hjl]
  simp [hjl]

abbrev Z8z (w : Int) (m p : List Int) : Nat → AV := (upd (upd (upd none_ 2 (.i w)) 3 (.q eU8 m)) 4 (.q eI p))
abbrev Z8y (ls : List Lk) (i : Nat) : List AV := [.i (ls.getD i dLk).route, .i (ls.getD i dLk).train, .i (ls.getD i dLk).ends, .sl 3 0 (ls.getD i dLk).pieces.length]
abbrev Z8x (ls : List Lk) (i : Nat) : List AV := [.i (ls.getD i dLk).route, .i (ls.getD i dLk).train, .i (ls.getD i dLk).ends, .sl (i + 8) 0 (ls.getD i dLk).pieces.length]
abbrev Z8w (d g : List (List Int)) (w : Int) (m p : List Int) : Tu := (⟨d, g, w, m, p⟩ : Tu)
abbrev Z8v (g d : List (List Int)) : LObj := ⟨[.one, .one, .q eIL g, .one, .q eIL d, .one, .one, .one, .one, .one], 39, 1⟩
theorem r15_Turn (d g : List (List Int)) (w : Int) (m p : List Int) (ls : List Lk) (hro : d.length ≤ 65536) (hpa : g.length ≤ 65536) (hpl : ∀ y, y ∈ g → y.length ≤ 65536) (hst : m.length ≤ 65536) (how : p.length ≤ 65536) (hll : ls.length ≤ 65536) (z : ∀ x, x ∈ ls → LkR d x)
  (hrs : ∀ x, x ∈ d → ∀ s, s ∈ x → 0 ≤ s ∧ s < (m.length : Int)) (hpo : ∀ s : Int, 0 ≤ s → s < (m.length : Int) → 0 ≤ partI g s ∧ partI g s < (p.length : Int)) :
  Fn Try.prog 29 [.agg [.one, .one, .q eIL g, .one, .q eIL d, .one, .one, .one, .one, .one], .q eLk ls, .i w, .q eU8 m, .q eI p] (.ro (turnL (⟨d, g, w, m, p⟩ : Tu) ls).length (enc eLk (turnL (⟨d, g, w, m, p⟩ : Tu) ls))) := by
 refine fnE_of_body (N := 129) Try.func29 rfl rfl (resOf1 rfl) (by simp) (fun w0 X hL_ => ?_)
 refine seqR ?_
 refine oG (qW 4 ?_)
 refine mG vN ?_
 refine op0 ?_
 refine seqR ?_
 refine mG vN ?_
 refine op0 ?_
 refine seqR ?_
 refine mG (.q eLk ls) ?_
 refine oG (aop_callO (news' := ⟨enc eOw (ow 8 ls), 58, 4⟩ :: ls.map (pcO_ 5)) 7 false rfl rfl rfl rfl rfl bd49 lS (fun _ => lends_cons (lend_n (av := .q eLk ls)) lends_nil) (r15_copiedO ls hll (fun x hx => by have h9 := z x hx; have := h9.ps; have := h9.ln; omega)) (fun h => by cases h) (fun i hi => (updO_ne _ _ (by omega : 7 + i ≠ 4)).trans rfl) rfl ?_ ?_)
 ·show LObj.mk (AV.mapL _ (enc eOw (ow 1 ls))) 58 4 :: (ls.map (pcO_ 5)).map _ = _
  rw [ow_map ls 1 8 (fun i hi => by omega), List.map_map]
  exact congrArg _ (List.map_congr_left fun x _ => pcO_map)
 refine mG (.sl 7 0 ls.length) ?_
 refine op0 ?_
 refine awp_seq ?_
 refine seqR ?_
 refine mG (.i 0) ?_
 refine op0 ?_
 refine awp_block ?_
 refine awp_count (fun i => ⟨(upd (upd (upd (upd (Z8z w m p) 5 (.pt 4 0)) 11 (.sl 1 0 (turnL (Z8w d g w m p) (ls.take i)).length)) 12 (.sl 7 0 ls.length)) 13 (.i (i : Int))), tuOb (rowT 5 ls i) (Z8v g d) ⟨enc eOw (ow 8 ls), 58, 4⟩ ⟨enc eLk (turnL (Z8w d g w m p) (ls.take i)), 58, 4⟩⟩) (ls.length) ?_ (fun i hi_ => ?_)
 ·refine (imp_adopt 11 1 58 4 rfl ?_).trans (imp_le ⟨lu rfl (lu rfl (lu rfl (lu rfl (lu rfl (lu rfl (lu rfl ln)))))), fun id => .inl (tu_start id)⟩)
  exact (addO_get _ _ _ _).trans (if_neg om)
 have hdn := turn_len (Z8w d g w m p) (ls.take i)
 have htk : (ls.take i).length = i := by rw [List.length_take]; omega
 refine awp_seq ?_
 refine seqR ?_
 refine mG (.i (i : Int)) ?_
 refine mG (.sl 7 0 ls.length) ?_
 refine oG (aop_len rfl rfl rfl rfl ut41 (len_sl rfl) ?_)
 refine bG ((.bool (decide ((i : Int) < (ls.length : Int))))) ?_
 refine op0 ?_
 refine awp_cond (decide ((i : Int) < (ls.length : Int))) rfl rfl (fun hc0 => ?_) (fun hc0 => ?_)
 ·have hf1 := of_decide_eq_true hc0
  have hil : i < ls.length := by omega
  have hx := z _ (getD_mem (l := ls) (k := i) dLk hil)
  have hxr := hx.r
  have hdn1 := turn_step (t := (Z8w d g w m p)) (ls := ls) hil
  have hkl := tuK_len (t := (Z8w d g w m p)) (x := (ls.getD i dLk)) (ls.getD i dLk).pieces.length
  refine awp_skip ?_
  refine awp_seq ?_
  refine awp_block ?_
  refine seqR ?_
  refine mG (.sl 7 0 ls.length) ?_
  refine mG (.i (i : Int)) ?_
  refine oG (aop_ixO (k := i) rfl rfl rfl ut41 sz58 rfl rfl hil ?_)
  refine oG (aop_ldOA (k := i) (f := eOw) (l := ow 8 ls) (cells' := (Z8x ls i)) dOw rfl rfl rfl ag58 sz58 rfl rfl rfl (fun _ => rfl) (by rw [ow_len]; exact hil) (by rw [ow_get hil, show 8 + i = i + 8 by omega]; rfl) ?_)
  refine oG (aop_alloc 2 rfl rfl rfl rfl ze58 rfl ?_)
  refine oG (qS sz58 ?_)
  refine op0 ?_
  have hi3 : ix [4, 1, 2, i + 8] (i + 8) = 3 := ix_of (i := 3) (by simp) rfl
  refine awp_sub [4, 1, 2, i + 8] [(Z8v g d), ⟨enc eLk (turnL (Z8w d g w m p) (ls.take i)), 58, 4⟩, ⟨(Z8y ls i), 58, 1⟩, pcO_ 5 (ls.getD i dLk)] 12 (fun u => (upd (upd (upd (upd (upd (Z8z w m p) 5 (.pt 0 0)) 11 (.sl 1 0 (turnL (Z8w d g w m p) (ls.take i)).length)) 12 (.v u)) 13 (.i (i : Int))) 14 (.pt 2 0))) (fun u s => (tuB (Z8w d g w m p) (ls.getD i dLk) = true ∧ s = ⟨(upd (upd (upd (upd (Z8z w m p) 5 (.pt 0 0)) 11 (.sl 4 0 ((turnL (Z8w d g w m p) (ls.take i)).length + 1))) 12 (.v u)) 13 (.i (i : Int))), (updO (updO (updO (updO (updO noOb 0 (.live (Z8v g d))) 1 .dead) 2 .dead) 3 (.live ⟨enc eU8 (tuK (Z8w d g w m p) (ls.getD i dLk) (ls.getD i dLk).pieces.length).1, 5, 1⟩)) 4 (.live ⟨enc eLk (turnL (Z8w d g w m p) (ls.take i)) ++ (Z8y ls i), 58, 4⟩))⟩) ∨ (tuB (Z8w d g w m p) (ls.getD i dLk) = false ∧ s = ⟨(upd (upd (upd (upd (Z8z w m p) 5 (.pt 0 0)) 11 (.sl 1 0 (turnL (Z8w d g w m p) (ls.take i)).length)) 12 (.v u)) 13 (.i (i : Int))), (updO (updO (updO (updO noOb 0 (.live (Z8v g d))) 1 (.live ⟨enc eLk (turnL (Z8w d g w m p) (ls.take i)), 58, 4⟩)) 2 .dead) 3 (.live ⟨enc eU8 (tuK (Z8w d g w m p) (ls.getD i dLk) (ls.getD i dLk).pieces.length).1, 5, 1⟩))⟩)) (blt_lt rfl) (fun u => rfl) (by simp) rfl (fun j id hj => ?_) (fun u => su_upd (.pt _ _ (by simp)) rfl (su_no rfl (su_skip (ru_upd (.sl _ _ _ (by simp)) rfl (ru_upd (.pt _ _ (by simp)) rfl (ru_no rfl (ru_no rfl (ru_no rfl ru_none)))))))) (fun u w0 G C hL hLG => ?_) (fun u s hp => ?_)
  ·match j, hj with
   | 0, hj => cases hj; exact ⟨(Z8v g d), rfl, congrArg some (om_ lm_no).symm, oks_no⟩
   | 1, hj => cases hj; exact ⟨⟨enc eLk (turnL (Z8w d g w m p) (ls.take i)), 58, 4⟩, rfl, congrArg some (om_ lm_no).symm, oks_no⟩
   | 2, hj =>
    cases hj
    refine ⟨⟨(Z8x ls i), 58, 1⟩, rfl, ?_, ?_⟩
    ·show some _ = some (LObj.mk [.i _, .i _, .i _, .sl (ix [4, 1, 2, i + 8] (i + 8)) 0 _] 58 1)
     rw [hi3]
    intro c hc
    simp only [List.mem_cons, List.not_mem_nil, or_false] at hc
    rcases hc with rfl | rfl | rfl | rfl
    ·exact .v _
    ·exact .v _
    ·exact .v _
    exact .sl _ _ _ (by simp)
   | 3, hj => cases hj; exact ⟨pcO_ 5 (ls.getD i dLk), (tuOb_hi (rows := rowT 5 ls i) (b4 := (Z8v g d)) (b7 := ⟨enc eOw (ow 8 ls), 58, 4⟩) (out := ⟨enc eLk (turnL (Z8w d g w m p) (ls.take i)), 58, 4⟩)).trans (rowT_at hil), congrArg some pcO_map.symm, pcO_ok⟩
   | j + 4, hj => simp at hj
  ·refine AWP.mono (r15_TurnIn d g w m p (ls.getD i dLk) (turnL (Z8w d g w m p) (ls.take i)) u i hro hpa hpl hst how hx (hrs _ (getD_mem (l := d) (k := (ls.getD i dLk).route.toNat) [] om)) hpo om w0 G C hL hLG) (fun e s h => ?_)
   cases e with
   | normal =>
    rcases h with ⟨h1, h2⟩ | ⟨h1, h2⟩
    ·exact ⟨_, h2, .inl ⟨h1, rfl⟩⟩
    exact ⟨_, h2, .inr ⟨h1, rfl⟩⟩
   | _ => exact h.elim
  rcases hp with ⟨htb, rfl⟩ | ⟨htb, rfl⟩
  ·rw [htb, if_pos rfl] at hdn1
   refine ⟨rfl, [.live (Z8v g d), .dead, .dead, .live ⟨enc eU8 (tuK (Z8w d g w m p) (ls.getD i dLk) (ls.getD i dLk).pieces.length).1, 5, 1⟩, .live ⟨enc eLk (turnL (Z8w d g w m p) (ls.take i)) ++ (Z8y ls i), 58, 4⟩], [3], rfl, by simp, rfl, (fun id hid => by rw [List.mem_singleton.1 hid]; rfl), ?_⟩
   have hro_ : LObj.map (nm [4, 1, 2, i + 8, 3]) ⟨enc eU8 (tuK (Z8w d g w m p) (ls.getD i dLk) (ls.getD i dLk).pieces.length).1, 5, 1⟩ = ⟨enc eU8 (tuK (Z8w d g w m p) (ls.getD i dLk) (ls.getD i dLk).pieces.length).1, 5, 1⟩ := om_ lm_no
   have hout : LObj.map (nm [4, 1, 2, i + 8, 3]) ⟨enc eLk (turnL (Z8w d g w m p) (ls.take i)) ++ (Z8y ls i), 58, 4⟩ = ⟨enc eLk (turnL (Z8w d g w m p) (ls.take i)) ++ (Z8x ls i), 58, 4⟩ := om_ (by rw [mapL_append, lm_no]; rfl)
   refine awp_imp ⟨(upd (upd (upd (upd (Z8z w m p) 5 (.pt 4 0)) 11 (.sl 1 0 (turnL (Z8w d g w m p) (ls.take (i + 1))).length)) 12 (.sl 7 0 ls.length)) 13 (.i (i : Int))), tuOb (rowT 5 ls (i + 1)) (Z8v g d) ⟨enc eOw (ow 8 ls), 58, 4⟩ ⟨enc eLk (turnL (Z8w d g w m p) (ls.take (i + 1))), 58, 4⟩⟩ ?_ ?_
   ·refine (tu_ren (e1 := (upd (upd (upd (upd (Z8z w m p) 5 (.pt 4 0)) 11 (.sl 1 0 ((turnL (Z8w d g w m p) (ls.take i)).length + 1))) 12 (.sl 7 0 ls.length)) 13 (.i (i : Int)))) (rows := rowX 5 ls i ⟨enc eU8 (tuK (Z8w d g w m p) (ls.getD i dLk) (ls.getD i dLk).pieces.length).1, 5, 1⟩) (b4 := (Z8v g d)) (b7 := ⟨enc eOw (ow 8 ls), 58, 4⟩) (out := ⟨enc eLk (turnL (Z8w d g w m p) (ls.take i)) ++ (Z8x ls i), 58, 4⟩) 3 (.inr rfl) rfl (congrArg OSt.live (om_ lm_no)) rfl (congrArg OSt.live hout) (fun j => ?_) (fun c hc => NoIL.out c hc) (ow_ok (fun i h1 h2 => h1)) ?_ ?_ ?_).trans (tu_frz hil rfl (fun _ h => h) ?_ ⟨rfl, rfl, ?_, ?_⟩)
    ·refine Eq.trans ?_ (tu_rows (b4 := (Z8v g d)) (b7 := ⟨enc eOw (ow 8 ls), 58, 4⟩) (out := ⟨enc eLk (turnL (Z8w d g w m p) (ls.take i)), 58, 4⟩) hil j)
     show updO (tuOb (rowT 5 ls i) (Z8v g d) ⟨enc eOw (ow 8 ls), 58, 4⟩ ⟨enc eLk (turnL (Z8w d g w m p) (ls.take i)), 58, 4⟩) (i + 8) (.live (LObj.map (nm [4, 1, 2, i + 8, 3]) ⟨enc eU8 (tuK (Z8w d g w m p) (ls.getD i dLk) (ls.getD i dLk).pieces.length).1, 5, 1⟩)) (j + 8) = _
     rw [hro_]
    ·intro c hc
     rcases List.mem_append.1 hc with hc | hc
     ·exact (NoIL.out c hc).mono (fun _ h => h.elim) id
     simp only [List.mem_cons, List.not_mem_nil, or_false] at hc
     rcases hc with rfl | rfl | rfl | rfl
     ·exact .v _
     ·exact .v _
     ·exact .v _
     exact .sl _ _ _ (by show 8 ≤ i + 8; omega)
    ·exact fun j o h => rowX_no (r := ⟨enc eU8 (tuK (Z8w d g w m p) (ls.getD i dLk) (ls.getD i dLk).pieces.length).1, 5, 1⟩) NoIL.out h
    ·exact ru_no rfl (ru_upd (.sl _ _ _ (.inr (.inr (.inl rfl)))) rfl (ru_upd (.sl _ _ _ (.inl rfl)) rfl (ru_upd (.pt _ _ (.inr (.inl rfl))) rfl (ru_no (am_no (a := .q eI p)) (ru_no (am_no (a := .q eU8 m)) (ru_no rfl ru_none))))))
    ·exact fz_same 13 _ rfl (fz_same 12 _ rfl (fz_same 11 _ (by show AV.sl 1 0 ((turnL (Z8w d g w m p) (ls.take i)).length + 1) = AV.sl 1 0 (turnL (Z8w d g w m p) (ls.take (i + 1))).length; rw [hdn1, List.length_append]; rfl) (fz_same 5 _ rfl (fz_same 4 _ rfl (fz_same 3 _ rfl (fz_same 2 _ rfl fz_none))))))
    ·show (enc eLk (turnL (Z8w d g w m p) (ls.take (i + 1)))).length = (enc eLk (turnL (Z8w d g w m p) (ls.take i)) ++ ((Z8x ls i) : List AV)).length
     rw [hdn1, enc_snoc, List.length_append, List.length_append]; rfl
    show ∀ (j : Nat) (a b : AV), (enc eLk (turnL (Z8w d g w m p) (ls.take i)) ++ ((Z8x ls i) : List AV))[j]? = some a → (enc eLk (turnL (Z8w d g w m p) (ls.take (i + 1))))[j]? = some b → _
    rw [hdn1, enc_snoc]
    refine frzs_app (frzs_cons (.inl rfl) (frzs_cons (.inl rfl) (frzs_cons (.inl rfl) (frzs_cons (.inr ?_) frzs_nil))))
    show Lend _ _ (.ro (tuK (Z8w d g w m p) (ls.getD i dLk) (ls.getD i dLk).pieces.length).1.length (enc eU8 (tuK (Z8w d g w m p) (ls.getD i dLk) (ls.getD i dLk).pieces.length).1))
    rw [hkl]
    exact lend_s (o := ⟨enc eU8 (tuK (Z8w d g w m p) (ls.getD i dLk) (ls.getD i dLk).pieces.length).1, 5, 1⟩) (updO_same _ _ _) (enc_len (fun _ => rfl) hkl.symm)
   refine regR ?_
   refine mG (.i (i : Int)) ?_
   refine oG (qB (.int .i64 ((i + 1 : Nat) : Int)) (addN om) ?_)
   refine mG (.i ((i + 1 : Nat) : Int)) ?_
   refine op0 ?_
   show _ ∧ _
   exact ⟨hil, imp_le ⟨lu rfl (lu rfl (lu rfl (lu rfl (lu rfl (lu rfl (lu rfl ln)))))), fun id => .inl rfl⟩⟩
  rw [htb, if_neg Bool.false_ne_true] at hdn1
  refine ⟨rfl, [.live (Z8v g d), .live ⟨enc eLk (turnL (Z8w d g w m p) (ls.take i)), 58, 4⟩, .dead, .live ⟨enc eU8 (tuK (Z8w d g w m p) (ls.getD i dLk) (ls.getD i dLk).pieces.length).1, 5, 1⟩], [], rfl, by simp, rfl, (fun id hid => by cases hid), ?_⟩
  have hro_ : LObj.map (nm [4, 1, 2, i + 8]) ⟨enc eU8 (tuK (Z8w d g w m p) (ls.getD i dLk) (ls.getD i dLk).pieces.length).1, 5, 1⟩ = ⟨enc eU8 (tuK (Z8w d g w m p) (ls.getD i dLk) (ls.getD i dLk).pieces.length).1, 5, 1⟩ := om_ lm_no
  refine awp_imp ⟨(upd (upd (upd (upd (Z8z w m p) 5 (.pt 4 0)) 11 (.sl 1 0 (turnL (Z8w d g w m p) (ls.take (i + 1))).length)) 12 (.sl 7 0 ls.length)) 13 (.i (i : Int))), tuOb (rowT 5 ls (i + 1)) (Z8v g d) ⟨enc eOw (ow 8 ls), 58, 4⟩ ⟨enc eLk (turnL (Z8w d g w m p) (ls.take (i + 1))), 58, 4⟩⟩ ?_ ?_
  ·rw [hdn1]
   refine (tu_ren (e1 := (upd (upd (upd (upd (Z8z w m p) 5 (.pt 4 0)) 11 (.sl 1 0 (turnL (Z8w d g w m p) (ls.take i)).length)) 12 (.sl 7 0 ls.length)) 13 (.i (i : Int)))) (rows := rowX 5 ls i ⟨enc eU8 (tuK (Z8w d g w m p) (ls.getD i dLk) (ls.getD i dLk).pieces.length).1, 5, 1⟩) (b4 := (Z8v g d)) (b7 := ⟨enc eOw (ow 8 ls), 58, 4⟩) (out := ⟨enc eLk (turnL (Z8w d g w m p) (ls.take i)), 58, 4⟩) 1 (.inl rfl) rfl (congrArg OSt.live (om_ lm_no)) rfl (congrArg OSt.live (om_ lm_no)) (fun j => ?_) (fun c hc => NoIL.out c hc) (ow_ok (fun i h1 h2 => h1)) (fun c hc => (NoIL.out c hc).mono (fun _ h => h.elim) id) ?_ ?_).trans (tu_frz hil rfl (fun _ h => h) ?_ ⟨rfl, rfl, rfl, fun j a b h1 h2 => .inl (by rw [h1] at h2; cases h2; rfl)⟩)
   ·refine Eq.trans ?_ (tu_rows (b4 := (Z8v g d)) (b7 := ⟨enc eOw (ow 8 ls), 58, 4⟩) (out := ⟨enc eLk (turnL (Z8w d g w m p) (ls.take i)), 58, 4⟩) hil j)
    show updO (tuOb (rowT 5 ls i) (Z8v g d) ⟨enc eOw (ow 8 ls), 58, 4⟩ ⟨enc eLk (turnL (Z8w d g w m p) (ls.take i)), 58, 4⟩) (i + 8) (.live (LObj.map (nm [4, 1, 2, i + 8]) ⟨enc eU8 (tuK (Z8w d g w m p) (ls.getD i dLk) (ls.getD i dLk).pieces.length).1, 5, 1⟩)) (j + 8) = _
    rw [hro_]
   ·exact fun j o h => rowX_no (r := ⟨enc eU8 (tuK (Z8w d g w m p) (ls.getD i dLk) (ls.getD i dLk).pieces.length).1, 5, 1⟩) NoIL.out h
   ·exact ru_no rfl (ru_upd (.sl _ _ _ (.inr (.inr (.inl rfl)))) rfl (ru_upd (.sl _ _ _ (.inl rfl)) rfl (ru_upd (.pt _ _ (.inr (.inl rfl))) rfl (ru_no (am_no (a := .q eI p)) (ru_no (am_no (a := .q eU8 m)) (ru_no rfl ru_none))))))
   exact fz_same 13 _ rfl (fz_same 12 _ rfl (fz_same 11 _ rfl (fz_same 5 _ rfl (fz_same 4 _ rfl (fz_same 3 _ rfl (fz_same 2 _ rfl fz_none))))))
  refine regR ?_
  refine mG (.i (i : Int)) ?_
  refine oG (qB (.int .i64 ((i + 1 : Nat) : Int)) (addN om) ?_)
  refine mG (.i ((i + 1 : Nat) : Int)) ?_
  refine op0 ?_
  show _ ∧ _
  exact ⟨hil, imp_le ⟨lu rfl (lu rfl (lu rfl (lu rfl (lu rfl (lu rfl (lu rfl ln)))))), fun id => .inl rfl⟩⟩
 have hf2 := of_decide_eq_false hc0
 have he : ls.take i = ls := List.take_of_length_le om
 refine awp_exit ?_
 refine seqR ?_
 refine mG (.sl 1 0 (turnL (Z8w d g w m p) (ls.take i)).length) ?_
 refine mG (.sl 1 0 (turnL (Z8w d g w m p) (ls.take i)).length) ?_
 refine op0 ?_
 refine awp_imp _ (imp_frozen rfl (fun _ h => h) (lee_lend 10 (.q eLk (turnL (Z8w d g w m p) (ls.take i))) (lend_s (id := 1) (n := (turnL (Z8w d g w m p) (ls.take i)).length) (o := ⟨(enc eLk (turnL (Z8w d g w m p) (ls.take i))), 58, 4⟩) rfl (enc_len (fun _ => rfl) rfl)) lee_lend0)) ?_
 refine awp_ret ?_
 exact fret (av := .q eLk (turnL (Z8w d g w m p) (ls.take i))) rfl rfl (by rw [he])

theorem ag30 : aggT Try.prog 30 = some true := by kernel_rfl
theorem bd19 : bodied Try.prog 19 = true := by kernel_rfl
theorem bd20 : bodied Try.prog 20 = true := by kernel_rfl
theorem bd26 : bodied Try.prog 26 = true := by kernel_rfl
theorem bd28 : bodied Try.prog 28 = true := by kernel_rfl
theorem bd29 : bodied Try.prog 29 = true := by kernel_rfl
theorem ft30_0 : fieldT Try.prog 30 0 = some (5, 0) := by kernel_rfl
theorem ft30_1 : fieldT Try.prog 30 1 = some (5, 1) := by kernel_rfl
theorem ft30_2 : fieldT Try.prog 30 2 = some (5, 2) := by kernel_rfl
theorem ft30_7 : fieldT Try.prog 30 7 = some (5, 7) := by kernel_rfl
theorem in63 : (Try.prog.info? 63).map (fun i => (i.zero, i.size, i.bytes)) = some (some (.agg #[(.int .i64 0), (.bool false), (.slice none 0 0)]), 3, 40) := by kernel_rfl
theorem in69 : (Try.prog.info? 69).map (fun i => (i.zero, i.size, i.bytes)) = some (some (.agg #[(.int .i64 0), (.bool false), (.slice none 0 0)]), 3, 40) := by kernel_rfl
theorem iz69 : (Try.prog.info? 69).map (fun i => (i.zero, i.size)) = some (some (.agg #[(.int .i64 0), (.bool false), (.slice none 0 0)]), 3) := by kernel_rfl
theorem ze30 : (Try.prog.info? 30).bind (·.zero) = some (.agg #[(.int .u8 0), (.int .u8 0), (.int .u8 0), (.slice none 0 0), (.slice none 0 0), (.slice none 0 0), (.slice none 0 0), (.int .u8 0)]) := by kernel_rfl
abbrev Z99 (a : List Sec) (x : Act) (k : Nat) : AV := (.q eI (vwS a.length x k x.sp.length))
abbrev Z97 : Nat → AV := (upd (upd (upd (upd none_ 2 (.pt 5 0)) 3 (.pt 6 0)) 4 vN) 5 vN)
abbrev Z96 (a : List Sec) (x : Act) (k : Nat) : List AV := (enc eV (vwL a.length x k))
abbrev Z95 (a : List Sec) : List AV := [.one, .q eSec a, .one, .one, .one, .one, .one, .one, .one, .one]
abbrev Z93 (k : Nat) (x : Act) (a : List Sec) : View := (⟨(k : Int), (((x.tk.fdiv (2 ^ k)) % 2) == 0), vwS a.length x k x.sp.length⟩ : View)
abbrev Z92 (a : List Sec) (x : Act) (k : Nat) : Nat → AV := (upd (upd (upd Z97 6 (.sl 1 0 ((vwL a.length x k).length))) 7 (.sl 2 0 ((vwL a.length x k).length))) 8 (.i (k : Int)))
abbrev Z91 (x : Act) : List AV := [.v (.int .u8 x.dw), .v (.int .u8 x.n), .v (.int .u8 x.tr), .q eU8 x.sts, .q eU8 x.ow, .q eB x.rt, .q eU8 x.sp, .v (.int .u8 x.tk)]
abbrev Z90 (a : List Sec) (x : Act) (k : Nat) : Nat → OSt := (updO (updO (updO (updO noOb 1 (.live ⟨(Z96 a x k), 63, 3⟩)) 2 (.live ⟨(Z96 a x k), 69, 3⟩)) 5 (.live ⟨(Z95 a), 39, 1⟩)) 6 (.live ⟨(Z91 x), 30, 1⟩))
abbrev Z9a (a : List Sec) (x : Act) (k : Nat) : Nat → OSt := (updO (updO (Z90 a x k) 1 .dead) 57 (.live ⟨(enc eV ((vwL a.length x k) ++ [(Z93 k x a)])), 63, 3⟩))
abbrev Z98 (a : List Sec) (x : Act) (k j : Nat) : Nat → AV := (upd (upd (Z92 a x k) 9 (.sl 3 0 ((vwS a.length x k j).length))) 10 (.i (j : Int)))
abbrev Z94 (a : List Sec) (x : Act) (k j : Nat) : Nat → OSt := (updO (updO (updO (updO (updO noOb 1 (.live ⟨(Z96 a x k), 63, 3⟩)) 2 (.live ⟨(Z96 a x k), 69, 3⟩)) 3 (.live ⟨(enc eI (vwS a.length x k j)), 3, 1⟩)) 5 (.live ⟨(Z95 a), 39, 1⟩)) 6 (.live ⟨(Z91 x), 30, 1⟩))
theorem l16_views (a : List Sec) (x : Act) (hs : a.length ≤ 65536) (h1 : 1 ≤ a.length) (hx : ActOk x) (hsp : x.sp.length ≤ 65536) : Fn Try.prog 15 [.agg [.one, .ro a.length (enc eSec a), .one, .one, .one, .one, .one, .one, .one, .one], .agg [.v (.int .u8 x.dw), .v (.int .u8 x.n), .v (.int .u8 x.tr), .ro x.sts.length (enc eU8 x.sts), .ro x.ow.length (enc eU8 x.ow), .ro x.rt.length (enc eB x.rt), .ro x.sp.length (enc eU8 x.sp), .v (.int .u8 x.tk)]] (.tup [.ro ((vwL a.length x 3).length) (enc eV (vwL a.length x 3)), .ro ((vwL a.length x 3).length) (enc eV (vwL a.length x 3))]) := by
 have hx1 := hx.dw
 have hx2 := hx.n
 have hx3 := hx.tr
 have hx4 := hx.tk
 have hx5 := hx.l1
 have hx6 := hx.l2
 have hx7 := hx.l3
 have hx8 := hx.l4
 have hj := hx4
 refine fnE_of_body (N := 77) Try.func15 rfl rfl (resOf2 rfl) (by simp) (fun w0 X hL_ => ?_)
 refine seqR ?_
 refine oG (qW 51 ?_)
 refine oG (qW 52 ?_)
 refine mG vN ?_
 refine mG vN ?_
 refine rU (upd (upd (upd (upd none_ 2 (.pt 51 0)) 3 (.pt 52 0)) 4 vN) 5 vN) (updO (updO noOb 51 (.live ⟨(Z95 a), 39, 1⟩)) 52 (.live ⟨(Z91 x), 30, 1⟩)) ?_
 refine seqR ?_
 refine mG vN ?_
 refine op0 ?_
 refine seqR ?_
 refine mG vN ?_
 refine op0 ?_
 refine awp_seq ?_
 refine seqR ?_
 refine mG (.i 0) ?_
 refine op0 ?_
 refine awp_block ?_
 refine awp_countI (fun k => ⟨(Z92 a x k), (Z90 a x k)⟩) (fun k => True) (3) ?_ trivial (fun k hk_k hinv => ?_)
 ·skip
  refine (imp_adopt 6 53 63 3 rfl rfl).trans ?_
  refine (imp_adopt 7 54 69 3 rfl rfl).trans ?_
  exact iL [(53, 1), (54, 2), (51, 5), (52, 6)] [((53, 1), .live _), ((54, 2), .live _), ((51, 5), .live _), ((52, 6), .live _)] ⟨row_no (o := ⟨[], 63, 3⟩) rfl rfl, row_no (o := ⟨[], 69, 3⟩) rfl rfl, row_no rfl rfl, row_no rfl rfl, trivial⟩
 have hvl := vwL_len (n := a.length) (x := x) (k := k)
 refine awp_seq ?_
 refine seqR ?_
 refine mG (.i (k : Int)) ?_
 refine bG ((.bool (decide ((k : Int) < 3)))) ?_
 refine op0 ?_
 refine awp_cond (decide ((k : Int) < 3)) rfl rfl (fun hc0 => ?_) (fun hc0 => ?_)
 ·skip
  have hf1 := of_decide_eq_true hc0
  have hk3 : k < 3 := by omega
  refine awp_skip ?_
  refine awp_seq ?_
  refine awp_block ?_
  refine seqR ?_
  refine mG vN ?_
  refine op0 ?_
  refine awp_seq ?_
  refine seqR ?_
  refine mG (.i 0) ?_
  refine rU (upd (upd (Z92 a x k) 9 vN) 10 (.i 0)) (Z90 a x k) ?_
  refine awp_block ?_
  refine awp_countI (fun j => ⟨(Z98 a x k j), (Z94 a x k j)⟩) (fun j => True) (x.sp.length) ?_ trivial (fun j hk_j hinv => ?_)
  ·skip
   refine (imp_adopt 9 55 3 1 rfl rfl).trans ?_
   exact iL [(1, 1), (2, 2), (55, 3), (5, 5), (6, 6)] [((1, 1), .live _), ((2, 2), .live _), ((55, 3), .live _), ((5, 5), .live _), ((6, 6), .live _)] ⟨row_no rfl rfl, row_no rfl rfl, row_no (o := ⟨[], 3, 1⟩) rfl rfl, row_no rfl rfl, row_no rfl rfl, trivial⟩
  have hsl := vwS_len (n := a.length) (x := x) (id := k) (k := j)
  refine awp_seq ?_
  refine seqR ?_
  refine mG (.i (j : Int)) ?_
  refine fG (.pt 6 6) ft30_6 sz27 ?_
  refine oG (qL (.q eU8 x.sp) ag27 ?_)
  refine oG (qN ut27 ?_)
  refine bG ((.bool (decide ((j : Int) < (x.sp.length : Int))))) ?_
  refine rU (upd (Z98 a x k j) 19 (.b (decide ((j : Int) < (x.sp.length : Int))))) (Z94 a x k j) ?_
  refine awp_cond (decide ((j : Int) < (x.sp.length : Int))) rfl rfl (fun hc1 => ?_) (fun hc1 => ?_)
  ·skip
   have hf2 := of_decide_eq_true hc1
   have hsb := hx.sp _ (getD_mem (l := x.sp) (k := j) 0 om)
   refine awp_skip ?_
   refine awp_seq ?_
   refine awp_block ?_
   refine seqR ?_
   refine fG (.pt 6 6) ft30_6 sz27 ?_
   refine oG (qL (.q eU8 x.sp) ag27 ?_)
   refine mG (.i (j : Int)) ?_
   refine oG (qX (0 : Int) ut27 sz5 ?_)
   refine oG (qL (.v (.int .u8 (x.sp.getD j 0))) ag5 ?_)
   refine oG (aop_binI (u := (.int .u8 ((x.sp.getD j 0) / 64))) rfl rfl rfl rfl rfl (by show _ ≠ _; decide) (quoU8 om) ?_)
   refine oG (aop_conv' rfl rfl rfl ut5 ut3 rfl (IntWalk.i64_in _ om) ?_)
   refine oG (aop_binI (u := (.int .i64 (((x.sp.getD j 0) / 64) % 3))) rfl rfl rfl rfl rfl (by show _ ≠ _; decide) (remI om) ?_)
   refine mG (.i (k : Int)) ?_
   refine bG ((.bool ((((x.sp.getD j 0) / 64) % 3) == (k : Int)))) ?_
   refine mG (.b ((((x.sp.getD j 0) / 64) % 3) == (k : Int))) ?_
   refine aops_grp 5 37 (.b (((((x.sp.getD j 0) / 64) % 3) == (k : Int)) || ((x.dw % 2) == 0))) ?_ ?_
   ·refine (Bool.eq_false_or_eq_true ((((x.sp.getD j 0) / 64) % 3) == (k : Int))).elim (fun hg3 => ?_) (fun hg3 => ?_)
    ·skip
     have hf4 := (beq_iff_eq).1 hg3
     refine nG hg3 ?_
     refine nG hg3 ?_
     refine nG hg3 ?_
     refine nG hg3 ?_
     refine oG (qP ((((x.sp.getD j 0) / 64) % 3) == (k : Int)) (.b true) hg3 ?_)
     refine op0 ?_
     exact imp_env (lee_both 37 _ _ (by rw [hg3] <;> rfl) lO)
    have hf5 := (beq_eq_false_iff_ne).1 hg3
    refine oY hg3 (qF (.pt 6 0) (.pt 6 0) ft30_0 sz5 ?_)
    refine oY hg3 (qL (.v (.int .u8 x.dw)) ag5 ?_)
    refine oY hg3 (aop_binI (u := (.int .u8 (x.dw % 2))) rfl rfl rfl rfl rfl (by show _ ≠ _; decide) (remI om) ?_)
    refine oY hg3 (qB (.bool ((x.dw % 2) == 0)) rfl ?_)
    refine oG (qP ((((x.sp.getD j 0) / 64) % 3) == (k : Int)) (.b ((x.dw % 2) == 0)) hg3 ?_)
    refine op0 ?_
    exact imp_env (lee_both 37 _ _ (by rw [hg3] <;> rfl) lO)
   refine op0 ?_
   refine rT (upd (Z98 a x k j) 37 (.b (((((x.sp.getD j 0) / 64) % 3) == (k : Int)) || ((x.dw % 2) == 0)))) (Z94 a x k j) ?_
   refine awp_cond (((((x.sp.getD j 0) / 64) % 3) == (k : Int)) || ((x.dw % 2) == 0)) rfl rfl (fun hc2 => ?_) (fun hc2 => ?_)
   ·skip
    refine aD 12 [(49, .ro 1 [.i ((x.sp.getD j 0) % (a.length : Int))]), (48, .i ((x.sp.getD j 0) % (a.length : Int))), (47, .i (a.length : Int)), (46, .q eSec a), (45, .pt 5 1), (44, .i (x.sp.getD j 0)), (43, .v (.int .u8 (x.sp.getD j 0))), (42, .rp (([.v (.int .u8 (x.sp.getD j 0))] : List AV) ++ ((enc eU8 x.sp).drop ((j + 1) * 1)))), (41, .i (j : Int)), (40, .q eU8 x.sp), (39, .pt 6 6), (38, .sl 3 0 ((vwS a.length x k j).length))] mixed ?_ ?_
    ·refine ⟨?_, ?_, ?_, ?_, ?_, ?_, ?_, ?_, ?_, ?_, ?_, ?_, trivial⟩
     ·exact sMv
     ·exact sF (.pt 6 0) (.pt 6 6) ft30_6 sz27
     ·exact sL ag27
     ·exact sMv
     ·exact (sIx (0 : Int) ut27 sz5)
     ·exact (sLd ag5)
     ·exact dW 44 fun st hob hE => aop_conv' rfl rfl rfl ut5 ut3 (hE 43 rfl) (IntWalk.i64_in _ om) (by rw [hob]; rfl)
     ·exact sF (.pt 5 0) (.pt 5 1) ft39_1 sz35
     ·exact sL ag35
     ·exact dW 47 fun st hob hE => aop_len rfl rfl rfl rfl ut35 (len_ro (hE 46 rfl)) (by rw [hob]; rfl)
     ·exact dW 48 fun st hob hE => aop_binI (u := (.int .i64 ((x.sp.getD j 0) % (a.length : Int)))) rfl rfl rfl (hE 44 rfl) (hE 47 rfl) (by show _ ≠ _; omega) (remI om) (by rw [hob]; rfl)
     exact dW 49 fun st hob hE => aop_lit rfl rfl rfl ut48 iz3 (by decide) (by decide) (by simp only [partsA, List.map, evA, hE 48 rfl]; rfl) rfl (by rw [hob]; rfl)
    refine oG (aop_app1 (f := eI) (l := vwS a.length x k j) 56 ((x.sp.getD j 0) % (a.length : Int) : Int) rfl rfl rfl rfl ut48 in3 rfl (by decide) rfl rfl rfl rfl rfl rfl (fun _ => rfl) rfl rfl oo oo rfl ?_)
    refine mG (.sl 56 0 (((vwS a.length x k j) ++ [((x.sp.getD j 0) % (a.length : Int) : Int)]).length)) ?_
    refine op0 ?_
    refine regR ?_
    refine mG (.i (j : Int)) ?_
    refine oG (qB (.int .i64 ((j + 1 : Nat) : Int)) (addN om) ?_)
    refine mG (.i ((j + 1 : Nat) : Int)) ?_
    refine op0 ?_
    show _ ∧ _
    have hs_ := vwS_t (n := a.length) (x := x) (id := k) (k := j) om (show vwB x k (x.sp.getD j 0) = true from hc2)
    refine ⟨by omega, trivial, ?_⟩
    exact iL [(1, 1), (2, 2), (56, 3), (5, 5), (6, 6)] [((1, 1), .live _), ((2, 2), .live _), ((56, 3), .live _), ((5, 5), .live _), ((6, 6), .live _)] ⟨row_no rfl rfl, row_no rfl rfl, row_no (o := ⟨(enc eI ((vwS a.length x k j) ++ [((x.sp.getD j 0) % (a.length : Int) : Int)])), 3, 1⟩) rfl (by exact congrArg (fun l_ => LObj.mk (enc eI l_) 3 1) hs_), row_no rfl rfl, row_no rfl rfl, trivial⟩ (he := (sS rfl (sM (by exact congrArg (AV.sl 3 0) (congrArg List.length hs_.symm)) (sS rfl (sM rfl (sM rfl (sS rfl (sS rfl (sM rfl (sM rfl sr_none))))))))))
   obtain ⟨hf6a, hf6b⟩ := or_f hc2
   have hf7 := (beq_eq_false_iff_ne).1 hf6a
   have hf8 := (beq_eq_false_iff_ne).1 hf6b
   refine awp_skip ?_
   refine regR ?_
   refine mG (.i (j : Int)) ?_
   refine oG (qB (.int .i64 ((j + 1 : Nat) : Int)) (addN om) ?_)
   refine mG (.i ((j + 1 : Nat) : Int)) ?_
   refine op0 ?_
   show _ ∧ _
   have hs_ := vwS_f (n := a.length) (x := x) (id := k) (k := j) om (show vwB x k (x.sp.getD j 0) = false from hc2)
   refine ⟨by omega, trivial, ?_⟩
   exact iL [(1, 1), (2, 2), (3, 3), (5, 5), (6, 6)] [((1, 1), .live _), ((2, 2), .live _), ((3, 3), .live _), ((5, 5), .live _), ((6, 6), .live _)] ⟨row_no rfl rfl, row_no rfl rfl, row_no rfl (by exact congrArg (fun l_ => LObj.mk (enc eI l_) 3 1) hs_), row_no rfl rfl, row_no rfl rfl, trivial⟩ (he := (sS rfl (sM (by exact congrArg (AV.sl 3 0) (congrArg List.length hs_.symm)) (sS rfl (sM rfl (sM rfl (sS rfl (sS rfl (sM rfl (sM rfl sr_none))))))))))
  have hf9 := of_decide_eq_false hc1
  refine awp_exit ?_
  have hje : j = x.sp.length := by omega
  refine awp_imp ⟨(upd (upd (upd (Z92 a x k) 9 (Z99 a x k)) 10 (.i (j : Int))) 19 (.b (decide ((j : Int) < (x.sp.length : Int))))), (Z90 a x k)⟩ ?_ ?_
  ·skip
   refine (frz_ [5, 6, 1, 2] [(5, ⟨(Z95 a), 39, 1⟩), (6, ⟨(Z91 x), 30, 1⟩), (1, ⟨(Z96 a x k), 63, 3⟩), (2, ⟨(Z96 a x k), 69, 3⟩)] rfl (fun _ h => h) ⟨keep_cells (cs := (Z95 a)) (by simp) rfl rfl fzA, keep_cells (cs := (Z91 x)) (by simp) rfl rfl fzA, keep_same (by simp) rfl, keep_same (by simp) rfl, trivial⟩ (fz_same 19 (.b (decide ((j : Int) < (x.sp.length : Int)))) rfl (fz_same 10 (.i (j : Int)) rfl (fz_lend 9 (.q eI (vwS a.length x k j)) (lend_s (id := 3) (n := (vwS a.length x k j).length) (o := ⟨(enc eI (vwS a.length x k j)), 3, 1⟩) rfl (enc_len (fun _ => rfl) (by first | rfl | (simp; done)))) (fz_same 8 (.i (k : Int)) rfl (fz_same 7 (.sl 2 0 ((vwL a.length x k).length)) rfl (fz_same 6 (.sl 1 0 ((vwL a.length x k).length)) rfl (fz_same 5 vN rfl (fz_same 4 vN rfl (fz_same 3 (.pt 6 0) rfl (fz_same 2 (.pt 5 0) rfl fz_none))))))))))).trans ?_
   exact iL [(1, 1), (2, 2), (5, 5), (6, 6)] [((1, 1), .live _), ((2, 2), .live _), ((5, 5), .live _), ((6, 6), .live _)] ⟨row_no (o := ⟨(Z96 a x k), 63, 3⟩) rfl rfl, row_no (o := ⟨(Z96 a x k), 69, 3⟩) rfl rfl, row_no (o := ⟨(Z95 a), 39, 1⟩) rfl rfl, row_no (o := ⟨(Z91 x), 30, 1⟩) rfl rfl, trivial⟩ (he := (sS rfl (sS rfl (sS (by show AV.ro (vwS a.length x k j).length (enc eI (vwS a.length x k j)) = _; rw [hje]) (sS rfl (sM rfl (sM rfl (sS rfl (sS rfl (sM rfl (sM rfl sr_none)))))))))))
  refine seqR ?_
  refine mG (.sl 1 0 ((vwL a.length x k).length)) ?_
  refine mG (.i (k : Int)) ?_
  refine fG (.pt 6 7) ft30_7 sz5 ?_
  refine oG (qL (.v (.int .u8 x.tk)) ag5 ?_)
  refine mG (.i (k : Int)) ?_
  refine oG (aop_shr (n := k) rfl rfl rfl rfl rfl (by show _ ≤ 8; omega) ?_)
  refine oG (aop_binI (u := (.int .u8 ((x.tk.fdiv (2 ^ k)) % 2))) rfl rfl rfl rfl rfl (by show _ ≠ _; decide) (remFdiv hj _) ?_)
  refine bG ((.bool (((x.tk.fdiv (2 ^ k)) % 2) == 0))) ?_
  refine mG (Z99 a x k) ?_
  refine oG (qD pl63 ?_)
  refine oG (aop_lit rfl rfl rfl ut43 iz63 (by decide) (by decide) rfl rfl ?_)
  refine oG (aop_app1 (f := eV) (l := vwL a.length x k) 57 (Z93 k x a) rfl rfl rfl rfl ut43 in63 rfl (by decide) rfl rfl rfl rfl rfl rfl (fun _ => rfl) rfl rfl oo oo rfl ?_)
  refine mG (.sl 57 0 (((vwL a.length x k) ++ [(Z93 k x a)]).length)) ?_
  refine rU (upd (upd (upd (upd (upd Z97 6 (.sl 57 0 (((vwL a.length x k) ++ [(Z93 k x a)]).length))) 7 (.sl 2 0 ((vwL a.length x k).length))) 8 (.i (k : Int))) 9 (Z99 a x k)) 10 (.i (j : Int))) (Z9a a x k) ?_
  refine regR ?_
  refine mG (.sl 2 0 ((vwL a.length x k).length)) ?_
  refine mG (.i (k : Int)) ?_
  refine fG (.pt 6 7) ft30_7 sz5 ?_
  refine oG (qL (.v (.int .u8 x.tk)) ag5 ?_)
  refine mG (.i (k : Int)) ?_
  refine oG (aop_shr (n := k) rfl rfl rfl rfl rfl (by show _ ≤ 8; omega) ?_)
  refine oG (aop_binI (u := (.int .u8 ((x.tk.fdiv (2 ^ k)) % 2))) rfl rfl rfl rfl rfl (by show _ ≠ _; decide) (remFdiv hj _) ?_)
  refine bG ((.bool (((x.tk.fdiv (2 ^ k)) % 2) == 0))) ?_
  refine mG (Z99 a x k) ?_
  refine oG (qD pl69 ?_)
  refine oG (aop_lit rfl rfl rfl ut44 iz69 (by decide) (by decide) rfl rfl ?_)
  refine oG (aop_app1 (f := eV) (l := vwL a.length x k) 58 (Z93 k x a) rfl rfl rfl rfl ut44 in69 rfl (by decide) rfl rfl rfl rfl rfl rfl (fun _ => rfl) rfl rfl oo oo rfl ?_)
  refine mG (.sl 58 0 (((vwL a.length x k) ++ [(Z93 k x a)]).length)) ?_
  refine op0 ?_
  refine rT (upd (upd (upd (upd (upd Z97 6 (.sl 57 0 (((vwL a.length x k) ++ [(Z93 k x a)]).length))) 7 (.sl 58 0 (((vwL a.length x k) ++ [(Z93 k x a)]).length))) 8 (.i (k : Int))) 9 (Z99 a x k)) 10 (.i (j : Int))) (updO (updO (Z9a a x k) 2 .dead) 58 (.live ⟨(enc eV ((vwL a.length x k) ++ [(Z93 k x a)])), 69, 3⟩)) ?_
  refine regR ?_
  refine mG (.i (k : Int)) ?_
  refine oG (qB (.int .i64 ((k + 1 : Nat) : Int)) (addN om) ?_)
  refine mG (.i ((k + 1 : Nat) : Int)) ?_
  refine op0 ?_
  show _ ∧ _
  have hs_ := vwL_step (n := a.length) (x := x) (k := k)
  refine ⟨by omega, trivial, ?_⟩
  exact iL [(57, 1), (58, 2), (5, 5), (6, 6)] [((57, 1), .live _), ((58, 2), .live _), ((5, 5), .live _), ((6, 6), .live _)] ⟨row_no rfl (by exact congrArg (fun l_ => LObj.mk (enc eV l_) 63 3) hs_), row_no rfl (by exact congrArg (fun l_ => LObj.mk (enc eV l_) 69 3) hs_), row_no rfl rfl, row_no rfl rfl, trivial⟩ (he := (sS rfl (sM (by exact congrArg (AV.sl 2 0) (congrArg List.length hs_.symm)) (sM (by exact congrArg (AV.sl 1 0) (congrArg List.length hs_.symm)) (sS rfl (sS rfl (sM rfl (sM rfl sr_none))))))))
 have hf10 := of_decide_eq_false hc0
 have hk3 : k = 3 := by omega
 refine awp_exit ?_
 refine seqR ?_
 refine mG (.sl 1 0 ((vwL a.length x k).length)) ?_
 refine mG (.sl 2 0 ((vwL a.length x k).length)) ?_
 refine mG (.sl 1 0 ((vwL a.length x k).length)) ?_
 refine mG (.sl 2 0 ((vwL a.length x k).length)) ?_
 refine rU (upd (upd none_ 4 (.sl 1 0 ((vwL a.length x k).length))) 5 (.sl 2 0 ((vwL a.length x k).length))) (Z90 a x k) ?_
 refine awp_imp _ (imp_frozen rfl (fun _ h => h) (lee_lend 5 (.q eV (vwL a.length x k)) (lend_s (id := 2) (n := (vwL a.length x k).length) (o := ⟨(Z96 a x k), 69, 3⟩) rfl (enc_len (fun _ => rfl) (by first | rfl | (simp; done)))) (lee_lend 4 (.q eV (vwL a.length x k)) (lend_s (id := 1) (n := (vwL a.length x k).length) (o := ⟨(Z96 a x k), 63, 3⟩) rfl (enc_len (fun _ => rfl) (by first | rfl | (simp; done)))) lee_lend0))) ?_
 refine awp_ret ?_
 exact fret (av := .tup [.ro ((vwL a.length x k).length) (Z96 a x k), .ro ((vwL a.length x k).length) (Z96 a x k)]) rfl rfl (by rw [hk3])
abbrev Z9h (a : List Act) : Nat → AV := (upd (upd (upd (upd none_ 1 (.q eAc a)) 2 (.pt 51 0)) 4 vN) 5 vN)
abbrev Z9g (a : List Act) : Nat → AV := (upd (upd (upd none_ 1 (.q eAc a)) 2 (.pt 1 0)) 4 vN)
abbrev Z9d (d : List Sec) (e : List (List Int)) (g : List Pnt) (c : List (List Int)) (cn : Int) : Lo_ := (⟨d, e, g, c, cn⟩ : Lo_)
abbrev Z9c (d : List Sec) (e : List (List Int)) (g : List Pnt) (c : List (List Int)) (cn : Int) : List AV := [.one, .q eSec d, .q eIL e, .q ePnt g, .q eIL c, .one, .one, .one, .i cn, .one]
abbrev Z9b (a : List Act) (k : Nat) : List AV := [.v (.int .u8 ((a.getD k dAc).dw)), .v (.int .u8 ((a.getD k dAc).n)), .v (.int .u8 ((a.getD k dAc).tr)), .ro ((a.getD k dAc).sts.length) (enc eU8 ((a.getD k dAc).sts)), .ro ((a.getD k dAc).ow.length) (enc eU8 ((a.getD k dAc).ow)), .ro ((a.getD k dAc).rt.length) (enc eB ((a.getD k dAc).rt)), .ro ((a.getD k dAc).sp.length) (enc eU8 ((a.getD k dAc).sp)), .v (.int .u8 ((a.getD k dAc).tk))]
abbrev Z9f (a : List Act) (d : List Sec) (e : List (List Int)) (g : List Pnt) (c : List (List Int)) (cn : Int) (k : Nat) : Nat → AV := (upd (upd (upd (Z9g a) 5 (.q eLk (lkN (Z9d d e g c cn) a k))) 6 (.q eU8 (zerL (Z9d d e g c cn)))) 7 (.i (k : Int)))
abbrev Z9e (d : List Sec) (e : List (List Int)) (g : List Pnt) (c : List (List Int)) (cn : Int) (a : List Act) (k : Nat) : Nat → OSt := (updO (updO (updO noOb 1 (.live ⟨(Z9c d e g c cn), 39, 1⟩)) 53 (.live ⟨[.v (.int .u8 0), .v (.int .u8 0), .v (.int .u8 0), vN, vN, vN, vN, .v (.int .u8 0)], 30, 1⟩)) 53 (.live ⟨(Z9b a k), 30, 1⟩))
theorem l16_locks (d : List Sec) (e : List (List Int)) (g : List Pnt) (c : List (List Int)) (cn : Int) (a : List Act) (hL : LayOk d e g c) (hac : a.length ≤ 65536) (hxs : ∀ x, x ∈ a → ActOk x) : Fn Try.prog 14 [.agg [.one, .ro d.length (enc eSec d), .ro e.length (enc eIL e), .ro g.length (enc ePnt g), .ro c.length (enc eIL c), .one, .one, .one, .v (.int .i64 cn), .one], .ro a.length (enc eAc a)] (.ro ((lkN (⟨d, e, g, c, cn⟩ : Lo_) a a.length).length) (enc eLk (lkN (⟨d, e, g, c, cn⟩ : Lo_) a a.length))) := by
 have hl1 := hL.h1
 have hl2 := hL.hs
 have hl3 := hL.hp
 have hl4 := hL.hpa
 have hl5 := hL.hro
 have hzl : (zerL (Z9d d e g c cn)).length = d.length := List.length_replicate
 refine fnE_of_body (N := 71) Try.func14 rfl rfl (resOf1 rfl) (by simp) (fun w0 X hL_ => ?_)
 refine seqR ?_
 refine oG (qW 51 ?_)
 refine mG vN ?_
 refine op0 ?_
 refine seqR ?_
 refine mG vN ?_
 refine op0 ?_
 refine seqR ?_
 refine fG (.pt 51 1) ft39_1 sz35 ?_
 refine oG (qL (.q eSec d) ag35 ?_)
 refine oG (qN ut35 ?_)
 refine oG (aop_makeE (n := d.length) (f := eU8) 52 (0 : Int) rfl rfl rfl ut27 in5 rfl rfl rfl rfl om om rfl rfl ?_)
 refine mG (.sl 52 0 ((List.replicate d.length (0 : Int)).length)) ?_
 refine rU (upd (Z9h a) 6 (.sl 52 0 ((List.replicate d.length (0 : Int)).length))) (updO (updO noOb 51 (.live ⟨(Z9c d e g c cn), 39, 1⟩)) 52 (.live ⟨(enc eU8 (List.replicate d.length (0 : Int))), 5, 1⟩)) ?_
 refine awp_seq ?_
 refine awp_imp ⟨(upd (Z9h a) 6 (.q eU8 (zerL (Z9d d e g c cn)))), (updO noOb 51 (.live ⟨(Z9c d e g c cn), 39, 1⟩))⟩ ?_ ?_
 ·skip
  refine (frz_ [51] [(51, ⟨(Z9c d e g c cn), 39, 1⟩)] rfl (fun _ h => h) ⟨keep_cells (cs := (Z9c d e g c cn)) (by simp) rfl rfl fzA, trivial⟩ (fz_lend 6 (.q eU8 (List.replicate d.length (0 : Int))) (lend_s (id := 52) (n := (List.replicate d.length (0 : Int)).length) (o := ⟨(enc eU8 (List.replicate d.length (0 : Int))), 5, 1⟩) rfl (enc_len (fun _ => rfl) (by first | rfl | (simp; done)))) (fz_same 5 vN rfl (fz_same 4 vN rfl (fz_same 2 (.pt 51 0) rfl (fz_same 1 (.q eAc a) rfl fz_none)))))).trans ?_
  exact iI 51 51 (o := ⟨(Z9c d e g c cn), 39, 1⟩) rfl
 refine seqR ?_
 refine mG (.i 0) ?_
 refine op0 ?_
 refine awp_block ?_
 refine awp_countI (fun k => ⟨(Z9f a d e g c cn k), (updO noOb 1 (.live ⟨(Z9c d e g c cn), 39, 1⟩))⟩) (fun k => True) (a.length) ?_ trivial (fun k hk_k hinv => ?_)
 ·skip
  refine (frz_ [51] [(51, ⟨(Z9c d e g c cn), 39, 1⟩)] rfl (fun _ h => h) ⟨keep_cells (cs := (Z9c d e g c cn)) (by simp) rfl rfl fzA, trivial⟩ (fz_same 7 (.i 0) rfl (fz_same 6 (.q eU8 (zerL (Z9d d e g c cn))) rfl (fz_lend 5 (.ro 0 []) .nil (fz_same 4 vN rfl (fz_same 2 (.pt 51 0) rfl (fz_same 1 (.q eAc a) rfl fz_none))))))).trans ?_
  exact iI 51 1 (o := ⟨(Z9c d e g c cn), 39, 1⟩) rfl
 have hml := lkN_len (L := (Z9d d e g c cn)) (acts := a) k
 have hmr := lkN_R (acts := a) (L := (Z9d d e g c cn)) hL k
 refine awp_seq ?_
 refine seqR ?_
 refine mG (.i (k : Int)) ?_
 refine mG (.q eAc a) ?_
 refine oG (qN ut26 ?_)
 refine bG ((.bool (decide ((k : Int) < (a.length : Int))))) ?_
 refine rU (upd (Z9f a d e g c cn k) 17 (.b (decide ((k : Int) < (a.length : Int))))) (updO noOb 1 (.live ⟨(Z9c d e g c cn), 39, 1⟩)) ?_
 refine awp_cond (decide ((k : Int) < (a.length : Int))) rfl rfl (fun hc0 => ?_) (fun hc0 => ?_)
 ·skip
  have hf1 := of_decide_eq_true hc0
  have hx := hxs _ (getD_mem (l := a) (k := k) dAc om)
  have hx1 := hx.dw
  have hx2 := hx.n
  have hx3 := hx.tr
  refine awp_skip ?_
  refine awp_seq ?_
  refine awp_block ?_
  refine seqR ?_
  refine mG (.q eAc a) ?_
  refine mG (.i (k : Int)) ?_
  refine oG (qX dAc ut26 sz30 ?_)
  refine oG (qLB (Z9b a k) ag30 sz30 ?_)
  refine oG (aop_alloc 53 rfl rfl rfl rfl ze30 rfl ?_)
  refine oG (qS sz30 ?_)
  refine rU (upd (Z9f a d e g c cn k) 8 (.pt 53 0)) (Z9e d e g c cn a k) ?_
  refine seqR ?_
  refine fG (.pt 53 1) ft30_1 sz5 ?_
  refine oG (qL (.v (.int .u8 ((a.getD k dAc).n))) ag5 ?_)
  refine oG (aop_conv' rfl rfl rfl ut5 ut3 rfl (IntWalk.i64_in _ om) ?_)
  refine fG (.pt 1 4) ft39_4 sz36 ?_
  refine oG (qL (.q eIL c) ag36 ?_)
  refine oG (qN ut36 ?_)
  refine oG (qB (.int .i64 ((c.length + 1 : Nat) : Int)) (addN om) ?_)
  refine oG (aop_binI (u := (.int .i64 (((a.getD k dAc).n) % ((c.length + 1 : Nat) : Int)))) rfl rfl rfl rfl rfl (by show _ ≠ _; omega) (remI om) ?_)
  refine mG (.i (((a.getD k dAc).n) % ((c.length + 1 : Nat) : Int))) ?_
  refine rU (upd (upd (Z9f a d e g c cn k) 8 (.pt 53 0)) 9 (.i (((a.getD k dAc).n) % ((c.length + 1 : Nat) : Int)))) (Z9e d e g c cn a k) ?_
  refine seqR ?_
  refine fG (.pt 53 0) ft30_0 sz5 ?_
  refine oG (qL (.v (.int .u8 ((a.getD k dAc).dw))) ag5 ?_)
  refine oG (aop_binI (u := (.int .u8 (((a.getD k dAc).dw) % 8))) rfl rfl rfl rfl rfl (by show _ ≠ _; decide) (remI om) ?_)
  refine op0 ?_
  refine awp_block ?_
  refine seqR ?_
  refine bG ((.bool ((((a.getD k dAc).dw) % 8) == 0))) ?_
  refine mG (.b ((((a.getD k dAc).dw) % 8) == 0)) ?_
  refine rU (upd (upd (upd (upd (Z9f a d e g c cn k) 8 (.pt 53 0)) 9 (.i (((a.getD k dAc).n) % ((c.length + 1 : Nat) : Int)))) 34 (.v (.int .u8 (((a.getD k dAc).dw) % 8)))) 48 (.b ((((a.getD k dAc).dw) % 8) == 0))) (Z9e d e g c cn a k) ?_
  refine awp_cond ((((a.getD k dAc).dw) % 8) == 0) rfl rfl (fun hc1 => ?_) (fun hc1 => ?_)
  ·skip
   have hf2 := (beq_iff_eq).1 hc1
   have hd0 : (a.getD k dAc).dw % 8 = 0 := by simpa using hc1
   refine regR ?_
   refine oG (qLB (Z9c d e g c cn) ag39 sz39 ?_)
   refine mG (.q eLk (lkN (Z9d d e g c cn) a k)) ?_
   refine mG (.i (((a.getD k dAc).n) % ((c.length + 1 : Nat) : Int))) ?_
   refine mG (.i (k : Int)) ?_
   refine oG (qC (r15_Cancel c (lkN (Z9d d e g c cn) a k) (actN (Z9d d e g c cn) (a.getD k dAc)) (k : Int) cn om om hmr) bd28 ?_)
   refine mG (.tup [.q eLk (canL c (lkN (Z9d d e g c cn) a k) (((a.getD k dAc).n) % ((c.length + 1 : Nat) : Int)) (IntKind.i64.wrap ((k : Int) + cn))), .i (canE c (lkN (Z9d d e g c cn) a k) (((a.getD k dAc).n) % ((c.length + 1 : Nat) : Int)))]) ?_
   refine oG (qE ?_)
   refine oG (qE ?_)
   refine mG (.q eLk (canL c (lkN (Z9d d e g c cn) a k) (((a.getD k dAc).n) % ((c.length + 1 : Nat) : Int)) (IntKind.i64.wrap ((k : Int) + cn)))) ?_
   refine op0 ?_
   refine rT (upd (upd (upd (upd (upd (upd (upd (Z9g a) 5 (.q eLk (canL c (lkN (Z9d d e g c cn) a k) (((a.getD k dAc).n) % ((c.length + 1 : Nat) : Int)) (IntKind.i64.wrap ((k : Int) + cn))))) 6 (.q eU8 (zerL (Z9d d e g c cn)))) 7 (.i (k : Int))) 8 (.pt 53 0)) 9 (.i (((a.getD k dAc).n) % ((c.length + 1 : Nat) : Int)))) 34 (.v (.int .u8 (((a.getD k dAc).dw) % 8)))) 48 (.b ((((a.getD k dAc).dw) % 8) == 0))) (Z9e d e g c cn a k) ?_
   refine regR ?_
   refine mG (.i (k : Int)) ?_
   refine oG (qB (.int .i64 ((k + 1 : Nat) : Int)) (addN om) ?_)
   refine mG (.i ((k + 1 : Nat) : Int)) ?_
   refine op0 ?_
   show _ ∧ _
   have hs_ : (canL c (lkN (Z9d d e g c cn) a k) (actN (Z9d d e g c cn) (a.getD k dAc)) (IntKind.i64.wrap ((k : Int) + cn))) = (lkN (Z9d d e g c cn) a (k + 1)) := (lkA_0 hd0).symm
   refine ⟨by omega, trivial, ?_⟩
   exact iI 1 1 rfl (he := (sS rfl (sS rfl (sS (by exact congrArg (fun l_ => AV.ro l_.length (enc eLk l_)) hs_) (sS rfl (sM rfl (sS rfl sr_none)))))))
  have hf3 := (beq_eq_false_iff_ne).1 hc1
  have hd0 : ¬ (a.getD k dAc).dw % 8 = 0 := by simpa using hc1
  refine seqR ?_
  refine bG ((.bool ((((a.getD k dAc).dw) % 8) == 1))) ?_
  refine mG (.b ((((a.getD k dAc).dw) % 8) == 1)) ?_
  refine op0 ?_
  refine awp_cond ((((a.getD k dAc).dw) % 8) == 1) rfl rfl (fun hc2 => ?_) (fun hc2 => ?_)
  ·skip
   have hf4 := (beq_iff_eq).1 hc2
   have hd1 : (a.getD k dAc).dw % 8 = 1 := by simpa using hc2
   refine aD 10 [(69, .q eLk (turnL (⟨c, e, (k : Int), (stL (a.getD k dAc) d.length), (owL (a.getD k dAc) e.length)⟩ : Tu) (lkN (Z9d d e g c cn) a k))), (68, .q eI (owL (a.getD k dAc) e.length)), (67, .agg (Z9b a k)), (66, .agg (Z9c d e g c cn)), (65, .q eU8 (stL (a.getD k dAc) d.length)), (64, .agg (Z9b a k)), (63, .agg (Z9c d e g c cn)), (62, .i (k : Int)), (61, .q eLk (lkN (Z9d d e g c cn) a k)), (60, .agg (Z9c d e g c cn))] mixed ?_ ?_
   ·refine ⟨?_, ?_, ?_, ?_, ?_, ?_, ?_, ?_, ?_, ?_, trivial⟩
    ·exact sLB (Z9c d e g c cn) ag39 sz39
    ·exact sMv
    ·exact sMv
    ·exact sLB (Z9c d e g c cn) ag39 sz39
    ·exact sLB (Z9b a k) ag30 sz30
    ·exact sC (l16_states d (a.getD k dAc) om hx) bd19
    ·exact sLB (Z9c d e g c cn) ag39 sz39
    ·exact sLB (Z9b a k) ag30 sz30
    ·exact sC (l16_owners e (a.getD k dAc) om hx) bd20
    exact sC (r15_Turn c e (k : Int) (stL (a.getD k dAc) d.length) (owL (a.getD k dAc) e.length) (lkN (Z9d d e g c cn) a k) om om hL.hpl (by rw [stL_len]; omega) (by rw [owL_len]; omega) om hmr (by rw [stL_len]; exact hL.hrs) (by rw [stL_len, owL_len]; exact hL.hpo)) bd29
   refine mG (.q eLk (turnL (⟨c, e, (k : Int), (stL (a.getD k dAc) d.length), (owL (a.getD k dAc) e.length)⟩ : Tu) (lkN (Z9d d e g c cn) a k))) ?_
   refine op0 ?_
   refine regR ?_
   refine mG (.i (k : Int)) ?_
   refine oG (qB (.int .i64 ((k + 1 : Nat) : Int)) (addN om) ?_)
   refine mG (.i ((k + 1 : Nat) : Int)) ?_
   refine op0 ?_
   show _ ∧ _
   have hs_ : (turnL (tuA (Z9d d e g c cn) (a.getD k dAc) k) (lkN (Z9d d e g c cn) a k)) = (lkN (Z9d d e g c cn) a (k + 1)) := (lkA_1 hd1).symm
   refine ⟨by omega, trivial, ?_⟩
   exact iI 1 1 rfl (he := (sS rfl (sS rfl (sS (by exact congrArg (fun l_ => AV.ro l_.length (enc eLk l_)) hs_) (sS rfl (sM rfl (sS rfl sr_none)))))))
  have hf5 := (beq_eq_false_iff_ne).1 hc2
  have hd1 : ¬ (a.getD k dAc).dw % 8 = 1 := by simpa using hc2
  refine regR ?_
  refine oG (qLB (Z9c d e g c cn) ag39 sz39 ?_)
  refine mG (.q eLk (lkN (Z9d d e g c cn) a k)) ?_
  refine mG (.i (((a.getD k dAc).n) % ((c.length + 1 : Nat) : Int))) ?_
  refine fG (.pt 53 2) ft30_2 sz5 ?_
  refine oG (qL (.v (.int .u8 ((a.getD k dAc).tr))) ag5 ?_)
  refine oG (aop_binI (u := (.int .u8 (((a.getD k dAc).tr) % 3))) rfl rfl rfl rfl rfl (by show _ ≠ _; decide) (remI om) ?_)
  refine oG (aop_conv' rfl rfl rfl ut5 ut3 rfl (IntWalk.i64_in _ om) ?_)
  refine mG (.q eU8 (zerL (Z9d d e g c cn))) ?_
  refine oG (callW_ (r15_Set d g c (lkN (Z9d d e g c cn) a k) (actN (Z9d d e g c cn) (a.getD k dAc)) ((a.getD k dAc).tr % 3) (zerL (Z9d d e g c cn)) [] [] om om om om hmr (fun x hx => ⟨by have := (hL.hrl x hx).1; omega, (hL.hrl x hx).2⟩) hL.hrs om (by simp) (fun v h => by cases h) (by simp)) rfl rfl rfl rfl rfl bd26 (lends_cons (lend_agg lS) (lends_cons (lend_n (av := .q eLk (lkN (Z9d d e g c cn) a k))) (lends_cons (lend_n (av := .i (((a.getD k dAc).n) % ((c.length + 1 : Nat) : Int)))) (lends_cons (lend_n (av := .i (((a.getD k dAc).tr) % 3))) (lends_cons (lend_n (av := .q eU8 (zerL (Z9d d e g c cn)))) (lends_cons .nil (lends_cons .nil lends_nil))))))) ?_)
  refine mG (.tup [.q eLk (setL d g c (lkN (Z9d d e g c cn) a k) (actN (Z9d d e g c cn) (a.getD k dAc)) ((a.getD k dAc).tr % 3) (zerL (Z9d d e g c cn)) ([] : List View) ([] : List Bool)), .q eB (setR d g c (lkN (Z9d d e g c cn) a k) (actN (Z9d d e g c cn) (a.getD k dAc)) (zerL (Z9d d e g c cn)) ([] : List View) ([] : List Bool)), .i (setE d g c (lkN (Z9d d e g c cn) a k) (actN (Z9d d e g c cn) (a.getD k dAc)) (zerL (Z9d d e g c cn)) ([] : List View) ([] : List Bool))]) ?_
  refine oG (qE ?_)
  refine oG (qE ?_)
  refine oG (qE ?_)
  refine mG (.q eLk (setL d g c (lkN (Z9d d e g c cn) a k) (actN (Z9d d e g c cn) (a.getD k dAc)) ((a.getD k dAc).tr % 3) (zerL (Z9d d e g c cn)) ([] : List View) ([] : List Bool))) ?_
  refine op0 ?_
  refine rT (upd (upd (upd (upd (upd (upd (upd (upd (Z9g a) 5 (.q eLk (setL d g c (lkN (Z9d d e g c cn) a k) (actN (Z9d d e g c cn) (a.getD k dAc)) ((a.getD k dAc).tr % 3) (zerL (Z9d d e g c cn)) ([] : List View) ([] : List Bool)))) 6 (.q eU8 (zerL (Z9d d e g c cn)))) 7 (.i (k : Int))) 8 (.pt 53 0)) 9 (.i (((a.getD k dAc).n) % ((c.length + 1 : Nat) : Int)))) 34 (.v (.int .u8 (((a.getD k dAc).dw) % 8)))) 48 (.b ((((a.getD k dAc).dw) % 8) == 0))) 58 (.b ((((a.getD k dAc).dw) % 8) == 1))) (Z9e d e g c cn a k) ?_
  refine regR ?_
  refine mG (.i (k : Int)) ?_
  refine oG (qB (.int .i64 ((k + 1 : Nat) : Int)) (addN om) ?_)
  refine mG (.i ((k + 1 : Nat) : Int)) ?_
  refine op0 ?_
  show _ ∧ _
  have hs_ : (setL d g c (lkN (Z9d d e g c cn) a k) (actN (Z9d d e g c cn) (a.getD k dAc)) ((a.getD k dAc).tr % 3) (zerL (Z9d d e g c cn)) [] []) = (lkN (Z9d d e g c cn) a (k + 1)) := (lkA_2 hd0 hd1).symm
  refine ⟨by omega, trivial, ?_⟩
  exact iI 1 1 rfl (he := (sS rfl (sS rfl (sS (by exact congrArg (fun l_ => AV.ro l_.length (enc eLk l_)) hs_) (sS rfl (sM rfl (sS rfl sr_none)))))))
 have hf6 := of_decide_eq_false hc0
 refine awp_exit ?_
 refine seqR ?_
 refine mG (.q eLk (lkN (Z9d d e g c cn) a k)) ?_
 refine mG (.q eLk (lkN (Z9d d e g c cn) a k)) ?_
 refine op0 ?_
 refine awp_ret ?_
 exact fret (av := .ro ((lkN (Z9d d e g c cn) a k).length) (enc eLk (lkN (Z9d d e g c cn) a k))) rfl rfl (by rw [show k = a.length by omega])
theorem bd10 : bodied Try.prog 10 = true := by kernel_rfl
theorem bd11 : bodied Try.prog 11 = true := by kernel_rfl
theorem bd12 : bodied Try.prog 12 = true := by kernel_rfl
theorem bd13 : bodied Try.prog 13 = true := by kernel_rfl
theorem bd14 : bodied Try.prog 14 = true := by kernel_rfl
theorem bd15 : bodied Try.prog 15 = true := by kernel_rfl
theorem bd18 : bodied Try.prog 18 = true := by kernel_rfl
theorem bd21 : bodied Try.prog 21 = true := by kernel_rfl
theorem bd22 : bodied Try.prog 22 = true := by kernel_rfl
theorem bd37 : bodied Try.prog 37 = true := by kernel_rfl
theorem bd38 : bodied Try.prog 38 = true := by kernel_rfl
theorem ft69_1 : fieldT Try.prog 69 1 = some (4, 1) := by kernel_rfl
theorem iz30 : (Try.prog.info? 30).map (fun i => (i.zero, i.size)) = some (some (.agg #[(.int .u8 0), (.int .u8 0), (.int .u8 0), (.slice none 0 0), (.slice none 0 0), (.slice none 0 0), (.slice none 0 0), (.int .u8 0)]), 8) := by kernel_rfl
abbrev Z9m (a : List Need) (k : Nat) (c : List Bool) : Nat → OSt := (updO noOb 1 (.live ⟨(enc eN (movesL (a.take k) c)), 110, 2⟩))
abbrev Z9l (a : List Need) (c : List Bool) (k : Nat) : Nat → AV := (upd (upd (upd (upd (upd none_ 0 (.q eN a)) 1 (.q eB c)) 4 vN) 5 (.sl 1 0 ((movesL (a.take k) c).length))) 6 (.i (k : Int)))
abbrev Z9j (a : List Need) (k : Nat) : Need := (⟨(a.getD k dN).point, (a.getD k dN).right⟩ : Need)
abbrev Z9i (a : List Need) (k : Nat) : List AV := [.i ((a.getD k dN).point), .b ((a.getD k dN).right)]
abbrev Z9k (a : List Need) (k : Nat) : AV := (.rp (((Z9i a k) : List AV) ++ ((enc eN a).drop ((k + 1) * 2))))
theorem r14_MovesR (a : List Need) (c : List Bool) (hl : a.length ≤ 4294967296) (hr : c.length ≤ 4294967296) : Fn Try.prog 40 [.ro a.length (enc eN a), .ro c.length (enc eB c)] (.ro ((movesL a c).length) (enc eN (movesL a c))) := by
 refine fnE_of_body (N := 34) Try.func40 rfl rfl (resOf1 rfl) (by simp) (fun w0 X hL_ => ?_)
 refine seqR ?_
 refine mG vN ?_
 refine op0 ?_
 refine seqR ?_
 refine mG vN ?_
 refine op0 ?_
 refine awp_seq ?_
 refine seqR ?_
 refine mG (.i 0) ?_
 refine op0 ?_
 refine awp_block ?_
 refine awp_countI (fun k => ⟨(Z9l a c k), (Z9m a k c)⟩) (fun k => True) (a.length) ?_ trivial (fun k hk_k hinv => ?_)
 ·skip
  refine (imp_adopt 5 51 110 2 rfl rfl).trans ?_
  exact iI 51 1 (o := ⟨[], 110, 2⟩) rfl
 have hml := movesL_len (a.take k) c
 have htk : (a.take k).length ≤ a.length := by simp; omega
 refine awp_seq ?_
 refine seqR ?_
 refine mG (.i (k : Int)) ?_
 refine mG (.q eN a) ?_
 refine oG (qN ut91 ?_)
 refine bG ((.bool (decide ((k : Int) < (a.length : Int))))) ?_
 refine rU (upd (Z9l a c k) 10 (.b (decide ((k : Int) < (a.length : Int))))) (Z9m a k c) ?_
 refine awp_cond (decide ((k : Int) < (a.length : Int))) rfl rfl (fun hc0 => ?_) (fun hc0 => ?_)
 ·skip
  have hf1 := of_decide_eq_true hc0
  refine awp_skip ?_
  refine awp_seq ?_
  refine awp_block ?_
  refine awp_seq ?_
  refine aD 13 [(25, .b ((hasB c ((a.getD k dN).point)) != ((a.getD k dN).right))), (24, .b ((a.getD k dN).right)), (23, .rp (([.b ((a.getD k dN).right)] : List AV) ++ ((enc eN a).drop ((k + 1) * 2)))), (22, .rp (((Z9i a k) : List AV) ++ ((enc eN a).drop ((k + 1) * 2)))), (21, .i (k : Int)), (20, .q eN a), (19, .b (hasB c ((a.getD k dN).point))), (18, .i ((a.getD k dN).point)), (17, .rp (((Z9i a k) : List AV) ++ ((enc eN a).drop ((k + 1) * 2)))), (16, .rp (((Z9i a k) : List AV) ++ ((enc eN a).drop ((k + 1) * 2)))), (15, .i (k : Int)), (14, .q eN a), (13, .q eB c)] mixed ?_ ?_
  ·iterate 13 (refine ⟨?_, ?_⟩; rotate_left)
   trivial
   ·exact sMv
   ·exact sMv
   ·exact sMv
   ·exact (sIx dN ut91 sz110)
   ·exact sF (Z9k a k) (Z9k a k) ft110_0 sz3
   ·exact (sLd ag3)
   ·exact dW 19 fun st hob hE => call_ (r14_stands c ((a.getD k dN).point) oo) rfl rfl rfl rfl rfl bd59 (by show [st.env 13, st.env 18] ++ _ = _; rw [hE 13 rfl, hE 18 rfl]; rfl) (by rw [hob]; rfl)
   ·exact sMv
   ·exact sMv
   ·exact (sIx dN ut91 sz110)
   ·exact sF (Z9k a k) (.rp (([.b ((a.getD k dN).right)] : List AV) ++ ((enc eN a).drop ((k + 1) * 2)))) ft110_1 sz4
   ·exact (sLd ag4)
   exact dW 25 fun st hob hE => aop_neB rfl rfl rfl (hE 19 rfl) (hE 24 rfl) ut4 (by rw [hob]; rfl)
  refine op0 ?_
  refine awp_cond ((hasB c ((a.getD k dN).point)) != ((a.getD k dN).right)) rfl rfl (fun hc1 => ?_) (fun hc1 => ?_)
  ·skip
   refine regR ?_
   refine mG (.sl 1 0 ((movesL (a.take k) c).length)) ?_
   refine mG (.q eN a) ?_
   refine mG (.i (k : Int)) ?_
   refine oG (qX dN ut91 sz110 ?_)
   refine oG (qLB (Z9i a k) ag110 sz110 ?_)
   refine oG (aop_lit rfl rfl rfl ut91 iz110 (by decide) (by decide) rfl rfl ?_)
   refine oG (aop_app1 (f := eN) (l := movesL (a.take k) c) 52 (Z9j a k) rfl rfl rfl rfl ut91 in110 rfl (by decide) rfl rfl rfl rfl rfl rfl (fun _ => rfl) rfl rfl oo oo rfl ?_)
   refine mG (.sl 52 0 (((movesL (a.take k) c) ++ [(Z9j a k)]).length)) ?_
   refine op0 ?_
   refine rT (upd (upd (upd (upd (upd none_ 0 (.q eN a)) 1 (.q eB c)) 4 vN) 5 (.sl 52 0 (((movesL (a.take k) c) ++ [(Z9j a k)]).length))) 6 (.i (k : Int))) (updO (updO (Z9m a k c) 1 .dead) 52 (.live ⟨(enc eN ((movesL (a.take k) c) ++ [(Z9j a k)])), 110, 2⟩)) ?_
   refine regR ?_
   refine mG (.i (k : Int)) ?_
   refine oG (qB (.int .i64 ((k + 1 : Nat) : Int)) (addN om) ?_)
   refine mG (.i ((k + 1 : Nat) : Int)) ?_
   refine op0 ?_
   show _ ∧ _
   have hs := movesL_on (needs := a) (right := c) (k := k) om hc1
   refine ⟨by omega, trivial, ?_⟩
   exact iI 52 1 rfl (he := (sS rfl (sM (by exact congrArg (AV.sl 1 0) (congrArg List.length hs)) (sS rfl (sS rfl (sS rfl sr_none)))))) (hoo := (by exact congrArg (fun l_ => LObj.mk (enc eN l_) 110 2) hs.symm))
  refine awp_skip ?_
  refine regR ?_
  refine mG (.i (k : Int)) ?_
  refine oG (qB (.int .i64 ((k + 1 : Nat) : Int)) (addN om) ?_)
  refine mG (.i ((k + 1 : Nat) : Int)) ?_
  refine op0 ?_
  show _ ∧ _
  have hs := movesL_off (needs := a) (right := c) (k := k) om hc1
  refine ⟨by omega, trivial, ?_⟩
  exact iI 1 1 rfl (he := (sS rfl (sM (by exact congrArg (AV.sl 1 0) (congrArg List.length hs)) (sS rfl (sS rfl (sS rfl sr_none)))))) (hoo := (by exact congrArg (fun l_ => LObj.mk (enc eN l_) 110 2) hs.symm))
 have hf2 := of_decide_eq_false hc0
 refine awp_exit ?_
 refine seqR ?_
 refine mG (.sl 1 0 ((movesL (a.take k) c).length)) ?_
 refine mG (.sl 1 0 ((movesL (a.take k) c).length)) ?_
 refine op0 ?_
 have he : movesL (a.take k) c = movesL a c := by rw [List.take_of_length_le om]
 refine awp_imp _ (imp_frozen rfl (fun _ h => h) (lee_lend 4 (.q eN (movesL (a.take k) c)) (lend_s (id := 1) (n := (movesL (a.take k) c).length) (o := ⟨(enc eN (movesL (a.take k) c)), 110, 2⟩) rfl (enc_len (fun _ => rfl) (by first | rfl | (simp; done)))) lee_lend0)) ?_
 refine awp_ret ?_
 exact fret (av := .ro ((movesL (a.take k) c).length) (enc eN (movesL (a.take k) c))) rfl rfl (by rw [he] <;> rfl)
abbrev Za1 (a : List Lk) (k : Nat) : List AV := (enc eU8 ((a.getD k dLk).pieces))
abbrev Za0 (e : List View) (c : Int) : List AV := [.i ((findV e c).id), .b ((findV e c).sure), .ro ((findV e c).span.length) (enc eI ((findV e c).span))]
abbrev Z9z (d : List (List Int)) (a : List Lk) (k : Nat) : AV := (.q eI (d.getD ((a.getD k dLk).route).toNat []))
abbrev Z9y (p : List Sec) (m : List (List Int)) (t : List Pnt) (d : List (List Int)) : List AV := [.one, .q eSec p, .q eIL m, .q ePnt t, .q eIL d, .one, .one, .one, .one, .one]
abbrev Z9w (a : List Lk) (g ow : List Int) (u : List Bool) (c : Int) : Nat → AV := (upd (upd (upd (upd (upd none_ 1 (.q eLk a)) 2 (.q eU8 g)) 3 (.q eI ow)) 5 (.q eB u)) 6 (.i c))
abbrev Z9v (p : List Sec) (m : List (List Int)) (t : List Pnt) (d : List (List Int)) (e : List View) (c : Int) : Nat → OSt := (updO (updO (updO noOb 51 (.live ⟨(Z9y p m t d), 39, 1⟩)) 52 (.live ⟨[.i 0, .b false, vN], 69, 1⟩)) 52 (.live ⟨(Za0 e c), 69, 1⟩))
abbrev Z9r (a : List Lk) (k : Nat) : List AV := [.i ((a.getD k dLk).ends), .ro ((a.getD k dLk).pieces.length) (Za1 a k)]
abbrev Z9p (e : List View) (c : Int) (p : List Sec) (m : List (List Int)) (t : List Pnt) (d : List (List Int)) (g ow : List Int) (u : List Bool) : Fld := (fldOf (findV e c) p m t d g ow u)
abbrev Z9o (p : List Sec) (m : List (List Int)) (t : List Pnt) (d : List (List Int)) (e : List View) (c : Int) : Nat → OSt := (updO (updO noOb 1 (.live ⟨(Z9y p m t d), 39, 1⟩)) 2 (.live ⟨(Za0 e c), 69, 1⟩))
abbrev Z9n (a : List Lk) (k : Nat) : List AV := [.i ((a.getD k dLk).route), .i ((a.getD k dLk).train), .i ((a.getD k dLk).ends), .ro ((a.getD k dLk).pieces.length) (Za1 a k)]
abbrev Za2 (a : List Lk) (k : Nat) : AV := (.rp (([.ro ((a.getD k dLk).pieces.length) (Za1 a k)] : List AV) ++ ((enc eLk a).drop ((k + 1) * 4))))
abbrev Z9x (a : List Lk) (k : Nat) : AV := (.rp (((Z9r a k) : List AV) ++ ((enc eLk a).drop ((k + 1) * 4))))
abbrev Z9u (a : List Lk) (g ow : List Int) (u : List Bool) (c : Int) (e : List View) (p : List Sec) (m : List (List Int)) (t : List Pnt) (d : List (List Int)) (k : Nat) : Nat → AV := (upd (upd (upd (upd (upd (upd (Z9w a g ow u c) 7 (.pt 1 0)) 14 vN) 15 (.pt 2 0)) 17 (.sl 3 0 ((doO (Z9p e c p m t d g ow u) a c k).length))) 18 (lsA (doL (Z9p e c p m t d g ow u) a c k))) 19 (.i (k : Int)))
abbrev Z9t (e : List View) (c : Int) (p : List Sec) (m : List (List Int)) (t : List Pnt) (d : List (List Int)) (g ow : List Int) (u : List Bool) (a : List Lk) (k j : Nat) : List AV := (enc eI ((doO (Z9p e c p m t d g ow u) a c k) ++ (pcO (d.getD ((a.getD k dLk).route).toNat []) (a.getD k dLk).pieces j)))
abbrev Z9s (a : List Lk) (k : Nat) : AV := (.rp (((Z9n a k) : List AV) ++ ((enc eLk a).drop ((k + 1) * 4))))
abbrev Z9q (a : List Lk) (g ow : List Int) (u : List Bool) (c : Int) (e : List View) (p : List Sec) (m : List (List Int)) (t : List Pnt) (d : List (List Int)) (k j : Nat) : Nat → AV := (upd (upd (upd (upd (upd (upd (upd (upd (Z9w a g ow u c) 7 (.pt 1 0)) 14 vN) 15 (.pt 2 0)) 17 (.sl 3 0 (((doO (Z9p e c p m t d g ow u) a c k) ++ (pcO (d.getD ((a.getD k dLk).route).toNat []) (a.getD k dLk).pieces j)).length))) 18 (lsA (doL (Z9p e c p m t d g ow u) a c k))) 19 (.i (k : Int))) 20 (Z9z d a k)) 21 (.i (j : Int)))
theorem r16_Of (e : List View) (c : Int) (p : List Sec) (m : List (List Int)) (t : List Pnt) (d : List (List Int)) (g ow : List Int) (u : List Bool) (a : List Lk) (hf : FldOk (fldOf (findV e c) p m t d g ow u)) (w : ∀ x, x ∈ a → LkR d x) (hen : EnOk a) (hll : a.length ≤ 65536) (hv : e.length ≤ 65536) (hin : ∀ x, x ∈ d → ∀ s, s ∈ x → 0 ≤ s ∧ s < (p.length : Int)) (y : ∀ x, x ∈ d → ∀ i, i + 1 < x.length → stepL (fldOf (findV e c) p m t d g ow u) x i = stD p t x i) : Fn Try.prog 22 [.agg [.one, .ro p.length (enc eSec p), .ro m.length (enc eIL m), .ro t.length (enc ePnt t), .ro d.length (enc eIL d), .one, .one, .one, .one, .one], .ro a.length (enc eLk a), .ro g.length (enc eU8 g), .ro ow.length (enc eI ow), .ro e.length (enc eV e), .ro u.length (enc eB u), .v (.int .i64 c)] (.ro ((auT e c (fldOf (findV e c) p m t d g ow u) a).length) (enc eI (auT e c (fldOf (findV e c) p m t d g ow u) a))) := by
 have hz1 : p.length ≤ 65536 := hf.hs
 have hz2 : t.length ≤ 65536 := hf.hp
 have hz3 : m.length ≤ 65536 := hf.hpa
 have hz4 : g.length ≤ 65536 := hf.hst
 have hz5 : ow.length ≤ 65536 := hf.how
 have hz6 : u.length ≤ 65536 := hf.hr
 have hz7 : (findV e c).span.length ≤ 65536 := hf.hsp
 have hz8 : d.length ≤ 65536 := hf.hro
 have hpm : ∀ x, x ∈ a → x.pieces.length ≤ 65536 := fun x h_ => by have h1_ := (w x h_).ps; have h2_ := (w x h_).ln; omega
 have hpl : ∀ x, x ∈ a → (pathOf (Z9p e c p m t d g ow u) x).length ≤ 65536 := fun x h_ => (w x h_).ln
 refine fnE_of_body (N := 162) Try.func22 rfl rfl (resOf1 rfl) (by simp) (fun w0 X hL_ => ?_)
 refine seqR ?_
 refine oG (qW 51 ?_)
 refine mG vN ?_
 refine op0 ?_
 refine seqR ?_
 refine mG (.q eV e) ?_
 refine mG (.i c) ?_
 refine oG (qJ (r12_Find e c om) bd37 ?_)
 refine mG (.tup [.agg (Za0 e c), .b (!decide (findI e c < 0))]) ?_
 refine oG (qE ?_)
 refine oG (qE ?_)
 refine oG (aop_alloc 52 rfl rfl rfl rfl ze69 rfl ?_)
 refine oG (qS sz69 ?_)
 refine mG (.b (!decide (findI e c < 0))) ?_
 refine rU (upd (upd (upd (upd (Z9w a g ow u c) 7 (.pt 51 0)) 14 vN) 15 (.pt 52 0)) 16 (.b (!decide (findI e c < 0)))) (Z9v p m t d e c) ?_
 refine awp_seq ?_
 refine seqR ?_
 refine mG (.b (!decide (findI e c < 0))) ?_
 refine oG (aop_not rfl rfl rfl rfl ?_)
 refine mG (.b (!(!decide (findI e c < 0)))) ?_
 refine aops_grp 4 36 (.b ((!(!decide (findI e c < 0))) || (!((findV e c).sure)))) ?_ ?_
 ·refine (Bool.eq_false_or_eq_true (!(!decide (findI e c < 0)))).elim (fun hg1 => ?_) (fun hg1 => ?_)
  ·skip
   have hf2 := not_t hg1
   refine nG hg1 ?_
   refine nG hg1 ?_
   refine nG hg1 ?_
   refine oG (qP (!(!decide (findI e c < 0))) (.b true) hg1 ?_)
   refine op0 ?_
   exact imp_env (lee_both 36 _ _ (by rw [hg1] <;> rfl) lO)
  have hf3 := not_f hg1
  refine oY hg1 (qF (.pt 52 0) (.pt 52 1) ft69_1 sz4 ?_)
  refine oY hg1 (qL (.b ((findV e c).sure)) ag4 ?_)
  refine oY hg1 (aop_not rfl rfl rfl rfl ?_)
  refine oG (qP (!(!decide (findI e c < 0))) (.b (!((findV e c).sure))) hg1 ?_)
  refine op0 ?_
  exact imp_env (lee_both 36 _ _ (by rw [hg1] <;> rfl) lO)
 refine op0 ?_
 refine awp_cond ((!(!decide (findI e c < 0))) || (!((findV e c).sure))) rfl rfl (fun hc0 => ?_) (fun hc0 => ?_)
 ·skip
  have hT : (auT e c (Z9p e c p m t d g ow u) a) = [] := auT_no (by simpa using hc0)
  refine seqR ?_
  refine mG vN ?_
  refine rU (upd (upd (upd (Z9w a g ow u c) 7 (.pt 51 0)) 14 vN) 15 (.pt 52 0)) (Z9v p m t d e c) ?_
  refine awp_imp _ (imp_frozen rfl (fun _ h => h) (lee_lend 14 (.ro 0 []) .nil lee_lend0)) ?_
  refine awp_ret ?_
  exact fret (av := .ro 0 []) rfl rfl (by rw [hT]; rfl)
 obtain ⟨hf4a, hf4b⟩ := or_f hc0
 have hf5 := not_f hf4a
 have hf6 := not_f hf4b
 obtain ⟨hv1, hv2⟩ : ¬ findI e c < 0 ∧ (findV e c).sure = true := by simpa using hc0
 have hT : (auT e c (Z9p e c p m t d g ow u) a) = _ := auT_yes hv1 hv2
 have hid := findV_id hv1
 refine awp_skip ?_
 refine seqR ?_
 refine mG vN ?_
 refine mG vN ?_
 refine rU (upd (upd (upd (upd (upd (Z9w a g ow u c) 7 (.pt 51 0)) 14 vN) 15 (.pt 52 0)) 17 vN) 18 vN) (Z9v p m t d e c) ?_
 refine awp_seq ?_
 refine seqR ?_
 refine mG (.i 0) ?_
 refine op0 ?_
 refine awp_block ?_
 refine awp_countI (fun k => ⟨(Z9u a g ow u c e p m t d k), (updO (Z9o p m t d e c) 3 (.live ⟨(enc eI (doO (Z9p e c p m t d g ow u) a c k)), 3, 1⟩))⟩) (fun k => auR (Z9p e c p m t d g ow u) (mineL (a.drop k) c) (doO (Z9p e c p m t d g ow u) a c k) (doL (Z9p e c p m t d g ow u) a c k) = (auT e c (Z9p e c p m t d g ow u) a)) (a.length) ?_ (by rw [hT]; rfl) (fun k hk_k hinv => ?_)
 ·skip
  refine (imp_adopt 17 53 3 1 rfl rfl).trans ?_
  exact iL [(51, 1), (52, 2), (53, 3)] [((51, 1), .live _), ((52, 2), .live _), ((53, 3), .live _)] ⟨row_no rfl rfl, row_no rfl rfl, row_no (o := ⟨[], 3, 1⟩) rfl rfl, trivial⟩
 have hol := do_len (f := (Z9p e c p m t d g ow u)) (id := c) hpm k
 refine awp_seq ?_
 refine seqR ?_
 refine mG (.i (k : Int)) ?_
 refine mG (.q eLk a) ?_
 refine oG (qN ut41 ?_)
 refine bG ((.bool (decide ((k : Int) < (a.length : Int))))) ?_
 refine rU (upd (Z9u a g ow u c e p m t d k) 40 (.b (decide ((k : Int) < (a.length : Int))))) (updO (Z9o p m t d e c) 3 (.live ⟨(enc eI (doO (Z9p e c p m t d g ow u) a c k)), 3, 1⟩)) ?_
 refine awp_cond (decide ((k : Int) < (a.length : Int))) rfl rfl (fun hc1 => ?_) (fun hc1 => ?_)
 ·skip
  have hf7 := of_decide_eq_true hc1
  have hinv0 := hinv
  have hxk := w _ (getD_mem (l := a) (k := k) dLk om)
  have hxe := hen _ (getD_mem (l := a) (k := k) dLk om)
  have hxr := hxk.r
  have hxp := hxk.ps
  have hxl := hxk.ln
  have hpmm : (d.getD ((a.getD k dLk).route).toNat []) ∈ d := getD_mem [] om
  have hps := hin _ hpmm
  have hpst : ∀ s, s ∈ (d.getD ((a.getD k dLk).route).toNat []) → 0 ≤ s ∧ s < (g.length : Int) := hf.hrs _ hpmm
  have hdl := doL_len (f := (Z9p e c p m t d g ow u)) (id := c) hpl k om
  have hpne : ¬ (d.getD ((a.getD k dLk).route).toNat []) = [] := fun h_ => by rw [h_] at hxp; simp at hxp
  refine awp_skip ?_
  refine awp_seq ?_
  refine awp_block ?_
  refine awp_seq ?_
  refine seqR ?_
  refine mG (.q eLk a) ?_
  refine mG (.i (k : Int)) ?_
  refine oG (qX dLk ut41 sz58 ?_)
  refine oG (qF (Z9s a k) (.rp (([.i ((a.getD k dLk).train), .i ((a.getD k dLk).ends), .ro ((a.getD k dLk).pieces.length) (Za1 a k)] : List AV) ++ ((enc eLk a).drop ((k + 1) * 4)))) ft58_1 sz3 ?_)
  refine oG (qL (.i ((a.getD k dLk).train)) ag3 ?_)
  refine mG (.i c) ?_
  refine bG ((.bool (((a.getD k dLk).train) != c))) ?_
  refine rU (upd (Z9u a g ow u c e p m t d k) 49 (.b (((a.getD k dLk).train) != c))) (updO (Z9o p m t d e c) 3 (.live ⟨(enc eI (doO (Z9p e c p m t d g ow u) a c k)), 3, 1⟩)) ?_
  refine awp_cond (((a.getD k dLk).train) != c) rfl rfl (fun hc2 => ?_) (fun hc2 => ?_)
  ·skip
   have hf8 := (bne_iff_ne).1 hc2
   have htn : ¬ (a.getD k dLk).train = c := (bne_iff_ne).1 hc2
   refine awp_exit ?_
   refine regR ?_
   refine mG (.i (k : Int)) ?_
   refine oG (qB (.int .i64 ((k + 1 : Nat) : Int)) (addN om) ?_)
   refine mG (.i ((k + 1 : Nat) : Int)) ?_
   refine op0 ?_
   show _ ∧ _
   have hs_ := doO_no (f := (Z9p e c p m t d g ow u)) htn
   have hs2_ := doL_no (f := (Z9p e c p m t d g ow u)) htn
   refine ⟨by omega, (by first | exact do_no om htn hinv0 | exact do_on om htr hinv0 hlt hpc om), ?_⟩
   exact iL [(1, 1), (2, 2), (3, 3)] [((1, 1), .live _), ((2, 2), .live _), ((3, 3), .live _)] ⟨row_no rfl rfl, row_no rfl rfl, row_no rfl (by exact congrArg (fun l_ => LObj.mk (enc eI l_) 3 1) hs_), trivial⟩ (he := (sS rfl (sS (by exact congrArg lsA hs2_.symm) (sM (by exact congrArg (AV.sl 3 0) (congrArg List.length hs_.symm)) (sM rfl (sS rfl (sM rfl (sS rfl (sS rfl (sS rfl (sS rfl (sS rfl sr_none))))))))))))
  have hf9 := (bne_eq_false_iff_eq).1 hc2
  have htr : (a.getD k dLk).train = c := (bne_eq_false_iff_eq).1 hc2
  have hlkE : (!(lkB (Z9p e c p m t d g ow u) (a.getD k dLk) (doL (Z9p e c p m t d g ow u) a c k))) = ((((a.getD k dLk).ends != -1) || (decide ((doL (Z9p e c p m t d g ow u) a c k) = []) && !((findV e c).span.any (fun s => decide (s ∈ (d.getD ((a.getD k dLk).route).toNat [])))))) || ((!decide ((doL (Z9p e c p m t d g ow u) a c k) = [])) && (((d.getD ((a.getD k dLk).route).toNat []).getD 0 0) != ((doL (Z9p e c p m t d g ow u) a c k).getD (((doL (Z9p e c p m t d g ow u) a c k).length : Int) - 1).toNat 0)))) := by rw [do_lk (f := (Z9p e c p m t d g ow u)) (x := (a.getD k dLk)) (last := (doL (Z9p e c p m t d g ow u) a c k)) hxe rfl rfl rfl, Bool.not_not, show (((doL (Z9p e c p m t d g ow u) a c k).length : Int) - 1).toNat = (doL (Z9p e c p m t d g ow u) a c k).length - 1 by omega]; rfl
  refine awp_skip ?_
  refine awp_seq ?_
  refine aD 9 [(58, .q eI (d.getD ((a.getD k dLk).route).toNat [])), (57, .rp (([.q eI (d.getD ((a.getD k dLk).route).toNat [])] : List AV) ++ ((enc eIL d).drop ((((a.getD k dLk).route).toNat + 1) * 1)))), (56, .i ((a.getD k dLk).route)), (55, .rp (((Z9n a k) : List AV) ++ ((enc eLk a).drop ((k + 1) * 4)))), (54, .rp (((Z9n a k) : List AV) ++ ((enc eLk a).drop ((k + 1) * 4)))), (53, .i (k : Int)), (52, .q eLk a), (51, .q eIL d), (50, .pt 1 4)] mixed ?_ ?_
  ·refine ⟨?_, ?_, ?_, ?_, ?_, ?_, ?_, ?_, ?_, trivial⟩
   ·exact sF (.pt 1 0) (.pt 1 4) ft39_4 sz36
   ·exact sL ag36
   ·exact sMv
   ·exact sMv
   ·exact (sIx dLk ut41 sz58)
   ·exact sF (Z9s a k) (Z9s a k) ft58_0 sz3
   ·exact (sLd ag3)
   ·exact dW 57 fun st hob hE => aop_ixI [] rfl rfl rfl ut36 sz48 (hE 51 rfl) (hE 56 rfl) (fun _ => rfl) rfl om oo (by rw [hob]; rfl)
   exact (sLd ag48)
  refine mG (Z9z d a k) ?_
  refine op0 ?_
  refine awp_seq ?_
  refine seqCut ⟨(upd (upd (Z9u a g ow u c e p m t d k) 20 (Z9z d a k)) 91 (.b (!(lkB (Z9p e c p m t d g ow u) (a.getD k dLk) (doL (Z9p e c p m t d g ow u) a c k))))), (updO (Z9o p m t d e c) 3 (.live ⟨(enc eI (doO (Z9p e c p m t d g ow u) a c k)), 3, 1⟩))⟩ ?_ ?_
  ·skip
   refine (Bool.eq_false_or_eq_true (((a.getD k dLk).ends) != (-1))).elim (fun hq0 => ?_) (fun hq0 => ?_)
   ·skip
    have hf11 := (bne_iff_ne).1 hq0
    refine aD 33 [(91, .b true), (90, .v undef), (89, .v undef), (88, .v undef), (87, .v undef), (86, .v undef), (85, .v undef), (84, .v undef), (83, .v undef), (82, .v undef), (81, .v undef), (80, .v undef), (79, .v undef), (78, .v undef), (77, .v undef), (76, .b true), (75, .b true), (74, .v undef), (73, .v undef), (72, .v undef), (71, .v undef), (70, .v undef), (69, .v undef), (68, .v undef), (67, .v undef), (66, .v undef), (65, .b (((a.getD k dLk).ends) != (-1))), (64, .b (((a.getD k dLk).ends) != (-1))), (63, .i ((a.getD k dLk).ends)), (62, .rp (((Z9r a k) : List AV) ++ ((enc eLk a).drop ((k + 1) * 4)))), (61, .rp (((Z9n a k) : List AV) ++ ((enc eLk a).drop ((k + 1) * 4)))), (60, .i (k : Int)), (59, .q eLk a)] mixed ?_ ?_
    ·iterate 33 (refine ⟨?_, ?_⟩; rotate_left)
     trivial
     ·exact sMv
     ·exact sMv
     ·exact (sIx dLk ut41 sz58)
     ·exact sF (Z9s a k) (Z9x a k) ft58_2 sz2
     ·exact (sLd ag2)
     ·exact sB (.bool (((a.getD k dLk).ends) != (-1))) rfl
     ·exact sMv
     ·exact gn0 hq0
     ·exact gn0 hq0
     ·exact gn0 hq0
     ·exact ⟨68, undef, rfl, blt_lt rfl, rfl, (fun h => by cases h), (fun _ => ⟨69, rfl, blt_lt rfl, .inr rfl⟩)⟩
     ·exact ⟨68, undef, rfl, blt_lt rfl, rfl, (fun h => by cases h), (fun _ => ⟨70, rfl, blt_lt rfl, .inr rfl⟩)⟩
     ·exact ⟨68, undef, rfl, blt_lt rfl, rfl, (fun h => by cases h), (fun _ => ⟨71, rfl, blt_lt rfl, .inr rfl⟩)⟩
     ·exact ⟨68, undef, rfl, blt_lt rfl, rfl, (fun h => by cases h), (fun _ => ⟨72, rfl, blt_lt rfl, .inr rfl⟩)⟩
     ·exact ⟨68, undef, rfl, blt_lt rfl, rfl, (fun h => by cases h), (fun _ => ⟨73, rfl, blt_lt rfl, .inr rfl⟩)⟩
     ·exact gn0 hq0
     ·exact sPk (((a.getD k dLk).ends) != (-1)) (.b true) hq0
     ·exact sMv
     ·exact gn0 rfl
     ·exact gn0 rfl
     ·exact gn0 rfl
     ·exact ⟨79, undef, rfl, blt_lt rfl, rfl, (fun h => by cases h), (fun _ => ⟨80, rfl, blt_lt rfl, .inr rfl⟩)⟩
     ·exact ⟨79, undef, rfl, blt_lt rfl, rfl, (fun h => by cases h), (fun _ => ⟨81, rfl, blt_lt rfl, .inr rfl⟩)⟩
     ·exact ⟨79, undef, rfl, blt_lt rfl, rfl, (fun h => by cases h), (fun _ => ⟨82, rfl, blt_lt rfl, .inr rfl⟩)⟩
     ·exact ⟨79, undef, rfl, blt_lt rfl, rfl, (fun h => by cases h), (fun _ => ⟨83, rfl, blt_lt rfl, .inr rfl⟩)⟩
     ·exact ⟨79, undef, rfl, blt_lt rfl, rfl, (fun h => by cases h), (fun _ => ⟨84, rfl, blt_lt rfl, .inr rfl⟩)⟩
     ·exact ⟨79, undef, rfl, blt_lt rfl, rfl, (fun h => by cases h), (fun _ => ⟨85, rfl, blt_lt rfl, .inr rfl⟩)⟩
     ·exact ⟨79, undef, rfl, blt_lt rfl, rfl, (fun h => by cases h), (fun _ => ⟨86, rfl, blt_lt rfl, .inr rfl⟩)⟩
     ·exact ⟨79, undef, rfl, blt_lt rfl, rfl, (fun h => by cases h), (fun _ => ⟨87, rfl, blt_lt rfl, .inr rfl⟩)⟩
     ·exact ⟨79, undef, rfl, blt_lt rfl, rfl, (fun h => by cases h), (fun _ => ⟨88, rfl, blt_lt rfl, .inr rfl⟩)⟩
     ·exact ⟨79, undef, rfl, blt_lt rfl, rfl, (fun h => by cases h), (fun _ => ⟨89, rfl, blt_lt rfl, .inr rfl⟩)⟩
     ·exact gn0 rfl
     exact dW 91 fun st hob hE => aop_pick (b := true) (av := .b true) rfl rfl rfl (hE 76 rfl) rfl (by rw [hob]; rfl)
    refine op0 ?_
    show Imp _ _ _
    exact iL [(1, 1), (2, 2), (3, 3)] [((1, 1), .live _), ((2, 2), .live _), ((3, 3), .live _)] ⟨row_no rfl rfl, row_no rfl rfl, row_no rfl rfl, trivial⟩ (he := (sS (by exact congrArg (fun b_ => AV.v (.bool b_)) (by first | (rw [hlkE, hq0]; rfl) | (rw [hlkE, hq0, hq1]; rfl) | (rw [hlkE, hq0, hq1, hq2]; rfl) | (exfalso; rw [hq1] at hq2; cases hq2) | (exfalso; rw [hq1] at hq3; cases hq3))) (sS rfl (sS rfl (sS rfl (sM rfl (sM rfl (sS rfl (sM rfl (sS rfl (sS rfl (sS rfl (sS rfl (sS rfl sr_none))))))))))))))
   have hf12 := (bne_eq_false_iff_eq).1 hq0
   refine (Bool.eq_false_or_eq_true (decide ((doL (Z9p e c p m t d g ow u) a c k) = []))).elim (fun hq1 => ?_) (fun hq1 => ?_)
   ·skip
    refine (Bool.eq_false_or_eq_true (!(((findV e c).span).any (fun s => decide (s ∈ (d.getD ((a.getD k dLk).route).toNat [])))))).elim (fun hq2 => ?_) (fun hq2 => ?_)
    ·skip
     have hf15 := not_t hq2
     refine aD 33 [(91, .b true), (90, .v undef), (89, .v undef), (88, .v undef), (87, .v undef), (86, .v undef), (85, .v undef), (84, .v undef), (83, .v undef), (82, .v undef), (81, .v undef), (80, .v undef), (79, .v undef), (78, .v undef), (77, .v undef), (76, .b (!(((findV e c).span).any (fun s => decide (s ∈ (d.getD ((a.getD k dLk).route).toNat [])))))), (75, .b (!(((findV e c).span).any (fun s => decide (s ∈ (d.getD ((a.getD k dLk).route).toNat [])))))), (74, .b (!(((findV e c).span).any (fun s => decide (s ∈ (d.getD ((a.getD k dLk).route).toNat [])))))), (73, .b (!(((findV e c).span).any (fun s => decide (s ∈ (d.getD ((a.getD k dLk).route).toNat [])))))), (72, .b (((findV e c).span).any (fun s => decide (s ∈ (d.getD ((a.getD k dLk).route).toNat []))))), (71, .q eI (d.getD ((a.getD k dLk).route).toNat [])), (70, .ro ((findV e c).span.length) (enc eI ((findV e c).span))), (69, .pt 2 2), (68, .b (decide ((doL (Z9p e c p m t d g ow u) a c k) = []))), (67, .b (decide ((doL (Z9p e c p m t d g ow u) a c k) = []))), (66, lsA (doL (Z9p e c p m t d g ow u) a c k)), (65, .b (((a.getD k dLk).ends) != (-1))), (64, .b (((a.getD k dLk).ends) != (-1))), (63, .i ((a.getD k dLk).ends)), (62, .rp (((Z9r a k) : List AV) ++ ((enc eLk a).drop ((k + 1) * 4)))), (61, .rp (((Z9n a k) : List AV) ++ ((enc eLk a).drop ((k + 1) * 4)))), (60, .i (k : Int)), (59, .q eLk a)] mixed ?_ ?_
     ·iterate 33 (refine ⟨?_, ?_⟩; rotate_left)
      trivial
      ·exact sMv
      ·exact sMv
      ·exact (sIx dLk ut41 sz58)
      ·exact sF (Z9s a k) (Z9x a k) ft58_2 sz2
      ·exact (sLd ag2)
      ·exact sB (.bool (((a.getD k dLk).ends) != (-1))) rfl
      ·exact sMv
      ·exact gy0 hq0 sMv
      ·exact gy0 hq0 (dW 67 fun st hob hE => aop_lsNil rfl rfl rfl ut48 (hE 66 rfl) rfl (.inl ⟨rfl, rfl⟩) (by rw [hob]; rfl))
      ·exact gy0 hq0 sMv
      ·exact gy1 hq1 (sF (.pt 2 0) (.pt 2 2) ft69_2 sz48)
      ·exact gy1 hq1 (sL ag48)
      ·exact gy1 hq1 sMv
      ·exact gy1 hq1 (dW 72 fun st hob hE => call_ (r11_Meets ((findV e c).span) (d.getD ((a.getD k dLk).route).toNat []) oo oo) rfl rfl rfl rfl rfl bd38 (by show [st.env 70, st.env 71] ++ _ = _; rw [hE 70 rfl, hE 71 rfl]; rfl) (by rw [hob]; rfl))
      ·exact gy1 hq1 (dW 73 fun st hob hE => aop_not rfl rfl rfl (hE 72 rfl) (by rw [hob]; rfl))
      ·exact gy0 hq0 (dW 74 fun st hob hE => aop_pick (b := (decide ((doL (Z9p e c p m t d g ow u) a c k) = []))) (av := .b (!(((findV e c).span).any (fun s => decide (s ∈ (d.getD ((a.getD k dLk).route).toNat [])))))) rfl rfl rfl (hE 68 rfl) (by rw [hq1]; exact hE 73 rfl) (by rw [hob]; rfl))
      ·exact dW 75 fun st hob hE => aop_pick (b := (((a.getD k dLk).ends) != (-1))) (av := .b (!(((findV e c).span).any (fun s => decide (s ∈ (d.getD ((a.getD k dLk).route).toNat [])))))) rfl rfl rfl (hE 65 rfl) (by rw [hq0]; exact hE 74 rfl) (by rw [hob]; rfl)
      ·exact sMv
      ·exact gn0 hq2
      ·exact gn0 hq2
      ·exact gn0 hq2
      ·exact ⟨79, undef, rfl, blt_lt rfl, rfl, (fun h => by cases h), (fun _ => ⟨80, rfl, blt_lt rfl, .inr rfl⟩)⟩
      ·exact ⟨79, undef, rfl, blt_lt rfl, rfl, (fun h => by cases h), (fun _ => ⟨81, rfl, blt_lt rfl, .inr rfl⟩)⟩
      ·exact ⟨79, undef, rfl, blt_lt rfl, rfl, (fun h => by cases h), (fun _ => ⟨82, rfl, blt_lt rfl, .inr rfl⟩)⟩
      ·exact ⟨79, undef, rfl, blt_lt rfl, rfl, (fun h => by cases h), (fun _ => ⟨83, rfl, blt_lt rfl, .inr rfl⟩)⟩
      ·exact ⟨79, undef, rfl, blt_lt rfl, rfl, (fun h => by cases h), (fun _ => ⟨84, rfl, blt_lt rfl, .inr rfl⟩)⟩
      ·exact ⟨79, undef, rfl, blt_lt rfl, rfl, (fun h => by cases h), (fun _ => ⟨85, rfl, blt_lt rfl, .inr rfl⟩)⟩
      ·exact ⟨79, undef, rfl, blt_lt rfl, rfl, (fun h => by cases h), (fun _ => ⟨86, rfl, blt_lt rfl, .inr rfl⟩)⟩
      ·exact ⟨79, undef, rfl, blt_lt rfl, rfl, (fun h => by cases h), (fun _ => ⟨87, rfl, blt_lt rfl, .inr rfl⟩)⟩
      ·exact ⟨79, undef, rfl, blt_lt rfl, rfl, (fun h => by cases h), (fun _ => ⟨88, rfl, blt_lt rfl, .inr rfl⟩)⟩
      ·exact ⟨79, undef, rfl, blt_lt rfl, rfl, (fun h => by cases h), (fun _ => ⟨89, rfl, blt_lt rfl, .inr rfl⟩)⟩
      ·exact gn0 hq2
      exact sPk (!(((findV e c).span).any (fun s => decide (s ∈ (d.getD ((a.getD k dLk).route).toNat []))))) (.b true) hq2
     refine op0 ?_
     show Imp _ _ _
     exact iL [(1, 1), (2, 2), (3, 3)] [((1, 1), .live _), ((2, 2), .live _), ((3, 3), .live _)] ⟨row_no rfl rfl, row_no rfl rfl, row_no rfl rfl, trivial⟩ (he := (sS (by exact congrArg (fun b_ => AV.v (.bool b_)) (by first | (rw [hlkE, hq0]; rfl) | (rw [hlkE, hq0, hq1]; rfl) | (rw [hlkE, hq0, hq1, hq2]; rfl) | (exfalso; rw [hq1] at hq2; cases hq2) | (exfalso; rw [hq1] at hq3; cases hq3))) (sS rfl (sS rfl (sS rfl (sM rfl (sM rfl (sS rfl (sM rfl (sS rfl (sS rfl (sS rfl (sS rfl (sS rfl sr_none))))))))))))))
    have hf16 := not_f hq2
    refine (Bool.eq_false_or_eq_true (!decide ((doL (Z9p e c p m t d g ow u) a c k) = []))).elim (fun hq3 => ?_) (fun hq3 => ?_)
    ·skip
     refine aD 33 [(91, .b (((d.getD ((a.getD k dLk).route).toNat []).getD 0 0) != ((doL (Z9p e c p m t d g ow u) a c k).getD (((doL (Z9p e c p m t d g ow u) a c k).length : Int) - 1).toNat 0))), (90, .b (((d.getD ((a.getD k dLk).route).toNat []).getD 0 0) != ((doL (Z9p e c p m t d g ow u) a c k).getD (((doL (Z9p e c p m t d g ow u) a c k).length : Int) - 1).toNat 0))), (89, .b (((d.getD ((a.getD k dLk).route).toNat []).getD 0 0) != ((doL (Z9p e c p m t d g ow u) a c k).getD (((doL (Z9p e c p m t d g ow u) a c k).length : Int) - 1).toNat 0))), (88, .i ((doL (Z9p e c p m t d g ow u) a c k).getD (((doL (Z9p e c p m t d g ow u) a c k).length : Int) - 1).toNat 0)), (87, .rp (([.i ((doL (Z9p e c p m t d g ow u) a c k).getD (((doL (Z9p e c p m t d g ow u) a c k).length : Int) - 1).toNat 0)] : List AV) ++ ((enc eI (doL (Z9p e c p m t d g ow u) a c k)).drop (((((doL (Z9p e c p m t d g ow u) a c k).length : Int) - 1).toNat + 1) * 1)))), (86, .i (((doL (Z9p e c p m t d g ow u) a c k).length : Int) - 1)), (85, .i ((doL (Z9p e c p m t d g ow u) a c k).length : Int)), (84, lsA (doL (Z9p e c p m t d g ow u) a c k)), (83, lsA (doL (Z9p e c p m t d g ow u) a c k)), (82, .i ((d.getD ((a.getD k dLk).route).toNat []).getD 0 0)), (81, .rp (([.i ((d.getD ((a.getD k dLk).route).toNat []).getD 0 0)] : List AV) ++ ((enc eI (d.getD ((a.getD k dLk).route).toNat [])).drop ((0 + 1) * 1)))), (80, .q eI (d.getD ((a.getD k dLk).route).toNat [])), (79, .b (!decide ((doL (Z9p e c p m t d g ow u) a c k) = []))), (78, .b (!decide ((doL (Z9p e c p m t d g ow u) a c k) = []))), (77, lsA (doL (Z9p e c p m t d g ow u) a c k)), (76, .b (!(((findV e c).span).any (fun s => decide (s ∈ (d.getD ((a.getD k dLk).route).toNat [])))))), (75, .b (!(((findV e c).span).any (fun s => decide (s ∈ (d.getD ((a.getD k dLk).route).toNat [])))))), (74, .b (!(((findV e c).span).any (fun s => decide (s ∈ (d.getD ((a.getD k dLk).route).toNat [])))))), (73, .b (!(((findV e c).span).any (fun s => decide (s ∈ (d.getD ((a.getD k dLk).route).toNat [])))))), (72, .b (((findV e c).span).any (fun s => decide (s ∈ (d.getD ((a.getD k dLk).route).toNat []))))), (71, .q eI (d.getD ((a.getD k dLk).route).toNat [])), (70, .ro ((findV e c).span.length) (enc eI ((findV e c).span))), (69, .pt 2 2), (68, .b (decide ((doL (Z9p e c p m t d g ow u) a c k) = []))), (67, .b (decide ((doL (Z9p e c p m t d g ow u) a c k) = []))), (66, lsA (doL (Z9p e c p m t d g ow u) a c k)), (65, .b (((a.getD k dLk).ends) != (-1))), (64, .b (((a.getD k dLk).ends) != (-1))), (63, .i ((a.getD k dLk).ends)), (62, .rp (((Z9r a k) : List AV) ++ ((enc eLk a).drop ((k + 1) * 4)))), (61, .rp (((Z9n a k) : List AV) ++ ((enc eLk a).drop ((k + 1) * 4)))), (60, .i (k : Int)), (59, .q eLk a)] mixed ?_ ?_
     ·iterate 33 (refine ⟨?_, ?_⟩; rotate_left)
      trivial
      ·exact sMv
      ·exact sMv
      ·exact (sIx dLk ut41 sz58)
      ·exact sF (Z9s a k) (Z9x a k) ft58_2 sz2
      ·exact (sLd ag2)
      ·exact sB (.bool (((a.getD k dLk).ends) != (-1))) rfl
      ·exact sMv
      ·exact gy0 hq0 sMv
      ·exact gy0 hq0 (dW 67 fun st hob hE => aop_lsNil rfl rfl rfl ut48 (hE 66 rfl) rfl (.inl ⟨rfl, rfl⟩) (by rw [hob]; rfl))
      ·exact gy0 hq0 sMv
      ·exact gy1 hq1 (sF (.pt 2 0) (.pt 2 2) ft69_2 sz48)
      ·exact gy1 hq1 (sL ag48)
      ·exact gy1 hq1 sMv
      ·exact gy1 hq1 (dW 72 fun st hob hE => call_ (r11_Meets ((findV e c).span) (d.getD ((a.getD k dLk).route).toNat []) oo oo) rfl rfl rfl rfl rfl bd38 (by show [st.env 70, st.env 71] ++ _ = _; rw [hE 70 rfl, hE 71 rfl]; rfl) (by rw [hob]; rfl))
      ·exact gy1 hq1 (dW 73 fun st hob hE => aop_not rfl rfl rfl (hE 72 rfl) (by rw [hob]; rfl))
      ·exact gy0 hq0 (dW 74 fun st hob hE => aop_pick (b := (decide ((doL (Z9p e c p m t d g ow u) a c k) = []))) (av := .b (!(((findV e c).span).any (fun s => decide (s ∈ (d.getD ((a.getD k dLk).route).toNat [])))))) rfl rfl rfl (hE 68 rfl) (by rw [hq1]; exact hE 73 rfl) (by rw [hob]; rfl))
      ·exact dW 75 fun st hob hE => aop_pick (b := (((a.getD k dLk).ends) != (-1))) (av := .b (!(((findV e c).span).any (fun s => decide (s ∈ (d.getD ((a.getD k dLk).route).toNat [])))))) rfl rfl rfl (hE 65 rfl) (by rw [hq0]; exact hE 74 rfl) (by rw [hob]; rfl)
      ·exact sMv
      ·exact gy0 hq2 sMv
      ·exact gy0 hq2 (dW 78 fun st hob hE => aop_lsNil rfl rfl rfl ut48 (hE 77 rfl) rfl (.inr ⟨rfl, rfl⟩) (by rw [hob]; rfl))
      ·exact gy0 hq2 sMv
      ·exact gy1 hq3 sMv
      ·exact gy1 hq3 (dW 81 fun st hob hE => aop_ixE (k := 0) 0 rfl rfl rfl ut48 sz3 (hE 80 rfl) rfl (fun _ => rfl) rfl oo (by rw [hob]; rfl))
      ·exact gy1 hq3 (sLd ag3)
      ·exact gy1 hq3 sMv
      ·exact gy1 hq3 sMv
      ·exact gy1 hq3 (dW 85 fun st hob hE => aop_len rfl rfl rfl rfl ut48 (len_ls (hE 84 rfl)) (by rw [hob]; rfl))
      ·exact gy1 hq3 (sB (.int .i64 (((doL (Z9p e c p m t d g ow u) a c k).length : Int) - 1)) (subI om))
      ·exact gy1 hq3 (dW 87 fun st hob hE => aop_ixI 0 rfl rfl rfl ut48 sz3 (((hE 83 rfl)).trans (ls_ne (by simpa using (show (!decide ((doL (Z9p e c p m t d g ow u) a c k) = [])) = true by assumption)))) (hE 86 rfl) (fun _ => rfl) rfl (by have h_ := List.length_pos_iff.2 (by simpa using (show (!decide ((doL (Z9p e c p m t d g ow u) a c k) = [])) = true by assumption)); omega) (by have h_ := List.length_pos_iff.2 (by simpa using (show (!decide ((doL (Z9p e c p m t d g ow u) a c k) = [])) = true by assumption)); omega) (by rw [hob]; rfl))
      ·exact gy1 hq3 (sLd ag3)
      ·exact gy1 hq3 (sB (.bool (((d.getD ((a.getD k dLk).route).toNat []).getD 0 0) != ((doL (Z9p e c p m t d g ow u) a c k).getD (((doL (Z9p e c p m t d g ow u) a c k).length : Int) - 1).toNat 0))) rfl)
      ·exact gy0 hq2 (dW 90 fun st hob hE => aop_pick (b := (!decide ((doL (Z9p e c p m t d g ow u) a c k) = []))) (av := .b (((d.getD ((a.getD k dLk).route).toNat []).getD 0 0) != ((doL (Z9p e c p m t d g ow u) a c k).getD (((doL (Z9p e c p m t d g ow u) a c k).length : Int) - 1).toNat 0))) rfl rfl rfl (hE 79 rfl) (by rw [hq3]; exact hE 89 rfl) (by rw [hob]; rfl))
      exact dW 91 fun st hob hE => aop_pick (b := (!(((findV e c).span).any (fun s => decide (s ∈ (d.getD ((a.getD k dLk).route).toNat [])))))) (av := .b (((d.getD ((a.getD k dLk).route).toNat []).getD 0 0) != ((doL (Z9p e c p m t d g ow u) a c k).getD (((doL (Z9p e c p m t d g ow u) a c k).length : Int) - 1).toNat 0))) rfl rfl rfl (hE 76 rfl) (by rw [hq2]; exact hE 90 rfl) (by rw [hob]; rfl)
     refine op0 ?_
     show Imp _ _ _
     exact iL [(1, 1), (2, 2), (3, 3)] [((1, 1), .live _), ((2, 2), .live _), ((3, 3), .live _)] ⟨row_no rfl rfl, row_no rfl rfl, row_no rfl rfl, trivial⟩ (he := (sS (by exact congrArg (fun b_ => AV.v (.bool b_)) (by first | (rw [hlkE, hq0]; rfl) | (rw [hlkE, hq0, hq1]; rfl) | (rw [hlkE, hq0, hq1, hq2]; rfl) | (exfalso; rw [hq1] at hq2; cases hq2) | (exfalso; rw [hq1] at hq3; cases hq3))) (sS rfl (sS rfl (sS rfl (sM rfl (sM rfl (sS rfl (sM rfl (sS rfl (sS rfl (sS rfl (sS rfl (sS rfl sr_none))))))))))))))
    refine aD 33 [(91, .b false), (90, .b false), (89, .v undef), (88, .v undef), (87, .v undef), (86, .v undef), (85, .v undef), (84, .v undef), (83, .v undef), (82, .v undef), (81, .v undef), (80, .v undef), (79, .b (!decide ((doL (Z9p e c p m t d g ow u) a c k) = []))), (78, .b (!decide ((doL (Z9p e c p m t d g ow u) a c k) = []))), (77, lsA (doL (Z9p e c p m t d g ow u) a c k)), (76, .b (!(((findV e c).span).any (fun s => decide (s ∈ (d.getD ((a.getD k dLk).route).toNat [])))))), (75, .b (!(((findV e c).span).any (fun s => decide (s ∈ (d.getD ((a.getD k dLk).route).toNat [])))))), (74, .b (!(((findV e c).span).any (fun s => decide (s ∈ (d.getD ((a.getD k dLk).route).toNat [])))))), (73, .b (!(((findV e c).span).any (fun s => decide (s ∈ (d.getD ((a.getD k dLk).route).toNat [])))))), (72, .b (((findV e c).span).any (fun s => decide (s ∈ (d.getD ((a.getD k dLk).route).toNat []))))), (71, .q eI (d.getD ((a.getD k dLk).route).toNat [])), (70, .ro ((findV e c).span.length) (enc eI ((findV e c).span))), (69, .pt 2 2), (68, .b (decide ((doL (Z9p e c p m t d g ow u) a c k) = []))), (67, .b (decide ((doL (Z9p e c p m t d g ow u) a c k) = []))), (66, lsA (doL (Z9p e c p m t d g ow u) a c k)), (65, .b (((a.getD k dLk).ends) != (-1))), (64, .b (((a.getD k dLk).ends) != (-1))), (63, .i ((a.getD k dLk).ends)), (62, .rp (((Z9r a k) : List AV) ++ ((enc eLk a).drop ((k + 1) * 4)))), (61, .rp (((Z9n a k) : List AV) ++ ((enc eLk a).drop ((k + 1) * 4)))), (60, .i (k : Int)), (59, .q eLk a)] mixed ?_ ?_
    ·iterate 33 (refine ⟨?_, ?_⟩; rotate_left)
     trivial
     ·exact sMv
     ·exact sMv
     ·exact (sIx dLk ut41 sz58)
     ·exact sF (Z9s a k) (Z9x a k) ft58_2 sz2
     ·exact (sLd ag2)
     ·exact sB (.bool (((a.getD k dLk).ends) != (-1))) rfl
     ·exact sMv
     ·exact gy0 hq0 sMv
     ·exact gy0 hq0 (dW 67 fun st hob hE => aop_lsNil rfl rfl rfl ut48 (hE 66 rfl) rfl (.inl ⟨rfl, rfl⟩) (by rw [hob]; rfl))
     ·exact gy0 hq0 sMv
     ·exact gy1 hq1 (sF (.pt 2 0) (.pt 2 2) ft69_2 sz48)
     ·exact gy1 hq1 (sL ag48)
     ·exact gy1 hq1 sMv
     ·exact gy1 hq1 (dW 72 fun st hob hE => call_ (r11_Meets ((findV e c).span) (d.getD ((a.getD k dLk).route).toNat []) oo oo) rfl rfl rfl rfl rfl bd38 (by show [st.env 70, st.env 71] ++ _ = _; rw [hE 70 rfl, hE 71 rfl]; rfl) (by rw [hob]; rfl))
     ·exact gy1 hq1 (dW 73 fun st hob hE => aop_not rfl rfl rfl (hE 72 rfl) (by rw [hob]; rfl))
     ·exact gy0 hq0 (dW 74 fun st hob hE => aop_pick (b := (decide ((doL (Z9p e c p m t d g ow u) a c k) = []))) (av := .b (!(((findV e c).span).any (fun s => decide (s ∈ (d.getD ((a.getD k dLk).route).toNat [])))))) rfl rfl rfl (hE 68 rfl) (by rw [hq1]; exact hE 73 rfl) (by rw [hob]; rfl))
     ·exact dW 75 fun st hob hE => aop_pick (b := (((a.getD k dLk).ends) != (-1))) (av := .b (!(((findV e c).span).any (fun s => decide (s ∈ (d.getD ((a.getD k dLk).route).toNat [])))))) rfl rfl rfl (hE 65 rfl) (by rw [hq0]; exact hE 74 rfl) (by rw [hob]; rfl)
     ·exact sMv
     ·exact gy0 hq2 sMv
     ·exact gy0 hq2 (dW 78 fun st hob hE => aop_lsNil rfl rfl rfl ut48 (hE 77 rfl) rfl (.inr ⟨rfl, rfl⟩) (by rw [hob]; rfl))
     ·exact gy0 hq2 sMv
     ·exact gn1 hq3
     ·exact gn1 hq3
     ·exact gn1 hq3
     ·exact gn1 hq3
     ·exact gn1 hq3
     ·exact gn1 hq3
     ·exact gn1 hq3
     ·exact gn1 hq3
     ·exact gn1 hq3
     ·exact gn1 hq3
     ·exact gy0 hq2 (sPk (!decide ((doL (Z9p e c p m t d g ow u) a c k) = [])) (.b false) hq3)
     exact dW 91 fun st hob hE => aop_pick (b := (!(((findV e c).span).any (fun s => decide (s ∈ (d.getD ((a.getD k dLk).route).toNat [])))))) (av := .b false) rfl rfl rfl (hE 76 rfl) (by rw [hq2]; exact hE 90 rfl) (by rw [hob]; rfl)
    refine op0 ?_
    show Imp _ _ _
    exact iL [(1, 1), (2, 2), (3, 3)] [((1, 1), .live _), ((2, 2), .live _), ((3, 3), .live _)] ⟨row_no rfl rfl, row_no rfl rfl, row_no rfl rfl, trivial⟩ (he := (sS (by exact congrArg (fun b_ => AV.v (.bool b_)) (by first | (rw [hlkE, hq0]; rfl) | (rw [hlkE, hq0, hq1]; rfl) | (rw [hlkE, hq0, hq1, hq2]; rfl) | (exfalso; rw [hq1] at hq2; cases hq2) | (exfalso; rw [hq1] at hq3; cases hq3))) (sS rfl (sS rfl (sS rfl (sM rfl (sM rfl (sS rfl (sM rfl (sS rfl (sS rfl (sS rfl (sS rfl (sS rfl sr_none))))))))))))))
   refine (Bool.eq_false_or_eq_true (!decide ((doL (Z9p e c p m t d g ow u) a c k) = []))).elim (fun hq2 => ?_) (fun hq2 => ?_)
   ·skip
    refine aD 33 [(91, .b (((d.getD ((a.getD k dLk).route).toNat []).getD 0 0) != ((doL (Z9p e c p m t d g ow u) a c k).getD (((doL (Z9p e c p m t d g ow u) a c k).length : Int) - 1).toNat 0))), (90, .b (((d.getD ((a.getD k dLk).route).toNat []).getD 0 0) != ((doL (Z9p e c p m t d g ow u) a c k).getD (((doL (Z9p e c p m t d g ow u) a c k).length : Int) - 1).toNat 0))), (89, .b (((d.getD ((a.getD k dLk).route).toNat []).getD 0 0) != ((doL (Z9p e c p m t d g ow u) a c k).getD (((doL (Z9p e c p m t d g ow u) a c k).length : Int) - 1).toNat 0))), (88, .i ((doL (Z9p e c p m t d g ow u) a c k).getD (((doL (Z9p e c p m t d g ow u) a c k).length : Int) - 1).toNat 0)), (87, .rp (([.i ((doL (Z9p e c p m t d g ow u) a c k).getD (((doL (Z9p e c p m t d g ow u) a c k).length : Int) - 1).toNat 0)] : List AV) ++ ((enc eI (doL (Z9p e c p m t d g ow u) a c k)).drop (((((doL (Z9p e c p m t d g ow u) a c k).length : Int) - 1).toNat + 1) * 1)))), (86, .i (((doL (Z9p e c p m t d g ow u) a c k).length : Int) - 1)), (85, .i ((doL (Z9p e c p m t d g ow u) a c k).length : Int)), (84, lsA (doL (Z9p e c p m t d g ow u) a c k)), (83, lsA (doL (Z9p e c p m t d g ow u) a c k)), (82, .i ((d.getD ((a.getD k dLk).route).toNat []).getD 0 0)), (81, .rp (([.i ((d.getD ((a.getD k dLk).route).toNat []).getD 0 0)] : List AV) ++ ((enc eI (d.getD ((a.getD k dLk).route).toNat [])).drop ((0 + 1) * 1)))), (80, .q eI (d.getD ((a.getD k dLk).route).toNat [])), (79, .b (!decide ((doL (Z9p e c p m t d g ow u) a c k) = []))), (78, .b (!decide ((doL (Z9p e c p m t d g ow u) a c k) = []))), (77, lsA (doL (Z9p e c p m t d g ow u) a c k)), (76, .b false), (75, .b false), (74, .b false), (73, .v undef), (72, .v undef), (71, .v undef), (70, .v undef), (69, .v undef), (68, .b (decide ((doL (Z9p e c p m t d g ow u) a c k) = []))), (67, .b (decide ((doL (Z9p e c p m t d g ow u) a c k) = []))), (66, lsA (doL (Z9p e c p m t d g ow u) a c k)), (65, .b (((a.getD k dLk).ends) != (-1))), (64, .b (((a.getD k dLk).ends) != (-1))), (63, .i ((a.getD k dLk).ends)), (62, .rp (((Z9r a k) : List AV) ++ ((enc eLk a).drop ((k + 1) * 4)))), (61, .rp (((Z9n a k) : List AV) ++ ((enc eLk a).drop ((k + 1) * 4)))), (60, .i (k : Int)), (59, .q eLk a)] mixed ?_ ?_
    ·iterate 33 (refine ⟨?_, ?_⟩; rotate_left)
     trivial
     ·exact sMv
     ·exact sMv
     ·exact (sIx dLk ut41 sz58)
     ·exact sF (Z9s a k) (Z9x a k) ft58_2 sz2
     ·exact (sLd ag2)
     ·exact sB (.bool (((a.getD k dLk).ends) != (-1))) rfl
     ·exact sMv
     ·exact gy0 hq0 sMv
     ·exact gy0 hq0 (dW 67 fun st hob hE => aop_lsNil rfl rfl rfl ut48 (hE 66 rfl) rfl (.inl ⟨rfl, rfl⟩) (by rw [hob]; rfl))
     ·exact gy0 hq0 sMv
     ·exact gn1 hq1
     ·exact gn1 hq1
     ·exact gn1 hq1
     ·exact gn1 hq1
     ·exact gn1 hq1
     ·exact gy0 hq0 (sPk (decide ((doL (Z9p e c p m t d g ow u) a c k) = [])) (.b false) hq1)
     ·exact dW 75 fun st hob hE => aop_pick (b := (((a.getD k dLk).ends) != (-1))) (av := .b false) rfl rfl rfl (hE 65 rfl) (by rw [hq0]; exact hE 74 rfl) (by rw [hob]; rfl)
     ·exact sMv
     ·exact gy0 rfl sMv
     ·exact gy0 rfl (dW 78 fun st hob hE => aop_lsNil rfl rfl rfl ut48 (hE 77 rfl) rfl (.inr ⟨rfl, rfl⟩) (by rw [hob]; rfl))
     ·exact gy0 rfl sMv
     ·exact gy1 hq2 sMv
     ·exact gy1 hq2 (dW 81 fun st hob hE => aop_ixE (k := 0) 0 rfl rfl rfl ut48 sz3 (hE 80 rfl) rfl (fun _ => rfl) rfl oo (by rw [hob]; rfl))
     ·exact gy1 hq2 (sLd ag3)
     ·exact gy1 hq2 sMv
     ·exact gy1 hq2 sMv
     ·exact gy1 hq2 (dW 85 fun st hob hE => aop_len rfl rfl rfl rfl ut48 (len_ls (hE 84 rfl)) (by rw [hob]; rfl))
     ·exact gy1 hq2 (sB (.int .i64 (((doL (Z9p e c p m t d g ow u) a c k).length : Int) - 1)) (subI om))
     ·exact gy1 hq2 (dW 87 fun st hob hE => aop_ixI 0 rfl rfl rfl ut48 sz3 (((hE 83 rfl)).trans (ls_ne (by simpa using (show (!decide ((doL (Z9p e c p m t d g ow u) a c k) = [])) = true by assumption)))) (hE 86 rfl) (fun _ => rfl) rfl (by have h_ := List.length_pos_iff.2 (by simpa using (show (!decide ((doL (Z9p e c p m t d g ow u) a c k) = [])) = true by assumption)); omega) (by have h_ := List.length_pos_iff.2 (by simpa using (show (!decide ((doL (Z9p e c p m t d g ow u) a c k) = [])) = true by assumption)); omega) (by rw [hob]; rfl))
     ·exact gy1 hq2 (sLd ag3)
     ·exact gy1 hq2 (sB (.bool (((d.getD ((a.getD k dLk).route).toNat []).getD 0 0) != ((doL (Z9p e c p m t d g ow u) a c k).getD (((doL (Z9p e c p m t d g ow u) a c k).length : Int) - 1).toNat 0))) rfl)
     ·exact gy0 rfl (dW 90 fun st hob hE => aop_pick (b := (!decide ((doL (Z9p e c p m t d g ow u) a c k) = []))) (av := .b (((d.getD ((a.getD k dLk).route).toNat []).getD 0 0) != ((doL (Z9p e c p m t d g ow u) a c k).getD (((doL (Z9p e c p m t d g ow u) a c k).length : Int) - 1).toNat 0))) rfl rfl rfl (hE 79 rfl) (by rw [hq2]; exact hE 89 rfl) (by rw [hob]; rfl))
     exact dW 91 fun st hob hE => aop_pick (b := false) (av := .b (((d.getD ((a.getD k dLk).route).toNat []).getD 0 0) != ((doL (Z9p e c p m t d g ow u) a c k).getD (((doL (Z9p e c p m t d g ow u) a c k).length : Int) - 1).toNat 0))) rfl rfl rfl (hE 76 rfl) (hE 90 rfl) (by rw [hob]; rfl)
    refine op0 ?_
    show Imp _ _ _
    exact iL [(1, 1), (2, 2), (3, 3)] [((1, 1), .live _), ((2, 2), .live _), ((3, 3), .live _)] ⟨row_no rfl rfl, row_no rfl rfl, row_no rfl rfl, trivial⟩ (he := (sS (by exact congrArg (fun b_ => AV.v (.bool b_)) (by first | (rw [hlkE, hq0]; rfl) | (rw [hlkE, hq0, hq1]; rfl) | (rw [hlkE, hq0, hq1, hq2]; rfl) | (exfalso; rw [hq1] at hq2; cases hq2) | (exfalso; rw [hq1] at hq3; cases hq3))) (sS rfl (sS rfl (sS rfl (sM rfl (sM rfl (sS rfl (sM rfl (sS rfl (sS rfl (sS rfl (sS rfl (sS rfl sr_none))))))))))))))
   refine aD 33 [(91, .b false), (90, .b false), (89, .v undef), (88, .v undef), (87, .v undef), (86, .v undef), (85, .v undef), (84, .v undef), (83, .v undef), (82, .v undef), (81, .v undef), (80, .v undef), (79, .b (!decide ((doL (Z9p e c p m t d g ow u) a c k) = []))), (78, .b (!decide ((doL (Z9p e c p m t d g ow u) a c k) = []))), (77, lsA (doL (Z9p e c p m t d g ow u) a c k)), (76, .b false), (75, .b false), (74, .b false), (73, .v undef), (72, .v undef), (71, .v undef), (70, .v undef), (69, .v undef), (68, .b (decide ((doL (Z9p e c p m t d g ow u) a c k) = []))), (67, .b (decide ((doL (Z9p e c p m t d g ow u) a c k) = []))), (66, lsA (doL (Z9p e c p m t d g ow u) a c k)), (65, .b (((a.getD k dLk).ends) != (-1))), (64, .b (((a.getD k dLk).ends) != (-1))), (63, .i ((a.getD k dLk).ends)), (62, .rp (((Z9r a k) : List AV) ++ ((enc eLk a).drop ((k + 1) * 4)))), (61, .rp (((Z9n a k) : List AV) ++ ((enc eLk a).drop ((k + 1) * 4)))), (60, .i (k : Int)), (59, .q eLk a)] mixed ?_ ?_
   ·iterate 33 (refine ⟨?_, ?_⟩; rotate_left)
    trivial
    ·exact sMv
    ·exact sMv
    ·exact (sIx dLk ut41 sz58)
    ·exact sF (Z9s a k) (Z9x a k) ft58_2 sz2
    ·exact (sLd ag2)
    ·exact sB (.bool (((a.getD k dLk).ends) != (-1))) rfl
    ·exact sMv
    ·exact gy0 hq0 sMv
    ·exact gy0 hq0 (dW 67 fun st hob hE => aop_lsNil rfl rfl rfl ut48 (hE 66 rfl) rfl (.inl ⟨rfl, rfl⟩) (by rw [hob]; rfl))
    ·exact gy0 hq0 sMv
    ·exact gn1 hq1
    ·exact gn1 hq1
    ·exact gn1 hq1
    ·exact gn1 hq1
    ·exact gn1 hq1
    ·exact gy0 hq0 (sPk (decide ((doL (Z9p e c p m t d g ow u) a c k) = [])) (.b false) hq1)
    ·exact dW 75 fun st hob hE => aop_pick (b := (((a.getD k dLk).ends) != (-1))) (av := .b false) rfl rfl rfl (hE 65 rfl) (by rw [hq0]; exact hE 74 rfl) (by rw [hob]; rfl)
    ·exact sMv
    ·exact gy0 rfl sMv
    ·exact gy0 rfl (dW 78 fun st hob hE => aop_lsNil rfl rfl rfl ut48 (hE 77 rfl) rfl (.inr ⟨rfl, rfl⟩) (by rw [hob]; rfl))
    ·exact gy0 rfl sMv
    ·exact gn1 hq2
    ·exact gn1 hq2
    ·exact gn1 hq2
    ·exact gn1 hq2
    ·exact gn1 hq2
    ·exact gn1 hq2
    ·exact gn1 hq2
    ·exact gn1 hq2
    ·exact gn1 hq2
    ·exact gn1 hq2
    ·exact gy0 rfl (sPk (!decide ((doL (Z9p e c p m t d g ow u) a c k) = [])) (.b false) hq2)
    exact dW 91 fun st hob hE => aop_pick (b := false) (av := .b false) rfl rfl rfl (hE 76 rfl) (hE 90 rfl) (by rw [hob]; rfl)
   refine op0 ?_
   show Imp _ _ _
   exact iL [(1, 1), (2, 2), (3, 3)] [((1, 1), .live _), ((2, 2), .live _), ((3, 3), .live _)] ⟨row_no rfl rfl, row_no rfl rfl, row_no rfl rfl, trivial⟩ (he := (sS (by exact congrArg (fun b_ => AV.v (.bool b_)) (by first | (rw [hlkE, hq0]; rfl) | (rw [hlkE, hq0, hq1]; rfl) | (rw [hlkE, hq0, hq1, hq2]; rfl) | (exfalso; rw [hq1] at hq2; cases hq2) | (exfalso; rw [hq1] at hq3; cases hq3))) (sS rfl (sS rfl (sS rfl (sM rfl (sM rfl (sS rfl (sM rfl (sS rfl (sS rfl (sS rfl (sS rfl (sS rfl sr_none))))))))))))))
  refine awp_cond (!(lkB (Z9p e c p m t d g ow u) (a.getD k dLk) (doL (Z9p e c p m t d g ow u) a c k))) rfl rfl (fun hc3 => ?_) (fun hc3 => ?_)
  ·skip
   have hlt : (lkB (Z9p e c p m t d g ow u) (a.getD k dLk) (doL (Z9p e c p m t d g ow u) a c k)) = false := by simpa using hc3
   have hO := do_stop om htr hinv0 hlt
   refine seqR ?_
   refine mG (.sl 3 0 ((doO (Z9p e c p m t d g ow u) a c k).length)) ?_
   refine mG (.sl 3 0 ((doO (Z9p e c p m t d g ow u) a c k).length)) ?_
   refine op0 ?_
   refine awp_imp _ (imp_frozen rfl (fun _ h => h) (lee_lend 14 (.q eI (doO (Z9p e c p m t d g ow u) a c k)) (lend_s (id := 3) (n := (doO (Z9p e c p m t d g ow u) a c k).length) (o := ⟨(enc eI (doO (Z9p e c p m t d g ow u) a c k)), 3, 1⟩) rfl (enc_len (fun _ => rfl) (by first | rfl | (simp; done)))) lee_lend0)) ?_
   refine awp_ret ?_
   exact fret (av := .ro ((doO (Z9p e c p m t d g ow u) a c k).length) (enc eI (doO (Z9p e c p m t d g ow u) a c k))) rfl rfl (by rw [← hO] <;> rfl)
  have hlt : (lkB (Z9p e c p m t d g ow u) (a.getD k dLk) (doL (Z9p e c p m t d g ow u) a c k)) = true := by simpa using hc3
  refine awp_skip ?_
  refine awp_seq ?_
  refine seqR ?_
  refine mG (.i 0) ?_
  refine op0 ?_
  refine awp_block ?_
  refine awp_countI (fun j => ⟨(Z9q a g ow u c e p m t d k j), (updO (Z9o p m t d e c) 3 (.live ⟨(Z9t e c p m t d g ow u a k j), 3, 1⟩))⟩) (fun j => pcR (Z9p e c p m t d g ow u) (d.getD ((a.getD k dLk).route).toNat []) ((a.getD k dLk).pieces.drop j) j (pcO (d.getD ((a.getD k dLk).route).toNat []) (a.getD k dLk).pieces j) = pcF (Z9p e c p m t d g ow u) (d.getD ((a.getD k dLk).route).toNat []) (a.getD k dLk).pieces) ((a.getD k dLk).pieces.length) ?_ rfl (fun j hk_j hinv => ?_)
  ·skip
   exact iL [(1, 1), (2, 2), (3, 3)] [((1, 1), .live _), ((2, 2), .live _), ((3, 3), .live _)] ⟨row_no rfl rfl, row_no rfl rfl, row_no rfl (by exact congrArg (fun l_ => LObj.mk (enc eI l_) 3 1) (by simp [pcO])), trivial⟩ (he := (sS rfl (sS rfl (sS rfl (sS rfl (sM (by exact congrArg (AV.sl 3 0) (by simp [pcO])) (sM rfl (sS rfl (sM rfl (sS rfl (sS rfl (sS rfl (sS rfl (sS rfl sr_none))))))))))))))
  have hpol := pcO_len (d.getD ((a.getD k dLk).route).toNat []) (a.getD k dLk).pieces j
  refine awp_seq ?_
  refine seqR ?_
  refine mG (.i (j : Int)) ?_
  refine mG (.q eLk a) ?_
  refine mG (.i (k : Int)) ?_
  refine oG (qX dLk ut41 sz58 ?_)
  refine oG (qF (Z9s a k) (Za2 a k) ft58_3 sz27 ?_)
  refine oG (qL (.ro ((a.getD k dLk).pieces.length) (Za1 a k)) ag27 ?_)
  refine oG (qN ut27 ?_)
  refine bG ((.bool (decide ((j : Int) < ((a.getD k dLk).pieces.length : Int))))) ?_
  refine rU (upd (Z9q a g ow u c e p m t d k j) 100 (.b (decide ((j : Int) < ((a.getD k dLk).pieces.length : Int))))) (updO (Z9o p m t d e c) 3 (.live ⟨(Z9t e c p m t d g ow u a k j), 3, 1⟩)) ?_
  refine awp_cond (decide ((j : Int) < ((a.getD k dLk).pieces.length : Int))) rfl rfl (fun hc4 => ?_) (fun hc4 => ?_)
  ·skip
   have hf19 := of_decide_eq_true hc4
   have hjp : j + 1 < (d.getD ((a.getD k dLk).route).toNat []).length := by omega
   have hsdl := stD_len (secs := p) (pts := t) (path := (d.getD ((a.getD k dLk).route).toNat [])) (k := j)
   have hsr := hpst _ (getD_mem (l := (d.getD ((a.getD k dLk).route).toNat [])) (k := j + 1) 0 hjp)
   have hpo : 0 ≤ partI m ((d.getD ((a.getD k dLk).route).toNat []).getD (j + 1) 0) ∧ partI m ((d.getD ((a.getD k dLk).route).toNat []).getD (j + 1) 0) < (ow.length : Int) := hf.hpo _ hsr.1 hsr.2
   refine awp_skip ?_
   refine awp_seq ?_
   refine awp_block ?_
   refine awp_seq ?_
   refine seqR ?_
   refine mG (.q eLk a) ?_
   refine mG (.i (k : Int)) ?_
   refine oG (qX dLk ut41 sz58 ?_)
   refine oG (qF (Z9s a k) (Za2 a k) ft58_3 sz27 ?_)
   refine oG (qL (.ro ((a.getD k dLk).pieces.length) (Za1 a k)) ag27 ?_)
   refine mG (.i (j : Int)) ?_
   refine oG (qX (0 : Int) ut27 sz5 ?_)
   refine oG (qL (.v (.int .u8 (((a.getD k dLk).pieces).getD j 0))) ag5 ?_)
   refine bG ((.bool ((((a.getD k dLk).pieces).getD j 0) == 0))) ?_
   refine rU (upd (Z9q a g ow u c e p m t d k j) 111 (.b ((((a.getD k dLk).pieces).getD j 0) == 0))) (updO (Z9o p m t d e c) 3 (.live ⟨(Z9t e c p m t d g ow u a k j), 3, 1⟩)) ?_
   refine awp_cond ((((a.getD k dLk).pieces).getD j 0) == 0) rfl rfl (fun hc5 => ?_) (fun hc5 => ?_)
   ·skip
    have hf20 := (beq_iff_eq).1 hc5
    have hz_ : ((a.getD k dLk).pieces).getD j 0 = 0 := (beq_iff_eq).1 hc5
    refine awp_exit ?_
    refine regR ?_
    refine mG (.i (j : Int)) ?_
    refine oG (qB (.int .i64 ((j + 1 : Nat) : Int)) (addN om) ?_)
    refine mG (.i ((j + 1 : Nat) : Int)) ?_
    refine op0 ?_
    show _ ∧ _
    have hs_ := pcO_no (path := (d.getD ((a.getD k dLk).route).toNat [])) (ps := (a.getD k dLk).pieces) (k := j) hz_
    refine ⟨by omega, (by first | exact pc_no om hinv hz_ | exact pc_on om hinv hz_ hok), ?_⟩
    exact iL [(1, 1), (2, 2), (3, 3)] [((1, 1), .live _), ((2, 2), .live _), ((3, 3), .live _)] ⟨row_no rfl rfl, row_no rfl rfl, row_no rfl (by exact congrArg (fun l_ => LObj.mk (enc eI l_) 3 1) (by (try simp only [Za1, Za0, Z9y, Z9t, Z9r, Z9n]); rw [hs_])), trivial⟩ (he := (sS rfl (sS rfl (sS rfl (sS rfl (sM (by exact congrArg (AV.sl 3 0) (by (try simp only [Za1, Za0, Z9y, Z9t, Z9r, Z9n]); rw [hs_])) (sM rfl (sS rfl (sM rfl (sS rfl (sS rfl (sS rfl (sS rfl (sS rfl sr_none))))))))))))))
   have hf21 := (beq_eq_false_iff_ne).1 hc5
   have hz_ : ¬ ((a.getD k dLk).pieces).getD j 0 = 0 := (beq_eq_false_iff_ne).1 hc5
   have hVo : (((g.getD ((d.getD ((a.getD k dLk).route).toNat []).getD (j + 1) 0).toNat 0) == 0) || (((g.getD ((d.getD ((a.getD k dLk).route).toNat []).getD (j + 1) 0).toNat 0) == 1) && ((ow.getD (partI m ((d.getD ((a.getD k dLk).route).toNat []).getD (j + 1) 0)).toNat 0) == c))) = openB (Z9p e c p m t d g ow u) ((d.getD ((a.getD k dLk).route).toNat []).getD (j + 1) 0) := by unfold openB; rw [show ((Z9p e c p m t d g ow u)).id = c from hid]; rfl
   refine awp_skip ?_
   refine seqR ?_
   refine mG (Z9z d a k) ?_
   refine mG (.i (j : Int)) ?_
   refine oG (qB (.int .i64 ((j + 1 : Nat) : Int)) (addN om) ?_)
   refine oG (qX (0 : Int) ut48 sz3 ?_)
   refine oG (qL (.i ((d.getD ((a.getD k dLk).route).toNat []).getD (j + 1) 0)) ag3 ?_)
   refine mG (.i ((d.getD ((a.getD k dLk).route).toNat []).getD (j + 1) 0)) ?_
   refine rU (upd (Z9q a g ow u c e p m t d k j) 22 (.i ((d.getD ((a.getD k dLk).route).toNat []).getD (j + 1) 0))) (updO (Z9o p m t d e c) 3 (.live ⟨(Z9t e c p m t d g ow u a k j), 3, 1⟩)) ?_
   refine seqR ?_
   refine mG (.q eU8 g) ?_
   refine mG (.i ((d.getD ((a.getD k dLk).route).toNat []).getD (j + 1) 0)) ?_
   refine oG (aop_ixI 0 rfl rfl rfl ut27 sz5 rfl rfl (fun _ => rfl) rfl om oo ?_)
   refine oG (qL (.v (.int .u8 (g.getD ((d.getD ((a.getD k dLk).route).toNat []).getD (j + 1) 0).toNat 0))) ag5 ?_)
   refine bG ((.bool ((g.getD ((d.getD ((a.getD k dLk).route).toNat []).getD (j + 1) 0).toNat 0) == 0))) ?_
   refine mG (.b ((g.getD ((d.getD ((a.getD k dLk).route).toNat []).getD (j + 1) 0).toNat 0) == 0)) ?_
   refine aops_grp 16 138 (.b (((g.getD ((d.getD ((a.getD k dLk).route).toNat []).getD (j + 1) 0).toNat 0) == 0) || (((g.getD ((d.getD ((a.getD k dLk).route).toNat []).getD (j + 1) 0).toNat 0) == 1) && ((ow.getD (partI m ((d.getD ((a.getD k dLk).route).toNat []).getD (j + 1) 0)).toNat 0) == c)))) ?_ ?_
   ·refine (Bool.eq_false_or_eq_true ((g.getD ((d.getD ((a.getD k dLk).route).toNat []).getD (j + 1) 0).toNat 0) == 0)).elim (fun hg22 => ?_) (fun hg22 => ?_)
    ·skip
     have hf23 := (beq_iff_eq).1 hg22
     refine nG hg22 ?_
     refine nG hg22 ?_
     refine nG hg22 ?_
     refine nG hg22 ?_
     refine nG hg22 ?_
     refine nG hg22 ?_
     refine opN rfl rfl rfl rfl (by intro h; cases h) rfl rfl ?_
     refine opN rfl rfl rfl rfl (by intro h; cases h) rfl rfl ?_
     refine opN rfl rfl rfl rfl (by intro h; cases h) rfl rfl ?_
     refine opN rfl rfl rfl rfl (by intro h; cases h) rfl rfl ?_
     refine opN rfl rfl rfl rfl (by intro h; cases h) rfl rfl ?_
     refine opN rfl rfl rfl rfl (by intro h; cases h) rfl rfl ?_
     refine opN rfl rfl rfl rfl (by intro h; cases h) rfl rfl ?_
     refine opN rfl rfl rfl rfl (by intro h; cases h) rfl rfl ?_
     refine nG hg22 ?_
     refine oG (qP ((g.getD ((d.getD ((a.getD k dLk).route).toNat []).getD (j + 1) 0).toNat 0) == 0) (.b true) hg22 ?_)
     refine op0 ?_
     exact imp_env (lee_both 138 _ _ (by rw [hg22] <;> rfl) lO)
    have hf24 := (beq_eq_false_iff_ne).1 hg22
    refine oY hg22 (qM (.q eU8 g) ?_)
    refine oY hg22 (qM (.i ((d.getD ((a.getD k dLk).route).toNat []).getD (j + 1) 0)) ?_)
    refine oY hg22 (aop_ixI 0 rfl rfl rfl ut27 sz5 rfl rfl (fun _ => rfl) rfl om oo ?_)
    refine oY hg22 (qL (.v (.int .u8 (g.getD ((d.getD ((a.getD k dLk).route).toNat []).getD (j + 1) 0).toNat 0))) ag5 ?_)
    refine oY hg22 (qB (.bool ((g.getD ((d.getD ((a.getD k dLk).route).toNat []).getD (j + 1) 0).toNat 0) == 1)) rfl ?_)
    refine oY hg22 (qM (.b ((g.getD ((d.getD ((a.getD k dLk).route).toNat []).getD (j + 1) 0).toNat 0) == 1)) ?_)
    refine aops_grp 9 137 (.b (((g.getD ((d.getD ((a.getD k dLk).route).toNat []).getD (j + 1) 0).toNat 0) == 1) && ((ow.getD (partI m ((d.getD ((a.getD k dLk).route).toNat []).getD (j + 1) 0)).toNat 0) == c))) ?_ ?_
    ·refine (Bool.eq_false_or_eq_true ((g.getD ((d.getD ((a.getD k dLk).route).toNat []).getD (j + 1) 0).toNat 0) == 1)).elim (fun hg25 => ?_) (fun hg25 => ?_)
     ·skip
      have hf26 := (beq_iff_eq).1 hg25
      refine oY hg25 (qM (.q eI ow) ?_)
      refine oY hg25 (qLB (Z9y p m t d) ag39 sz39 ?_)
      refine oY hg25 (qM (.i ((d.getD ((a.getD k dLk).route).toNat []).getD (j + 1) 0)) ?_)
      refine oY hg25 (qC (r05_Part m ((d.getD ((a.getD k dLk).route).toNat []).getD (j + 1) 0) hz3 hf.hpl) bd39 ?_)
      refine oY hg25 (aop_ixI 0 rfl rfl rfl ut48 sz3 rfl rfl (fun _ => rfl) rfl om oo ?_)
      refine oY hg25 (qL (.i (ow.getD (partI m ((d.getD ((a.getD k dLk).route).toNat []).getD (j + 1) 0)).toNat 0)) ag3 ?_)
      refine oY hg25 (qM (.i c) ?_)
      refine oY hg25 (qB (.bool ((ow.getD (partI m ((d.getD ((a.getD k dLk).route).toNat []).getD (j + 1) 0)).toNat 0) == c)) rfl ?_)
      refine oY hg22 (qP ((g.getD ((d.getD ((a.getD k dLk).route).toNat []).getD (j + 1) 0).toNat 0) == 1) (.b ((ow.getD (partI m ((d.getD ((a.getD k dLk).route).toNat []).getD (j + 1) 0)).toNat 0) == c)) hg25 ?_)
      refine op0 ?_
      exact imp_env (lee_both 137 _ _ (by rw [hg25] <;> rfl) lO)
     have hf27 := (beq_eq_false_iff_ne).1 hg25
     refine nG hg25 ?_
     refine nG hg25 ?_
     refine nG hg25 ?_
     refine nG hg25 ?_
     refine nG hg25 ?_
     refine nG hg25 ?_
     refine nG hg25 ?_
     refine nG hg25 ?_
     refine oY hg22 (qP ((g.getD ((d.getD ((a.getD k dLk).route).toNat []).getD (j + 1) 0).toNat 0) == 1) (.b false) hg25 ?_)
     refine op0 ?_
     exact imp_env (lee_both 137 _ _ (by rw [hg25] <;> rfl) lO)
    refine oG (qP ((g.getD ((d.getD ((a.getD k dLk).route).toNat []).getD (j + 1) 0).toNat 0) == 0) (.b (((g.getD ((d.getD ((a.getD k dLk).route).toNat []).getD (j + 1) 0).toNat 0) == 1) && ((ow.getD (partI m ((d.getD ((a.getD k dLk).route).toNat []).getD (j + 1) 0)).toNat 0) == c))) hg22 ?_)
    refine op0 ?_
    exact imp_env (lee_both 138 _ _ (by rw [hg22] <;> rfl) lO)
   refine mG (.b (((g.getD ((d.getD ((a.getD k dLk).route).toNat []).getD (j + 1) 0).toNat 0) == 0) || (((g.getD ((d.getD ((a.getD k dLk).route).toNat []).getD (j + 1) 0).toNat 0) == 1) && ((ow.getD (partI m ((d.getD ((a.getD k dLk).route).toNat []).getD (j + 1) 0)).toNat 0) == c)))) ?_
   refine op0 ?_
   refine rT (upd (upd (Z9q a g ow u c e p m t d k j) 22 (.i ((d.getD ((a.getD k dLk).route).toNat []).getD (j + 1) 0))) 23 (.b (((g.getD ((d.getD ((a.getD k dLk).route).toNat []).getD (j + 1) 0).toNat 0) == 0) || (((g.getD ((d.getD ((a.getD k dLk).route).toNat []).getD (j + 1) 0).toNat 0) == 1) && ((ow.getD (partI m ((d.getD ((a.getD k dLk).route).toNat []).getD (j + 1) 0)).toNat 0) == c))))) (updO (Z9o p m t d e c) 3 (.live ⟨(Z9t e c p m t d g ow u a k j), 3, 1⟩)) ?_
   refine awp_seq ?_
   refine awp_seq ?_
   refine (Bool.eq_false_or_eq_true (!(((g.getD ((d.getD ((a.getD k dLk).route).toNat []).getD (j + 1) 0).toNat 0) == 0) || (((g.getD ((d.getD ((a.getD k dLk).route).toNat []).getD (j + 1) 0).toNat 0) == 1) && ((ow.getD (partI m ((d.getD ((a.getD k dLk).route).toNat []).getD (j + 1) 0)).toNat 0) == c))))).elim (fun hq0 => ?_) (fun hq0 => ?_)
   ·skip
    have hf29 := not_t hq0
    obtain ⟨hf30a, hf30b⟩ := or_f hf29
    have hf31 := (beq_eq_false_iff_ne).1 hf30a
    have hop_ : openB (Z9p e c p m t d g ow u) ((d.getD ((a.getD k dLk).route).toNat []).getD (j + 1) 0) = false := by rw [← hVo]; exact not_t hq0
    have hok : okB (Z9p e c p m t d g ow u) (d.getD ((a.getD k dLk).route).toNat []) j = false := by unfold okB; rw [hop_, Bool.and_false]
    have hpc := pc_cut om hinv hz_ hok
    have hO := do_part om htr hinv0 hlt hpc
    refine aD 16 [(154, .b true), (153, .v undef), (152, .v undef), (151, .v undef), (150, .v undef), (149, .v undef), (148, .v undef), (147, .v undef), (146, .v undef), (145, .v undef), (144, .v undef), (143, .v undef), (142, .v undef), (141, .b (!(((g.getD ((d.getD ((a.getD k dLk).route).toNat []).getD (j + 1) 0).toNat 0) == 0) || (((g.getD ((d.getD ((a.getD k dLk).route).toNat []).getD (j + 1) 0).toNat 0) == 1) && ((ow.getD (partI m ((d.getD ((a.getD k dLk).route).toNat []).getD (j + 1) 0)).toNat 0) == c))))), (140, .b (!(((g.getD ((d.getD ((a.getD k dLk).route).toNat []).getD (j + 1) 0).toNat 0) == 0) || (((g.getD ((d.getD ((a.getD k dLk).route).toNat []).getD (j + 1) 0).toNat 0) == 1) && ((ow.getD (partI m ((d.getD ((a.getD k dLk).route).toNat []).getD (j + 1) 0)).toNat 0) == c))))), (139, .b (((g.getD ((d.getD ((a.getD k dLk).route).toNat []).getD (j + 1) 0).toNat 0) == 0) || (((g.getD ((d.getD ((a.getD k dLk).route).toNat []).getD (j + 1) 0).toNat 0) == 1) && ((ow.getD (partI m ((d.getD ((a.getD k dLk).route).toNat []).getD (j + 1) 0)).toNat 0) == c))))] mixed ?_ ?_
    ·iterate 16 (refine ⟨?_, ?_⟩; rotate_left)
     trivial
     ·exact sMv
     ·exact dW 140 fun st hob hE => aop_not rfl rfl rfl (hE 139 rfl) (by rw [hob]; rfl)
     ·exact sMv
     ·exact gn0 hq0
     ·exact gn0 hq0
     ·exact gn0 hq0
     ·exact gn0 hq0
     ·exact gn0 hq0
     ·exact gn0 hq0
     ·exact gn0 hq0
     ·exact gn0 hq0
     ·exact gn0 hq0
     ·exact gn0 hq0
     ·exact gn0 hq0
     ·exact gn0 hq0
     exact sPk (!(((g.getD ((d.getD ((a.getD k dLk).route).toNat []).getD (j + 1) 0).toNat 0) == 0) || (((g.getD ((d.getD ((a.getD k dLk).route).toNat []).getD (j + 1) 0).toNat 0) == 1) && ((ow.getD (partI m ((d.getD ((a.getD k dLk).route).toNat []).getD (j + 1) 0)).toNat 0) == c)))) (.b true) hq0
    refine op0 ?_
    refine awp_cond true rfl rfl (fun _ => ?_) (fun h => by cases h)
    refine seqR ?_
    refine mG (.sl 3 0 (((doO (Z9p e c p m t d g ow u) a c k) ++ (pcO (d.getD ((a.getD k dLk).route).toNat []) (a.getD k dLk).pieces j)).length)) ?_
    refine mG (.sl 3 0 (((doO (Z9p e c p m t d g ow u) a c k) ++ (pcO (d.getD ((a.getD k dLk).route).toNat []) (a.getD k dLk).pieces j)).length)) ?_
    refine op0 ?_
    refine awp_imp _ (imp_frozen rfl (fun _ h => h) (lee_lend 14 (.q eI ((doO (Z9p e c p m t d g ow u) a c k) ++ (pcO (d.getD ((a.getD k dLk).route).toNat []) (a.getD k dLk).pieces j))) (lend_s (id := 3) (n := ((doO (Z9p e c p m t d g ow u) a c k) ++ (pcO (d.getD ((a.getD k dLk).route).toNat []) (a.getD k dLk).pieces j)).length) (o := ⟨(Z9t e c p m t d g ow u a k j), 3, 1⟩) rfl (enc_len (fun _ => rfl) (by first | rfl | (simp; done)))) lee_lend0)) ?_
    refine awp_ret ?_
    exact fret (av := .ro (((doO (Z9p e c p m t d g ow u) a c k) ++ (pcO (d.getD ((a.getD k dLk).route).toNat []) (a.getD k dLk).pieces j)).length) (Z9t e c p m t d g ow u a k j)) rfl rfl (by rw [← hO] <;> rfl)
   have hf32 := not_f hq0
   have hop_ : openB (Z9p e c p m t d g ow u) ((d.getD ((a.getD k dLk).route).toNat []).getD (j + 1) 0) = true := by rw [← hVo]; exact not_f hq0
   refine aD 16 [(154, .b (decide (((movesL (stD p t (d.getD ((a.getD k dLk).route).toNat []) j) u).length : Int) > 0))), (153, .b (decide (((movesL (stD p t (d.getD ((a.getD k dLk).route).toNat []) j) u).length : Int) > 0))), (152, .i ((movesL (stD p t (d.getD ((a.getD k dLk).route).toNat []) j) u).length : Int)), (151, .q eN (movesL (stD p t (d.getD ((a.getD k dLk).route).toNat []) j) u)), (150, .q eB u), (149, .q eN (stD p t (d.getD ((a.getD k dLk).route).toNat []) j)), (148, .i (j : Int)), (147, .i ((a.getD k dLk).route)), (146, .rp (((Z9n a k) : List AV) ++ ((enc eLk a).drop ((k + 1) * 4)))), (145, .rp (((Z9n a k) : List AV) ++ ((enc eLk a).drop ((k + 1) * 4)))), (144, .i (k : Int)), (143, .q eLk a), (142, .agg (Z9y p m t d)), (141, .b (!(((g.getD ((d.getD ((a.getD k dLk).route).toNat []).getD (j + 1) 0).toNat 0) == 0) || (((g.getD ((d.getD ((a.getD k dLk).route).toNat []).getD (j + 1) 0).toNat 0) == 1) && ((ow.getD (partI m ((d.getD ((a.getD k dLk).route).toNat []).getD (j + 1) 0)).toNat 0) == c))))), (140, .b (!(((g.getD ((d.getD ((a.getD k dLk).route).toNat []).getD (j + 1) 0).toNat 0) == 0) || (((g.getD ((d.getD ((a.getD k dLk).route).toNat []).getD (j + 1) 0).toNat 0) == 1) && ((ow.getD (partI m ((d.getD ((a.getD k dLk).route).toNat []).getD (j + 1) 0)).toNat 0) == c))))), (139, .b (((g.getD ((d.getD ((a.getD k dLk).route).toNat []).getD (j + 1) 0).toNat 0) == 0) || (((g.getD ((d.getD ((a.getD k dLk).route).toNat []).getD (j + 1) 0).toNat 0) == 1) && ((ow.getD (partI m ((d.getD ((a.getD k dLk).route).toNat []).getD (j + 1) 0)).toNat 0) == c))))] mixed ?_ ?_
   ·iterate 16 (refine ⟨?_, ?_⟩; rotate_left)
    trivial
    ·exact sMv
    ·exact dW 140 fun st hob hE => aop_not rfl rfl rfl (hE 139 rfl) (by rw [hob]; rfl)
    ·exact sMv
    ·exact gy0 hq0 (sLB (Z9y p m t d) ag39 sz39)
    ·exact gy0 hq0 sMv
    ·exact gy0 hq0 sMv
    ·exact gy0 hq0 (sIx dLk ut41 sz58)
    ·exact gy0 hq0 (sF (Z9s a k) (Z9s a k) ft58_0 sz3)
    ·exact gy0 hq0 (sLd ag3)
    ·exact gy0 hq0 sMv
    ·exact gy0 hq0 (sC (r15_Step p t d (a.getD k dLk).route (d.getD ((a.getD k dLk).route).toNat []) j hz1 hz2 hz8 hxr rfl ⟨by omega, hxl⟩ hps om) bd41)
    ·exact gy0 hq0 sMv
    ·exact gy0 hq0 (dW 151 fun st hob hE => call_ (r14_MovesR (stD p t (d.getD ((a.getD k dLk).route).toNat []) j) u oo oo) rfl rfl rfl rfl rfl bd40 (by show [st.env 149, st.env 150] ++ _ = _; rw [hE 149 rfl, hE 150 rfl]; rfl) (by rw [hob]; rfl))
    ·exact gy0 hq0 (dW 152 fun st hob hE => aop_len rfl rfl rfl rfl ut91 (len_ro (hE 151 rfl)) (by rw [hob]; rfl))
    ·exact gy0 hq0 (sB (.bool (decide (((movesL (stD p t (d.getD ((a.getD k dLk).route).toNat []) j) u).length : Int) > 0))) rfl)
    exact dW 154 fun st hob hE => aop_pick (b := (!(((g.getD ((d.getD ((a.getD k dLk).route).toNat []).getD (j + 1) 0).toNat 0) == 0) || (((g.getD ((d.getD ((a.getD k dLk).route).toNat []).getD (j + 1) 0).toNat 0) == 1) && ((ow.getD (partI m ((d.getD ((a.getD k dLk).route).toNat []).getD (j + 1) 0)).toNat 0) == c))))) (av := .b (decide (((movesL (stD p t (d.getD ((a.getD k dLk).route).toNat []) j) u).length : Int) > 0))) rfl rfl rfl (hE 141 rfl) (by rw [hq0]; exact hE 153 rfl) (by rw [hob]; rfl)
   refine op0 ?_
   refine awp_cond (decide (((movesL (stD p t (d.getD ((a.getD k dLk).route).toNat []) j) u).length : Int) > 0)) rfl rfl (fun hc6 => ?_) (fun hc6 => ?_)
   ·skip
    have hf33 := of_decide_eq_true hc6
    have hst_ : stepB (Z9p e c p m t d g ow u) (d.getD ((a.getD k dLk).route).toNat []) j = false := by unfold stepB; rw [y _ hpmm j hjp]; show (!((stD p t (d.getD ((a.getD k dLk).route).toNat []) j).any (wrB u))) = false; rw [← moves_any, hc6]; rfl
    have hok : okB (Z9p e c p m t d g ow u) (d.getD ((a.getD k dLk).route).toNat []) j = false := by unfold okB; rw [hst_]; rfl
    have hpc := pc_cut om hinv hz_ hok
    have hO := do_part om htr hinv0 hlt hpc
    refine seqR ?_
    refine mG (.sl 3 0 (((doO (Z9p e c p m t d g ow u) a c k) ++ (pcO (d.getD ((a.getD k dLk).route).toNat []) (a.getD k dLk).pieces j)).length)) ?_
    refine mG (.sl 3 0 (((doO (Z9p e c p m t d g ow u) a c k) ++ (pcO (d.getD ((a.getD k dLk).route).toNat []) (a.getD k dLk).pieces j)).length)) ?_
    refine op0 ?_
    refine awp_imp _ (imp_frozen rfl (fun _ h => h) (lee_lend 14 (.q eI ((doO (Z9p e c p m t d g ow u) a c k) ++ (pcO (d.getD ((a.getD k dLk).route).toNat []) (a.getD k dLk).pieces j))) (lend_s (id := 3) (n := ((doO (Z9p e c p m t d g ow u) a c k) ++ (pcO (d.getD ((a.getD k dLk).route).toNat []) (a.getD k dLk).pieces j)).length) (o := ⟨(Z9t e c p m t d g ow u a k j), 3, 1⟩) rfl (enc_len (fun _ => rfl) (by first | rfl | (simp; done)))) lee_lend0)) ?_
    refine awp_ret ?_
    exact fret (av := .ro (((doO (Z9p e c p m t d g ow u) a c k) ++ (pcO (d.getD ((a.getD k dLk).route).toNat []) (a.getD k dLk).pieces j)).length) (Z9t e c p m t d g ow u a k j)) rfl rfl (by rw [← hO] <;> rfl)
   have hf34 := of_decide_eq_false hc6
   have hst_ : stepB (Z9p e c p m t d g ow u) (d.getD ((a.getD k dLk).route).toNat []) j = true := by unfold stepB; rw [y _ hpmm j hjp]; show (!((stD p t (d.getD ((a.getD k dLk).route).toNat []) j).any (wrB u))) = true; rw [← moves_any, hc6]; rfl
   have hok : okB (Z9p e c p m t d g ow u) (d.getD ((a.getD k dLk).route).toNat []) j = true := by unfold okB; rw [hst_, hop_]; rfl
   refine awp_skip ?_
   refine regR ?_
   refine mG (.sl 3 0 (((doO (Z9p e c p m t d g ow u) a c k) ++ (pcO (d.getD ((a.getD k dLk).route).toNat []) (a.getD k dLk).pieces j)).length)) ?_
   refine mG (.i ((d.getD ((a.getD k dLk).route).toNat []).getD (j + 1) 0)) ?_
   refine oG (aop_lit rfl rfl rfl ut48 iz3 (by decide) (by decide) rfl rfl ?_)
   refine oG (aop_app1 (f := eI) (l := (doO (Z9p e c p m t d g ow u) a c k) ++ (pcO (d.getD ((a.getD k dLk).route).toNat []) (a.getD k dLk).pieces j)) 54 ((d.getD ((a.getD k dLk).route).toNat []).getD (j + 1) 0 : Int) rfl rfl rfl rfl ut48 in3 rfl (by decide) rfl rfl rfl rfl rfl rfl (fun _ => rfl) rfl rfl oo oo rfl ?_)
   refine mG (.sl 54 0 ((((doO (Z9p e c p m t d g ow u) a c k) ++ (pcO (d.getD ((a.getD k dLk).route).toNat []) (a.getD k dLk).pieces j)) ++ [((d.getD ((a.getD k dLk).route).toNat []).getD (j + 1) 0 : Int)]).length)) ?_
   refine op0 ?_
   refine rT (upd (upd (upd (upd (upd (upd (upd (upd (upd (upd (Z9w a g ow u c) 7 (.pt 1 0)) 14 vN) 15 (.pt 2 0)) 17 (.sl 54 0 ((((doO (Z9p e c p m t d g ow u) a c k) ++ (pcO (d.getD ((a.getD k dLk).route).toNat []) (a.getD k dLk).pieces j)) ++ [((d.getD ((a.getD k dLk).route).toNat []).getD (j + 1) 0 : Int)]).length))) 18 (lsA (doL (Z9p e c p m t d g ow u) a c k))) 19 (.i (k : Int))) 20 (Z9z d a k)) 21 (.i (j : Int))) 22 (.i ((d.getD ((a.getD k dLk).route).toNat []).getD (j + 1) 0))) 23 (.b (((g.getD ((d.getD ((a.getD k dLk).route).toNat []).getD (j + 1) 0).toNat 0) == 0) || (((g.getD ((d.getD ((a.getD k dLk).route).toNat []).getD (j + 1) 0).toNat 0) == 1) && ((ow.getD (partI m ((d.getD ((a.getD k dLk).route).toNat []).getD (j + 1) 0)).toNat 0) == c))))) (updO (updO (updO (Z9o p m t d e c) 3 (.live ⟨(Z9t e c p m t d g ow u a k j), 3, 1⟩)) 3 .dead) 54 (.live ⟨(enc eI (((doO (Z9p e c p m t d g ow u) a c k) ++ (pcO (d.getD ((a.getD k dLk).route).toNat []) (a.getD k dLk).pieces j)) ++ [((d.getD ((a.getD k dLk).route).toNat []).getD (j + 1) 0 : Int)])), 3, 1⟩)) ?_
   refine regR ?_
   refine mG (.i (j : Int)) ?_
   refine oG (qB (.int .i64 ((j + 1 : Nat) : Int)) (addN om) ?_)
   refine mG (.i ((j + 1 : Nat) : Int)) ?_
   refine op0 ?_
   show _ ∧ _
   have hs_ := pcO_on (path := (d.getD ((a.getD k dLk).route).toNat [])) (ps := (a.getD k dLk).pieces) (k := j) hz_
   refine ⟨by omega, (by first | exact pc_no om hinv hz_ | exact pc_on om hinv hz_ hok), ?_⟩
   exact iL [(1, 1), (2, 2), (54, 3)] [((1, 1), .live _), ((2, 2), .live _), ((54, 3), .live _)] ⟨row_no rfl rfl, row_no rfl rfl, row_no rfl (by exact congrArg (fun l_ => LObj.mk (enc eI l_) 3 1) (by (try simp only [Za1, Za0, Z9y, Z9t, Z9r, Z9n]); rw [hs_, List.append_assoc])), trivial⟩ (he := (sS rfl (sS rfl (sS rfl (sS rfl (sM (by exact congrArg (AV.sl 3 0) (by (try simp only [Za1, Za0, Z9y, Z9t, Z9r, Z9n]); rw [hs_, List.append_assoc])) (sM rfl (sS rfl (sM rfl (sS rfl (sS rfl (sS rfl (sS rfl (sS rfl sr_none))))))))))))))
  have hf35 := of_decide_eq_false hc4
  have hpc := pc_end om hinv
  refine awp_exit ?_
  refine regR ?_
  refine mG (Z9z d a k) ?_
  refine mG (Z9z d a k) ?_
  refine op0 ?_
  refine regR ?_
  refine mG (.i (k : Int)) ?_
  refine oG (qB (.int .i64 ((k + 1 : Nat) : Int)) (addN om) ?_)
  refine mG (.i ((k + 1 : Nat) : Int)) ?_
  refine op0 ?_
  show _ ∧ _
  have hs_ := doO_on (f := (Z9p e c p m t d g ow u)) htr
  have hjl : ((a.getD k dLk).pieces).length = j := by omega
  rw [hjl] at hs_
  have hs2_ := doL_on (f := (Z9p e c p m t d g ow u)) htr
  refine ⟨by omega, (by first | exact do_no om htn hinv0 | exact do_on om htr hinv0 hlt hpc om), ?_⟩
  exact iL [(1, 1), (2, 2), (3, 3)] [((1, 1), .live _), ((2, 2), .live _), ((3, 3), .live _)] ⟨row_no rfl rfl, row_no rfl rfl, row_no rfl (by exact congrArg (fun l_ => LObj.mk (enc eI l_) 3 1) hs_), trivial⟩ (he := (sS rfl (sS (by rw [hs2_]; exact (ls_ne hpne).symm) (sM (by exact congrArg (AV.sl 3 0) (congrArg List.length hs_.symm)) (sM rfl (sS rfl (sM rfl (sS rfl (sS rfl (sS rfl (sS rfl (sS rfl sr_none))))))))))))
 have hf36 := of_decide_eq_false hc1
 have hO := do_end om hinv
 refine awp_exit ?_
 refine seqR ?_
 refine mG (.sl 3 0 ((doO (Z9p e c p m t d g ow u) a c k).length)) ?_
 refine mG (.sl 3 0 ((doO (Z9p e c p m t d g ow u) a c k).length)) ?_
 refine op0 ?_
 refine awp_imp _ (imp_frozen rfl (fun _ h => h) (lee_lend 14 (.q eI (doO (Z9p e c p m t d g ow u) a c k)) (lend_s (id := 3) (n := (doO (Z9p e c p m t d g ow u) a c k).length) (o := ⟨(enc eI (doO (Z9p e c p m t d g ow u) a c k)), 3, 1⟩) rfl (enc_len (fun _ => rfl) (by first | rfl | (simp; done)))) lee_lend0)) ?_
 refine awp_ret ?_
 exact fret (av := .ro ((doO (Z9p e c p m t d g ow u) a c k).length) (enc eI (doO (Z9p e c p m t d g ow u) a c k))) rfl rfl (by rw [← hO] <;> rfl)
abbrev Za6 : Nat → AV := (upd (upd (upd none_ 5 (.pt 52 0)) 6 (.b false)) 7 (.pt 53 0))
abbrev Za4 (d : Draft) : List AV := [.v (.int .u8 d.form), .v (.int .u8 d.len), .v (.int .u8 d.speed), .v (.int .u16 d.mute), .v (.int .u16 d.wait), .v (.int .u8 d.cancel), .v (.int .u8 d.stay), .v (.int .u8 d.jn), .q eUL d.rs]
abbrev Za3 (x : Act) : List AV := [.v (.int .u8 x.dw), .v (.int .u8 x.n), .v (.int .u8 x.tr), .q eU8 x.sts, .q eU8 x.ow, .q eB x.rt, .q eU8 x.sp, .v (.int .u8 x.tk)]
abbrev Za7 (d : Draft) (x : Act) : Nat → OSt := (updO (updO noOb 51 (.live ⟨(Za4 d), 25, 1⟩)) 52 (.live ⟨(Za3 x), 30, 1⟩))
abbrev Za5 (d : Draft) (x : Act) : Nat → OSt := (updO (Za7 d x) 53 (.live ⟨[vN, vN, vN, vN, vN, .i 0, .i 0, .i 0, .i 0, .i 0], 39, 1⟩))
theorem l16_AuthorityOf (d : Draft) (a : List Act) (x : Act) (hd : DraftOk d) (c : ∀ y, y ∈ a → ActOk y) (hac : a.length ≤ maxLen) (hx : ActOk x) : Fn Try.prog 3 [.agg [.v (.int .u8 d.form), .v (.int .u8 d.len), .v (.int .u8 d.speed), .v (.int .u16 d.mute), .v (.int .u16 d.wait), .v (.int .u8 d.cancel), .v (.int .u8 d.stay), .v (.int .u8 d.jn), .ro d.rs.length (enc eUL d.rs)], .ro a.length (enc eAc a), .agg [.v (.int .u8 x.dw), .v (.int .u8 x.n), .v (.int .u8 x.tr), .ro x.sts.length (enc eU8 x.sts), .ro x.ow.length (enc eU8 x.ow), .ro x.rt.length (enc eB x.rt), .ro x.sp.length (enc eU8 x.sp), .v (.int .u8 x.tk)]] (.v (.bool true)) := by
 have hd1 := hd.form
 have hd2 := hd.len
 have hd3 := hd.speed
 have hd4 := hd.mute
 have hd5 := hd.wait
 have hd6 := hd.cancel
 have hd7 := hd.stay
 have hd8 := hd.jn
 have hd9 := hd.n
 have hmx : maxLen = 9223372036854775807 := rfl
 have hel := mkEnds_len d.form
 have hsl := mkSecs_len d.form d.len
 have hpl := mkPts_len d.form
 have hx1 := hx.dw
 have hx2 := hx.n
 have hx3 := hx.tr
 have hx4 := hx.tk
 have hx5 := hx.l1
 have hx6 := hx.l2
 have hx7 := hx.l3
 have hx8 := hx.l4
 refine fnE_of_body (N := 77) Try.func3 rfl rfl (resOf1 rfl) (by simp) (fun w0 X hL_ => ?_)
 refine seqR ?_
 refine oG (qW 51 ?_)
 refine oG (qW 52 ?_)
 refine mG (.b false) ?_
 refine op0 ?_
 refine awp_seq ?_
 refine seqR ?_
 refine oG (qJ (l16_none) bd10 ?_)
 refine oG (aop_not rfl rfl rfl rfl ?_)
 refine mG (.b false) ?_
 refine opY rfl rfl rfl rfl (aop_ldB (cells' := (Za4 d)) rfl rfl rfl ag25 sz25 rfl rfl rfl rfl ?_)
 refine opY rfl rfl rfl rfl (callW_ (r04_Small d.rs oo) rfl rfl rfl rfl rfl bd11 lS ?_)
 refine opY rfl rfl rfl rfl (aop_not rfl rfl rfl rfl ?_)
 refine oG (aop_pick (b := false) (av := .b (!(smallB d.rs))) rfl rfl rfl rfl rfl ?_)
 refine mG (.b (!(smallB d.rs))) ?_
 refine aops_grp 4 23 (.b ((!(smallB d.rs)) || (!(smL a)))) ?_ ?_
 ·refine (Bool.eq_false_or_eq_true (!(smallB d.rs))).elim (fun hg1 => ?_) (fun hg1 => ?_)
  ·skip
   have hf2 := not_t hg1
   refine nG hg1 ?_
   refine nG hg1 ?_
   refine nG hg1 ?_
   refine oG (qP (!(smallB d.rs)) (.b true) hg1 ?_)
   refine op0 ?_
   exact imp_env (lee_both 23 _ _ (by rw [hg1] <;> rfl) lO)
  have hf3 := not_f hg1
  refine oY hg1 (qM (.q eAc a) ?_)
  refine oY hg1 (qJ (l16_small a hac c) bd12 ?_)
  refine oY hg1 (aop_not rfl rfl rfl rfl ?_)
  refine oG (qP (!(smallB d.rs)) (.b (!(smL a))) hg1 ?_)
  refine op0 ?_
  exact imp_env (lee_both 23 _ _ (by rw [hg1] <;> rfl) lO)
 refine mG (.b ((!(smallB d.rs)) || (!(smL a)))) ?_
 refine aops_grp 5 29 (.b (((!(smallB d.rs)) || (!(smL a))) || (!(smL ([x] : List Act))))) ?_ ?_
 ·refine (Bool.eq_false_or_eq_true ((!(smallB d.rs)) || (!(smL a)))).elim (fun hg4 => ?_) (fun hg4 => ?_)
  ·skip
   refine nG hg4 ?_
   refine nG hg4 ?_
   refine nG hg4 ?_
   refine nG hg4 ?_
   refine oG (qP ((!(smallB d.rs)) || (!(smL a))) (.b true) hg4 ?_)
   refine op0 ?_
   exact imp_env (lee_both 29 _ _ (by rw [hg4] <;> rfl) lO)
  obtain ⟨hf5a, hf5b⟩ := or_f hg4
  have hf6 := not_f hf5a
  have hf7 := not_f hf5b
  refine oY hg4 (qLB (Za3 x) ag30 sz30 ?_)
  refine oY hg4 (aop_lit (cells := enc eAc ([x] : List Act)) rfl rfl rfl ut26 iz30 (by decide) (by decide) rfl rfl ?_)
  refine oY hg4 (qJ (l16_small [x] (by show 1 ≤ maxLen; decide) (fun y hy => by rw [List.mem_singleton.1 hy]; exact hx)) bd12 ?_)
  refine oY hg4 (aop_not rfl rfl rfl rfl ?_)
  refine oG (qP ((!(smallB d.rs)) || (!(smL a))) (.b (!(smL ([x] : List Act)))) hg4 ?_)
  refine op0 ?_
  exact imp_env (lee_both 29 _ _ (by rw [hg4] <;> rfl) lO)
 refine op0 ?_
 refine rT (upd (upd (upd (upd (upd none_ 1 (.q eAc a)) 3 (.pt 51 0)) 5 (.pt 52 0)) 6 (.b false)) 29 (.b (((!(smallB d.rs)) || (!(smL a))) || (!(smL ([x] : List Act)))))) (Za7 d x) ?_
 refine awp_cond (((!(smallB d.rs)) || (!(smL a))) || (!(smL ([x] : List Act)))) rfl rfl (fun hc0 => ?_) (fun hc0 => ?_)
 ·skip
  refine seqR ?_
  refine oG (qJ (l16_none) bd10 ?_)
  refine mG (.b true) ?_
  refine op0 ?_
  refine awp_ret ?_
  exact fret (av := .v (.bool true)) rfl rfl (by simp)
 obtain ⟨hf8a, hf8b⟩ := or_f hc0
 obtain ⟨hf9a, hf9b⟩ := or_f hf8a
 have hf10 := not_f hf9a
 have hf11 := not_f hf9b
 have hf12 := not_f hf8b
 have hsm : smallB d.rs = true := by cases h : smallB d.rs <;> simp [h] at hc0 ⊢
 have hr := small_rs hsm hd.rs
 have hsa : smL a = true := by cases h : smL a <;> simp [h] at hc0 ⊢
 have hsx : smL [x] = true := by cases h : smL [x] <;> simp [h] at hc0 ⊢
 obtain ⟨ha1, _⟩ := sm_iff hsa
 obtain ⟨ha2, ha3, ha4, ha5⟩ := (sm_iff hsx).2 x List.mem_cons_self
 have hL := full_ok d.form d.len d.jn d.rs
 have hnd := full_nodup d.form d.len d.rs
 have hfu := r05_Full d.form d.len d.speed d.mute d.wait d.cancel d.stay d.jn d.rs hd1 hd2 hd3 hd4 hd5 hd6 hd7 hd8 hr.1 hr.2
 obtain ⟨ss, h_ss⟩ : ∃ y_, y_ = mkSecs d.form d.len := ⟨_, rfl⟩
 obtain ⟨pa, h_pa⟩ : ∃ y_, y_ = mkParts d.form d.jn := ⟨_, rfl⟩
 obtain ⟨pp, h_pp⟩ : ∃ y_, y_ = mkPts d.form := ⟨_, rfl⟩
 obtain ⟨rr, h_rr⟩ : ∃ y_, y_ = fullRoutes d.form d.len d.rs := ⟨_, rfl⟩
 obtain ⟨cn, h_cn⟩ : ∃ y_, y_ = 1 + d.cancel := ⟨_, rfl⟩
 rw [← h_ss, ← h_pa, ← h_pp, ← h_rr] at hL
 rw [← h_ss, ← h_pa, ← h_pp, ← h_rr, ← h_cn] at hfu
 rw [← h_rr] at hnd
 have hlr : ∀ y, y ∈ lkN (⟨ss, pa, pp, rr, cn⟩ : Lo_) a a.length → LkR rr y := lkN_R (L := (⟨ss, pa, pp, rr, cn⟩ : Lo_)) hL a.length
 have hap : Ap rr (lkN (⟨ss, pa, pp, rr, cn⟩ : Lo_) a a.length) := lkN_Ap (L := (⟨ss, pa, pp, rr, cn⟩ : Lo_)) hL hnd a.length
 have hll := lk_len (L := (⟨ss, pa, pp, rr, cn⟩ : Lo_)) ha1
 obtain ⟨lk, h_lk⟩ : ∃ y_, y_ = lkN (⟨ss, pa, pp, rr, cn⟩ : Lo_) a a.length := ⟨_, rfl⟩
 rw [← h_lk] at hlr hap hll
 obtain ⟨st_, h_st_⟩ : ∃ y_, y_ = stL x ss.length := ⟨_, rfl⟩
 obtain ⟨ow, h_ow⟩ : ∃ y_, y_ = owL x pa.length := ⟨_, rfl⟩
 obtain ⟨pt, h_pt⟩ : ∃ y_, y_ = ptL x pp.length := ⟨_, rfl⟩
 obtain ⟨vw, h_vw⟩ : ∃ y_, y_ = vwL ss.length x 3 := ⟨_, rfl⟩
 have hst : st_.length = ss.length := by rw [h_st_]; exact stL_len
 have how : ow.length = pa.length := by rw [h_ow]; exact owL_len
 have hpx : pt.length ≤ 8 := by rw [h_pt]; exact Nat.le_trans pt_len om
 have hvl : vw.length = 3 := by rw [h_vw]; exact vwL_len
 have hvs : ∀ id, (findV vw id).span.length ≤ 6 := fun id => by rw [h_vw]; exact Nat.le_trans (vw_span _) om
 have hq1 := hL.h1
 have hq2 := hL.hs
 have hq3 := hL.hp
 have hq4 := hL.hpa
 have hq5 := hL.hro
 have hT : topB ss pp = true := by rw [h_ss, h_pp]; exact top_full _ _
 have hwk : AllWk ss pp rr := by rw [h_ss, h_pp, h_rr]; exact full_wk _ _ _
 have hen : EnOk lk := by rw [h_lk]; exact lkN_En ⟨by show 0 ≤ cn; omega, by show cn ≤ 65536; omega⟩ _ om
 refine awp_skip ?_
 refine seqR ?_
 refine oG (qLB (Za4 d) ag25 sz25 ?_)
 refine oG (qJ (show Fn Try.prog 13 [.agg (Za4 d)] (.agg [.one, .q eSec ss, .q eIL pa, .q ePnt pp, .q eIL rr, .i (1 + d.speed % (2 * (10 * (1 + d.len % 20)))), .i (1 + d.mute % 1000), .i (1 + d.wait % 1000), .i cn, .i (d.stay % 4)]) from hfu) bd13 ?_)
 refine oG (aop_alloc 53 rfl rfl rfl rfl ze39 rfl ?_)
 refine oG (qS sz39 ?_)
 refine rU (upd (upd (upd (upd none_ 1 (.q eAc a)) 5 (.pt 52 0)) 6 (.b false)) 7 (.pt 53 0)) (updO (Za5 d x) 53 (.live ⟨[.one, .q eSec ss, .q eIL pa, .q ePnt pp, .q eIL rr, .i (1 + d.speed % (2 * (10 * (1 + d.len % 20)))), .i (1 + d.mute % 1000), .i (1 + d.wait % 1000), .i cn, .i (d.stay % 4)], 39, 1⟩)) ?_
 refine seqR ?_
 refine oG (qLB [.one, .q eSec ss, .q eIL pa, .q ePnt pp, .q eIL rr, .i (1 + d.speed % (2 * (10 * (1 + d.len % 20)))), .i (1 + d.mute % 1000), .i (1 + d.wait % 1000), .i cn, .i (d.stay % 4)] ag39 sz39 ?_)
 refine mG (.q eAc a) ?_
 refine oG (qC (show Fn Try.prog 14 [.agg [.one, .q eSec ss, .q eIL pa, .q ePnt pp, .q eIL rr, .one, .one, .one, .i cn, .one], .q eAc a] (.q eLk lk) from (by have h_ := l16_locks ss pa pp rr cn a hL om c; rw [← h_lk] at h_; exact h_)) bd14 ?_)
 refine mG (.q eLk lk) ?_
 refine rU (upd Za6 8 (.q eLk lk)) (updO (Za5 d x) 53 (.live ⟨[.one, .q eSec ss, .q eIL pa, .q ePnt pp, .q eIL rr, .i (1 + d.speed % (2 * (10 * (1 + d.len % 20)))), .i (1 + d.mute % 1000), .i (1 + d.wait % 1000), .i cn, .i (d.stay % 4)], 39, 1⟩)) ?_
 refine seqR ?_
 refine oG (qLB [.one, .q eSec ss, .q eIL pa, .q ePnt pp, .q eIL rr, .i (1 + d.speed % (2 * (10 * (1 + d.len % 20)))), .i (1 + d.mute % 1000), .i (1 + d.wait % 1000), .i cn, .i (d.stay % 4)] ag39 sz39 ?_)
 refine oG (qLB (Za3 x) ag30 sz30 ?_)
 refine oG (qC (show Fn Try.prog 15 [.agg [.one, .q eSec ss, .one, .one, .one, .one, .one, .one, .one, .one], .agg (Za3 x)] (.tup [.q eV vw, .q eV vw]) from (by have h_ := l16_views ss x om hq1 hx om; rw [← h_vw] at h_; exact h_)) bd15 ?_)
 refine mG (.tup [.q eV vw, .q eV vw]) ?_
 refine oG (qE ?_)
 refine oG (qE ?_)
 refine mG (.q eV vw) ?_
 refine mG (.q eV vw) ?_
 refine rU (upd (upd (upd Za6 8 (.q eLk lk)) 9 (.q eV vw)) 10 (.q eV vw)) (updO (Za5 d x) 53 (.live ⟨[.one, .q eSec ss, .q eIL pa, .q ePnt pp, .q eIL rr, .i (1 + d.speed % (2 * (10 * (1 + d.len % 20)))), .i (1 + d.mute % 1000), .i (1 + d.wait % 1000), .i cn, .i (d.stay % 4)], 39, 1⟩)) ?_
 refine awp_seq ?_
 refine seqR ?_
 refine mG (.i (-1)) ?_
 refine op0 ?_
 refine awp_block ?_
 refine awp_countI (fun k => ⟨(upd (upd (upd (upd (upd (upd (upd none_ 5 (.pt 2 0)) 6 (.b false)) 7 (.pt 1 0)) 8 (.q eLk lk)) 9 (.q eV vw)) 10 (.q eV vw)) 11 (.i ((k : Int) - 1))), (updO (updO noOb 1 (.live ⟨[.one, .q eSec ss, .q eIL pa, .q ePnt pp, .q eIL rr, .i (1 + d.speed % (2 * (10 * (1 + d.len % 20)))), .i (1 + d.mute % 1000), .i (1 + d.wait % 1000), .i cn, .i (d.stay % 4)], 39, 1⟩)) 2 (.live ⟨(Za3 x), 30, 1⟩))⟩) (fun k => True) (5) ?_ trivial (fun k hk_k hinv => ?_)
 ·skip
  exact iL [(53, 1), (52, 2)] [((53, 1), .live _), ((52, 2), .live _)] ⟨row_no rfl rfl, row_no rfl rfl, trivial⟩
 refine awp_seq ?_
 refine seqR ?_
 refine mG (.i ((k : Int) - 1)) ?_
 refine bG ((.bool (decide (((k : Int) - 1) < 4)))) ?_
 refine op0 ?_
 refine awp_cond (decide (((k : Int) - 1) < 4)) rfl rfl (fun hc1 => ?_) (fun hc1 => ?_)
 ·skip
  have hf13 := of_decide_eq_true hc1
  have hk5 : k < 5 := by omega
  obtain ⟨p, h_p⟩ : ∃ y_, y_ = auT vw ((k : Int) - 1) (fldOf (findV vw ((k : Int) - 1)) ss pa pp rr st_ ow pt) lk := ⟨_, rfl⟩
  have hpl_ : p.length ≤ 3276800 := by rw [h_p]; exact auT_len hlr hll
  refine awp_skip ?_
  refine awp_seq ?_
  refine awp_block ?_
  refine awp_seq ?_
  refine aD 31 [(76, .b false), (75, .b true), (74, .q eI p), (73, .i ((k : Int) - 1)), (72, .q eB pt), (71, .agg (Za3 x)), (70, .agg [.one, .q eSec ss, .q eIL pa, .q ePnt pp, .q eIL rr, .i (1 + d.speed % (2 * (10 * (1 + d.len % 20)))), .i (1 + d.mute % 1000), .i (1 + d.wait % 1000), .i cn, .i (d.stay % 4)]), (69, .q eV vw), (68, .q eI ow), (67, .agg (Za3 x)), (66, .agg [.one, .q eSec ss, .q eIL pa, .q ePnt pp, .q eIL rr, .i (1 + d.speed % (2 * (10 * (1 + d.len % 20)))), .i (1 + d.mute % 1000), .i (1 + d.wait % 1000), .i cn, .i (d.stay % 4)]), (65, .q eU8 st_), (64, .agg (Za3 x)), (63, .agg [.one, .q eSec ss, .q eIL pa, .q ePnt pp, .q eIL rr, .i (1 + d.speed % (2 * (10 * (1 + d.len % 20)))), .i (1 + d.mute % 1000), .i (1 + d.wait % 1000), .i cn, .i (d.stay % 4)]), (62, .q eLk lk), (61, .agg [.one, .q eSec ss, .q eIL pa, .q ePnt pp, .q eIL rr, .i (1 + d.speed % (2 * (10 * (1 + d.len % 20)))), .i (1 + d.mute % 1000), .i (1 + d.wait % 1000), .i cn, .i (d.stay % 4)]), (60, .q eI p), (59, .i ((k : Int) - 1)), (58, .q eB pt), (57, .agg (Za3 x)), (56, .agg [.one, .q eSec ss, .q eIL pa, .q ePnt pp, .q eIL rr, .i (1 + d.speed % (2 * (10 * (1 + d.len % 20)))), .i (1 + d.mute % 1000), .i (1 + d.wait % 1000), .i cn, .i (d.stay % 4)]), (55, .q eV vw), (54, .q eI ow), (53, .agg (Za3 x)), (52, .agg [.one, .q eSec ss, .q eIL pa, .q ePnt pp, .q eIL rr, .i (1 + d.speed % (2 * (10 * (1 + d.len % 20)))), .i (1 + d.mute % 1000), .i (1 + d.wait % 1000), .i cn, .i (d.stay % 4)]), (51, .q eU8 st_), (50, .agg (Za3 x)), (49, .agg [.one, .q eSec ss, .q eIL pa, .q ePnt pp, .q eIL rr, .i (1 + d.speed % (2 * (10 * (1 + d.len % 20)))), .i (1 + d.mute % 1000), .i (1 + d.wait % 1000), .i cn, .i (d.stay % 4)]), (48, .q eLk lk), (47, .q eLk lk), (46, .agg [.one, .q eSec ss, .q eIL pa, .q ePnt pp, .q eIL rr, .i (1 + d.speed % (2 * (10 * (1 + d.len % 20)))), .i (1 + d.mute % 1000), .i (1 + d.wait % 1000), .i cn, .i (d.stay % 4)])] mixed ?_ ?_
  ·iterate 31 (refine ⟨?_, ?_⟩; rotate_left)
   trivial
   ·exact sLB [.one, .q eSec ss, .q eIL pa, .q ePnt pp, .q eIL rr, .i (1 + d.speed % (2 * (10 * (1 + d.len % 20)))), .i (1 + d.mute % 1000), .i (1 + d.wait % 1000), .i cn, .i (d.stay % 4)] ag39 sz39
   ·exact sMv
   ·exact dW 48 fun st hob hE => call_ (l16_turned lk om) rfl rfl rfl rfl rfl bd18 (by show [st.env 47] ++ _ = _; rw [hE 47 rfl]; rfl) (by rw [hob]; rfl)
   ·exact sLB [.one, .q eSec ss, .q eIL pa, .q ePnt pp, .q eIL rr, .i (1 + d.speed % (2 * (10 * (1 + d.len % 20)))), .i (1 + d.mute % 1000), .i (1 + d.wait % 1000), .i cn, .i (d.stay % 4)] ag39 sz39
   ·exact sLB (Za3 x) ag30 sz30
   ·exact sC (show Fn Try.prog 19 [.agg [.one, .q eSec ss, .one, .one, .one, .one, .one, .one, .one, .one], .agg (Za3 x)] (.q eU8 st_) from (by have h_ := l16_states ss x om hx; rw [← h_st_] at h_; exact h_)) bd19
   ·exact sLB [.one, .q eSec ss, .q eIL pa, .q ePnt pp, .q eIL rr, .i (1 + d.speed % (2 * (10 * (1 + d.len % 20)))), .i (1 + d.mute % 1000), .i (1 + d.wait % 1000), .i cn, .i (d.stay % 4)] ag39 sz39
   ·exact sLB (Za3 x) ag30 sz30
   ·exact sC (show Fn Try.prog 20 [.agg [.one, .one, .q eIL pa, .one, .one, .one, .one, .one, .one, .one], .agg (Za3 x)] (.q eI ow) from (by have h_ := l16_owners pa x om hx; rw [← h_ow] at h_; exact h_)) bd20
   ·exact sMv
   ·exact sLB [.one, .q eSec ss, .q eIL pa, .q ePnt pp, .q eIL rr, .i (1 + d.speed % (2 * (10 * (1 + d.len % 20)))), .i (1 + d.mute % 1000), .i (1 + d.wait % 1000), .i cn, .i (d.stay % 4)] ag39 sz39
   ·exact sLB (Za3 x) ag30 sz30
   ·exact sC (show Fn Try.prog 21 [.agg [.one, .one, .one, .q ePnt pp, .one, .one, .one, .one, .one, .one], .agg (Za3 x)] (.q eB pt) from (by have h_ := l16_points pp x om hx; rw [← h_pt] at h_; exact h_)) bd21
   ·exact sMv
   ·exact sC (show Fn Try.prog 17 [.agg [.one, .q eSec ss, .q eIL pa, .q ePnt pp, .q eIL rr, .one, .one, .one, .one, .one], .q eLk lk, .q eU8 st_, .q eI ow, .q eV vw, .q eB pt, .i ((k : Int) - 1)] (.q eI p) from (by have h_ := (a_Of vw ((k : Int) - 1) ss pa pp rr st_ ow pt lk (fld_ok hL hst how (Nat.le_trans (hvs _) om) om) (lk_ok hlr) om om); rw [← h_p] at h_; exact h_)) bd17
   ·exact sLB [.one, .q eSec ss, .q eIL pa, .q ePnt pp, .q eIL rr, .i (1 + d.speed % (2 * (10 * (1 + d.len % 20)))), .i (1 + d.mute % 1000), .i (1 + d.wait % 1000), .i cn, .i (d.stay % 4)] ag39 sz39
   ·exact sMv
   ·exact sLB [.one, .q eSec ss, .q eIL pa, .q ePnt pp, .q eIL rr, .i (1 + d.speed % (2 * (10 * (1 + d.len % 20)))), .i (1 + d.mute % 1000), .i (1 + d.wait % 1000), .i cn, .i (d.stay % 4)] ag39 sz39
   ·exact sLB (Za3 x) ag30 sz30
   ·exact sC (show Fn Try.prog 19 [.agg [.one, .q eSec ss, .one, .one, .one, .one, .one, .one, .one, .one], .agg (Za3 x)] (.q eU8 st_) from (by have h_ := l16_states ss x om hx; rw [← h_st_] at h_; exact h_)) bd19
   ·exact sLB [.one, .q eSec ss, .q eIL pa, .q ePnt pp, .q eIL rr, .i (1 + d.speed % (2 * (10 * (1 + d.len % 20)))), .i (1 + d.mute % 1000), .i (1 + d.wait % 1000), .i cn, .i (d.stay % 4)] ag39 sz39
   ·exact sLB (Za3 x) ag30 sz30
   ·exact sC (show Fn Try.prog 20 [.agg [.one, .one, .q eIL pa, .one, .one, .one, .one, .one, .one, .one], .agg (Za3 x)] (.q eI ow) from (by have h_ := l16_owners pa x om hx; rw [← h_ow] at h_; exact h_)) bd20
   ·exact sMv
   ·exact sLB [.one, .q eSec ss, .q eIL pa, .q ePnt pp, .q eIL rr, .i (1 + d.speed % (2 * (10 * (1 + d.len % 20)))), .i (1 + d.mute % 1000), .i (1 + d.wait % 1000), .i cn, .i (d.stay % 4)] ag39 sz39
   ·exact sLB (Za3 x) ag30 sz30
   ·exact sC (show Fn Try.prog 21 [.agg [.one, .one, .one, .q ePnt pp, .one, .one, .one, .one, .one, .one], .agg (Za3 x)] (.q eB pt) from (by have h_ := l16_points pp x om hx; rw [← h_pt] at h_; exact h_)) bd21
   ·exact sMv
   ·exact sC (show Fn Try.prog 22 [.agg [.one, .q eSec ss, .q eIL pa, .q ePnt pp, .q eIL rr, .one, .one, .one, .one, .one], .q eLk lk, .q eU8 st_, .q eI ow, .q eV vw, .q eB pt, .i ((k : Int) - 1)] (.q eI p) from (by have h_ := (r16_Of vw ((k : Int) - 1) ss pa pp rr st_ ow pt lk (fld_ok hL hst how (Nat.le_trans (hvs _) om) om) hlr hen om om hL.hrs (fun x hx i hi => step_same hT hwk hnd hx hi)); rw [← h_p] at h_; exact h_)) bd22
   ·exact dW 75 fun st hob hE => call_ (show Fn Try.prog 16 [.q eI p, .q eI p] (.b true) from (by have h_ := r01_Ints p p om; rw [decide_eq_true rfl] at h_; exact h_)) rfl rfl rfl rfl rfl bd16 (by show [st.env 60, st.env 74] ++ _ = _; rw [hE 60 rfl, hE 74 rfl]; rfl) (by rw [hob]; rfl)
   exact dW 76 fun st hob hE => aop_not rfl rfl rfl (hE 75 rfl) (by rw [hob]; rfl)
  refine op0 ?_
  refine awp_cond false rfl rfl (fun h => by cases h) (fun _ => ?_)
  refine awp_skip ?_
  refine regR ?_
  refine mG (.i ((k : Int) - 1)) ?_
  refine oG (qB (.int .i64 (((k : Int) - 1) + 1)) (addI om) ?_)
  refine mG (.i (((k : Int) - 1) + 1)) ?_
  refine op0 ?_
  show _ ∧ _
  refine ⟨by omega, trivial, ?_⟩
  exact iL [(1, 1), (2, 2)] [((1, 1), .live _), ((2, 2), .live _)] ⟨row_no rfl rfl, row_no rfl rfl, trivial⟩ (he := (sS (by exact congrArg (fun n_ : Int => AV.v (.int .i64 n_)) om) (sS rfl (sS rfl (sS rfl (sM rfl (sS rfl (sM rfl sr_none))))))))
 have hf14 := of_decide_eq_false hc1
 refine awp_exit ?_
 refine seqR ?_
 refine mG (.b true) ?_
 refine op0 ?_
 refine awp_ret ?_
 exact fret (av := .v (.bool true)) rfl rfl (by simp)
end Go.Lo
