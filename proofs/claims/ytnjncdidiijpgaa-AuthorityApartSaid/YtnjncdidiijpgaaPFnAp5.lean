/- Walks of Go functions in the logic of values: what the law reaches. -/
import Derived.Test.YtnjncdidiijpgaaPFnAp4
set_option linter.unusedVariables false
set_option linter.unusedSimpArgs false
set_option maxRecDepth 10000
set_option maxHeartbeats 16000000
namespace Go.Lo
open Go.Proofs
abbrev Z351_3 (w : Int) (m p : List Int) : Nat → AV := (upd (upd (upd none_ 2 (.i w)) 3 (.q eU8 m)) 4 (.q eI p))
abbrev Z351_2 (ls : List Lk) (i : Nat) : List AV := [.i (ls.getD i dLk).route, .i (ls.getD i dLk).train, .i (ls.getD i dLk).ends, .sl 3 0 (ls.getD i dLk).pieces.length]
abbrev Z351_1 (ls : List Lk) (i : Nat) : List AV := [.i (ls.getD i dLk).route, .i (ls.getD i dLk).train, .i (ls.getD i dLk).ends, .sl (i + 8) 0 (ls.getD i dLk).pieces.length]
abbrev Z351_0 (g d : List (List Int)) : LObj := ⟨[.one, .one, .q eIL g, .one, .q eIL d, .one, .one, .one, .one, .one], 39, 1⟩
theorem r15_Turn (d g : List (List Int)) (w : Int) (m p : List Int) (ls : List Lk) (hro : d.length ≤ 65536) (hpa : g.length ≤ 65536) (hpl : ∀ y, y ∈ g → y.length ≤ 65536) (hst : m.length ≤ 65536) (how : p.length ≤ 65536) (hll : ls.length ≤ 65536) (z : ∀ x, x ∈ ls → LkR d x)
  (hrs : ∀ x, x ∈ d → ∀ s, s ∈ x → 0 ≤ s ∧ s < (m.length : Int)) (hpo : ∀ s : Int, 0 ≤ s → s < (m.length : Int) → 0 ≤ partI g s ∧ partI g s < (p.length : Int)) :
  Fn Try.prog 29 [.agg [.one, .one, .q eIL g, .one, .q eIL d, .one, .one, .one, .one, .one], .q eLk ls, .i w, .q eU8 m, .q eI p] (.ro (turnL (⟨d, g, w, m, p⟩ : Tu) ls).length (enc eLk (turnL (⟨d, g, w, m, p⟩ : Tu) ls))) := by
 refine fnE_of_body (N := 129) Try.func29 rfl rfl (resOf1 rfl) (by simp) (fun w0 X hL_ => ?_)
 refine seqR ?_
 refine oG (qW 4 ?_)
 refine mG (.v (.slice none 0 0)) ?_
 refine op0 ?_
 refine seqR ?_
 refine mG (.v (.slice none 0 0)) ?_
 refine op0 ?_
 refine seqR ?_
 refine mG (.q eLk ls) ?_
 refine oG (aop_callO (news' := ⟨enc eOw (ow 8 ls), 58, 4⟩ :: ls.map (pcO_ 5)) 7 false rfl rfl rfl rfl rfl bd49 lS (fun _ => lends_cons (lend_n (av := .q eLk ls)) lends_nil) (r15_copiedO ls hll (fun x hx => by have h9 := z x hx; have := h9.ps; have := h9.ln; omega)) (fun h => by cases h) (fun i hi => (updO_ne _ _ (by omega : 7 + i ≠ 4)).trans rfl) rfl ?_ ?_)
 ·show LObj.mk (AV.mapL _ (enc eOw (ow 1 ls))) 58 4 :: (ls.map (pcO_ 5)).map _ = _
  rw [ow_map ls 1 8 (fun i hi => by omega), List.map_map]
  exact congrArg _ (List.map_congr_left fun x _ => pcO_map)
 refine mG (.sl 7 0 ls.length) ?_
 refine op0 ?_
 refine awp_seq ?_
 refine seqR ?_
 refine mG (.i 0) ?_
 refine op0 ?_
 refine awp_block ?_
 refine awp_count (fun i => ⟨(upd (upd (upd (upd (Z351_3 w m p) 5 (.pt 4 0)) 11 (.sl 1 0 (turnL (⟨d, g, w, m, p⟩ : Tu) (ls.take i)).length)) 12 (.sl 7 0 ls.length)) 13 (.i (i : Int))), tuOb (rowT 5 ls i) (Z351_0 g d) ⟨enc eOw (ow 8 ls), 58, 4⟩ ⟨enc eLk (turnL (⟨d, g, w, m, p⟩ : Tu) (ls.take i)), 58, 4⟩⟩) (ls.length) ?_ (fun i hi_ => ?_)
 ·refine (imp_adopt 11 1 58 4 rfl ?_).trans (imp_le ⟨lu rfl (lu rfl (lu rfl (lu rfl (lu rfl (lu rfl (lu rfl ln)))))), fun id => .inl (tu_start id)⟩)
  exact (addO_get _ _ _ _).trans (if_neg om)
 have hdn := turn_len (⟨d, g, w, m, p⟩ : Tu) (ls.take i)
 have htk : (ls.take i).length = i := by rw [List.length_take]; omega
 refine awp_seq ?_
 refine seqR ?_
 refine mG (.i (i : Int)) ?_
 refine mG (.sl 7 0 ls.length) ?_
 refine oG (aop_len rfl rfl rfl rfl ut41 (len_sl rfl) ?_)
 refine bG ((.bool (decide ((i : Int) < (ls.length : Int))))) ?_
 refine op0 ?_
 refine awp_cond (decide ((i : Int) < (ls.length : Int))) rfl rfl (fun hc0 => ?_) (fun hc0 => ?_)
 ·have hf1 := of_decide_eq_true hc0
  have hil : i < ls.length := by omega
  have hx := z _ (getD_mem (l := ls) (k := i) dLk hil)
  have hxr := hx.r
  have hdn1 := turn_step (t := (⟨d, g, w, m, p⟩ : Tu)) (ls := ls) hil
  have hkl := tuK_len (t := (⟨d, g, w, m, p⟩ : Tu)) (x := (ls.getD i dLk)) (ls.getD i dLk).pieces.length
  refine awp_skip ?_
  refine awp_seq ?_
  refine awp_block ?_
  refine seqR ?_
  refine mG (.sl 7 0 ls.length) ?_
  refine mG (.i (i : Int)) ?_
  refine oG (aop_ixO (k := i) rfl rfl rfl ut41 sz58 rfl rfl hil ?_)
  refine oG (aop_ldOA (k := i) (f := eOw) (l := ow 8 ls) (cells' := (Z351_1 ls i)) dOw rfl rfl rfl ag58 sz58 rfl rfl rfl (fun _ => rfl) (by rw [ow_len]; exact hil) (by rw [ow_get hil, show 8 + i = i + 8 by omega]; rfl) ?_)
  refine oG (aop_alloc 2 rfl rfl rfl rfl ze58 rfl ?_)
  refine oG (qS sz58 ?_)
  refine op0 ?_
  have hi3 : ix [4, 1, 2, i + 8] (i + 8) = 3 := ix_of (i := 3) (by simp) rfl
  refine awp_sub [4, 1, 2, i + 8] [(Z351_0 g d), ⟨enc eLk (turnL (⟨d, g, w, m, p⟩ : Tu) (ls.take i)), 58, 4⟩, ⟨(Z351_2 ls i), 58, 1⟩, pcO_ 5 (ls.getD i dLk)] 12 (fun u => (upd (upd (upd (upd (upd (Z351_3 w m p) 5 (.pt 0 0)) 11 (.sl 1 0 (turnL (⟨d, g, w, m, p⟩ : Tu) (ls.take i)).length)) 12 (.v u)) 13 (.i (i : Int))) 14 (.pt 2 0))) (fun u s => (tuB (⟨d, g, w, m, p⟩ : Tu) (ls.getD i dLk) = true ∧ s = ⟨(upd (upd (upd (upd (Z351_3 w m p) 5 (.pt 0 0)) 11 (.sl 4 0 ((turnL (⟨d, g, w, m, p⟩ : Tu) (ls.take i)).length + 1))) 12 (.v u)) 13 (.i (i : Int))), (updO (updO (updO (updO (updO noOb 0 (.live (Z351_0 g d))) 1 .dead) 2 .dead) 3 (.live ⟨enc eU8 (tuK (⟨d, g, w, m, p⟩ : Tu) (ls.getD i dLk) (ls.getD i dLk).pieces.length).1, 5, 1⟩)) 4 (.live ⟨enc eLk (turnL (⟨d, g, w, m, p⟩ : Tu) (ls.take i)) ++ (Z351_2 ls i), 58, 4⟩))⟩) ∨ (tuB (⟨d, g, w, m, p⟩ : Tu) (ls.getD i dLk) = false ∧ s = ⟨(upd (upd (upd (upd (Z351_3 w m p) 5 (.pt 0 0)) 11 (.sl 1 0 (turnL (⟨d, g, w, m, p⟩ : Tu) (ls.take i)).length)) 12 (.v u)) 13 (.i (i : Int))), (updO (updO (updO (updO noOb 0 (.live (Z351_0 g d))) 1 (.live ⟨enc eLk (turnL (⟨d, g, w, m, p⟩ : Tu) (ls.take i)), 58, 4⟩)) 2 .dead) 3 (.live ⟨enc eU8 (tuK (⟨d, g, w, m, p⟩ : Tu) (ls.getD i dLk) (ls.getD i dLk).pieces.length).1, 5, 1⟩))⟩)) (blt_lt rfl) (fun u => rfl) (by simp) rfl (fun j id hj => ?_) (fun u => su_upd (.pt _ _ (by simp)) rfl (su_no rfl (su_skip (ru_upd (.sl _ _ _ (by simp)) rfl (ru_upd (.pt _ _ (by simp)) rfl (ru_no rfl (ru_no rfl (ru_no rfl ru_none)))))))) (fun u w0 G C hL hLG => ?_) (fun u s hp => ?_)
  ·match j, hj with
   | 0, hj => cases hj; exact ⟨(Z351_0 g d), rfl, congrArg some (om_ lm_no).symm, oks_no⟩
   | 1, hj => cases hj; exact ⟨⟨enc eLk (turnL (⟨d, g, w, m, p⟩ : Tu) (ls.take i)), 58, 4⟩, rfl, congrArg some (om_ lm_no).symm, oks_no⟩
   | 2, hj =>
    cases hj
    refine ⟨⟨(Z351_1 ls i), 58, 1⟩, rfl, ?_, ?_⟩
    ·show some _ = some (LObj.mk [.i _, .i _, .i _, .sl (ix [4, 1, 2, i + 8] (i + 8)) 0 _] 58 1)
     rw [hi3]
    intro c hc
    simp only [List.mem_cons, List.not_mem_nil, or_false] at hc
    rcases hc with rfl | rfl | rfl | rfl
    ·exact .v _
    ·exact .v _
    ·exact .v _
    exact .sl _ _ _ (by simp)
   | 3, hj => cases hj; exact ⟨pcO_ 5 (ls.getD i dLk), (tuOb_hi (rows := rowT 5 ls i) (b4 := (Z351_0 g d)) (b7 := ⟨enc eOw (ow 8 ls), 58, 4⟩) (out := ⟨enc eLk (turnL (⟨d, g, w, m, p⟩ : Tu) (ls.take i)), 58, 4⟩)).trans (rowT_at hil), congrArg some pcO_map.symm, pcO_ok⟩
   | j + 4, hj => simp at hj
  ·refine AWP.mono (r15_TurnIn d g w m p (ls.getD i dLk) (turnL (⟨d, g, w, m, p⟩ : Tu) (ls.take i)) u i hro hpa hpl hst how hx (hrs _ (getD_mem (l := d) (k := (ls.getD i dLk).route.toNat) [] om)) hpo om w0 G C hL hLG) (fun e s h => ?_)
   cases e with
   | normal =>
    rcases h with ⟨h1, h2⟩ | ⟨h1, h2⟩
    ·exact ⟨_, h2, .inl ⟨h1, rfl⟩⟩
    exact ⟨_, h2, .inr ⟨h1, rfl⟩⟩
   | _ => exact h.elim
  rcases hp with ⟨htb, rfl⟩ | ⟨htb, rfl⟩
  ·rw [htb, if_pos rfl] at hdn1
   refine ⟨rfl, [.live (Z351_0 g d), .dead, .dead, .live ⟨enc eU8 (tuK (⟨d, g, w, m, p⟩ : Tu) (ls.getD i dLk) (ls.getD i dLk).pieces.length).1, 5, 1⟩, .live ⟨enc eLk (turnL (⟨d, g, w, m, p⟩ : Tu) (ls.take i)) ++ (Z351_2 ls i), 58, 4⟩], [3], rfl, by simp, rfl, (fun id hid => by rw [List.mem_singleton.1 hid]; rfl), ?_⟩
   have hro_ : LObj.map (nm [4, 1, 2, i + 8, 3]) ⟨enc eU8 (tuK (⟨d, g, w, m, p⟩ : Tu) (ls.getD i dLk) (ls.getD i dLk).pieces.length).1, 5, 1⟩ = ⟨enc eU8 (tuK (⟨d, g, w, m, p⟩ : Tu) (ls.getD i dLk) (ls.getD i dLk).pieces.length).1, 5, 1⟩ := om_ lm_no
   have hout : LObj.map (nm [4, 1, 2, i + 8, 3]) ⟨enc eLk (turnL (⟨d, g, w, m, p⟩ : Tu) (ls.take i)) ++ (Z351_2 ls i), 58, 4⟩ = ⟨enc eLk (turnL (⟨d, g, w, m, p⟩ : Tu) (ls.take i)) ++ (Z351_1 ls i), 58, 4⟩ := om_ (by rw [mapL_append, lm_no]; rfl)
   refine awp_imp ⟨(upd (upd (upd (upd (Z351_3 w m p) 5 (.pt 4 0)) 11 (.sl 1 0 (turnL (⟨d, g, w, m, p⟩ : Tu) (ls.take (i + 1))).length)) 12 (.sl 7 0 ls.length)) 13 (.i (i : Int))), tuOb (rowT 5 ls (i + 1)) (Z351_0 g d) ⟨enc eOw (ow 8 ls), 58, 4⟩ ⟨enc eLk (turnL (⟨d, g, w, m, p⟩ : Tu) (ls.take (i + 1))), 58, 4⟩⟩ ?_ ?_
   ·refine (tu_ren (e1 := (upd (upd (upd (upd (Z351_3 w m p) 5 (.pt 4 0)) 11 (.sl 1 0 ((turnL (⟨d, g, w, m, p⟩ : Tu) (ls.take i)).length + 1))) 12 (.sl 7 0 ls.length)) 13 (.i (i : Int)))) (rows := rowX 5 ls i ⟨enc eU8 (tuK (⟨d, g, w, m, p⟩ : Tu) (ls.getD i dLk) (ls.getD i dLk).pieces.length).1, 5, 1⟩) (b4 := (Z351_0 g d)) (b7 := ⟨enc eOw (ow 8 ls), 58, 4⟩) (out := ⟨enc eLk (turnL (⟨d, g, w, m, p⟩ : Tu) (ls.take i)) ++ (Z351_1 ls i), 58, 4⟩) 3 (.inr rfl) rfl (congrArg OSt.live (om_ lm_no)) rfl (congrArg OSt.live hout) (fun j => ?_) (fun c hc => NoIL.out c hc) (ow_ok (fun i h1 h2 => h1)) ?_ ?_ ?_).trans (tu_frz hil rfl (fun _ h => h) ?_ ⟨rfl, rfl, ?_, ?_⟩)
    ·refine Eq.trans ?_ (tu_rows (b4 := (Z351_0 g d)) (b7 := ⟨enc eOw (ow 8 ls), 58, 4⟩) (out := ⟨enc eLk (turnL (⟨d, g, w, m, p⟩ : Tu) (ls.take i)), 58, 4⟩) hil j)
     show updO (tuOb (rowT 5 ls i) (Z351_0 g d) ⟨enc eOw (ow 8 ls), 58, 4⟩ ⟨enc eLk (turnL (⟨d, g, w, m, p⟩ : Tu) (ls.take i)), 58, 4⟩) (i + 8) (.live (LObj.map (nm [4, 1, 2, i + 8, 3]) ⟨enc eU8 (tuK (⟨d, g, w, m, p⟩ : Tu) (ls.getD i dLk) (ls.getD i dLk).pieces.length).1, 5, 1⟩)) (j + 8) = _
     rw [hro_]
    ·intro c hc
     rcases List.mem_append.1 hc with hc | hc
     ·exact (NoIL.out c hc).mono (fun _ h => h.elim) id
     simp only [List.mem_cons, List.not_mem_nil, or_false] at hc
     rcases hc with rfl | rfl | rfl | rfl
     ·exact .v _
     ·exact .v _
     ·exact .v _
     exact .sl _ _ _ (by show 8 ≤ i + 8; omega)
    ·exact fun j o h => rowX_no (r := ⟨enc eU8 (tuK (⟨d, g, w, m, p⟩ : Tu) (ls.getD i dLk) (ls.getD i dLk).pieces.length).1, 5, 1⟩) NoIL.out h
    ·exact ru_no rfl (ru_upd (.sl _ _ _ (.inr (.inr (.inl rfl)))) rfl (ru_upd (.sl _ _ _ (.inl rfl)) rfl (ru_upd (.pt _ _ (.inr (.inl rfl))) rfl (ru_no (am_no (a := .q eI p)) (ru_no (am_no (a := .q eU8 m)) (ru_no rfl ru_none))))))
    ·exact fz_same 13 _ rfl (fz_same 12 _ rfl (fz_same 11 _ (by show AV.sl 1 0 ((turnL (⟨d, g, w, m, p⟩ : Tu) (ls.take i)).length + 1) = AV.sl 1 0 (turnL (⟨d, g, w, m, p⟩ : Tu) (ls.take (i + 1))).length; rw [hdn1, List.length_append]; rfl) (fz_same 5 _ rfl (fz_same 4 _ rfl (fz_same 3 _ rfl (fz_same 2 _ rfl fz_none))))))
    ·show (enc eLk (turnL (⟨d, g, w, m, p⟩ : Tu) (ls.take (i + 1)))).length = (enc eLk (turnL (⟨d, g, w, m, p⟩ : Tu) (ls.take i)) ++ ((Z351_1 ls i) : List AV)).length
     rw [hdn1, enc_snoc, List.length_append, List.length_append]; rfl
    show ∀ (j : Nat) (a b : AV), (enc eLk (turnL (⟨d, g, w, m, p⟩ : Tu) (ls.take i)) ++ ((Z351_1 ls i) : List AV))[j]? = some a → (enc eLk (turnL (⟨d, g, w, m, p⟩ : Tu) (ls.take (i + 1))))[j]? = some b → _
    rw [hdn1, enc_snoc]
    refine frzs_app (frzs_cons (.inl rfl) (frzs_cons (.inl rfl) (frzs_cons (.inl rfl) (frzs_cons (.inr ?_) frzs_nil))))
    show Lend _ _ (.ro (tuK (⟨d, g, w, m, p⟩ : Tu) (ls.getD i dLk) (ls.getD i dLk).pieces.length).1.length (enc eU8 (tuK (⟨d, g, w, m, p⟩ : Tu) (ls.getD i dLk) (ls.getD i dLk).pieces.length).1))
    rw [hkl]
    exact lend_s (o := ⟨enc eU8 (tuK (⟨d, g, w, m, p⟩ : Tu) (ls.getD i dLk) (ls.getD i dLk).pieces.length).1, 5, 1⟩) (updO_same _ _ _) (enc_len (fun _ => rfl) hkl.symm)
   refine regR ?_
   refine mG (.i (i : Int)) ?_
   refine oG (qB (.int .i64 ((i + 1 : Nat) : Int)) (addN om) ?_)
   refine mG (.i ((i + 1 : Nat) : Int)) ?_
   refine op0 ?_
   show _ ∧ _
   exact ⟨hil, imp_le ⟨lu rfl (lu rfl (lu rfl (lu rfl (lu rfl (lu rfl (lu rfl ln)))))), fun id => .inl rfl⟩⟩
  rw [htb, if_neg Bool.false_ne_true] at hdn1
  refine ⟨rfl, [.live (Z351_0 g d), .live ⟨enc eLk (turnL (⟨d, g, w, m, p⟩ : Tu) (ls.take i)), 58, 4⟩, .dead, .live ⟨enc eU8 (tuK (⟨d, g, w, m, p⟩ : Tu) (ls.getD i dLk) (ls.getD i dLk).pieces.length).1, 5, 1⟩], [], rfl, by simp, rfl, (fun id hid => by cases hid), ?_⟩
  have hro_ : LObj.map (nm [4, 1, 2, i + 8]) ⟨enc eU8 (tuK (⟨d, g, w, m, p⟩ : Tu) (ls.getD i dLk) (ls.getD i dLk).pieces.length).1, 5, 1⟩ = ⟨enc eU8 (tuK (⟨d, g, w, m, p⟩ : Tu) (ls.getD i dLk) (ls.getD i dLk).pieces.length).1, 5, 1⟩ := om_ lm_no
  refine awp_imp ⟨(upd (upd (upd (upd (Z351_3 w m p) 5 (.pt 4 0)) 11 (.sl 1 0 (turnL (⟨d, g, w, m, p⟩ : Tu) (ls.take (i + 1))).length)) 12 (.sl 7 0 ls.length)) 13 (.i (i : Int))), tuOb (rowT 5 ls (i + 1)) (Z351_0 g d) ⟨enc eOw (ow 8 ls), 58, 4⟩ ⟨enc eLk (turnL (⟨d, g, w, m, p⟩ : Tu) (ls.take (i + 1))), 58, 4⟩⟩ ?_ ?_
  ·rw [hdn1]
   refine (tu_ren (e1 := (upd (upd (upd (upd (Z351_3 w m p) 5 (.pt 4 0)) 11 (.sl 1 0 (turnL (⟨d, g, w, m, p⟩ : Tu) (ls.take i)).length)) 12 (.sl 7 0 ls.length)) 13 (.i (i : Int)))) (rows := rowX 5 ls i ⟨enc eU8 (tuK (⟨d, g, w, m, p⟩ : Tu) (ls.getD i dLk) (ls.getD i dLk).pieces.length).1, 5, 1⟩) (b4 := (Z351_0 g d)) (b7 := ⟨enc eOw (ow 8 ls), 58, 4⟩) (out := ⟨enc eLk (turnL (⟨d, g, w, m, p⟩ : Tu) (ls.take i)), 58, 4⟩) 1 (.inl rfl) rfl (congrArg OSt.live (om_ lm_no)) rfl (congrArg OSt.live (om_ lm_no)) (fun j => ?_) (fun c hc => NoIL.out c hc) (ow_ok (fun i h1 h2 => h1)) (fun c hc => (NoIL.out c hc).mono (fun _ h => h.elim) id) ?_ ?_).trans (tu_frz hil rfl (fun _ h => h) ?_ ⟨rfl, rfl, rfl, fun j a b h1 h2 => .inl (by rw [h1] at h2; cases h2; rfl)⟩)
   ·refine Eq.trans ?_ (tu_rows (b4 := (Z351_0 g d)) (b7 := ⟨enc eOw (ow 8 ls), 58, 4⟩) (out := ⟨enc eLk (turnL (⟨d, g, w, m, p⟩ : Tu) (ls.take i)), 58, 4⟩) hil j)
    show updO (tuOb (rowT 5 ls i) (Z351_0 g d) ⟨enc eOw (ow 8 ls), 58, 4⟩ ⟨enc eLk (turnL (⟨d, g, w, m, p⟩ : Tu) (ls.take i)), 58, 4⟩) (i + 8) (.live (LObj.map (nm [4, 1, 2, i + 8]) ⟨enc eU8 (tuK (⟨d, g, w, m, p⟩ : Tu) (ls.getD i dLk) (ls.getD i dLk).pieces.length).1, 5, 1⟩)) (j + 8) = _
    rw [hro_]
   ·exact fun j o h => rowX_no (r := ⟨enc eU8 (tuK (⟨d, g, w, m, p⟩ : Tu) (ls.getD i dLk) (ls.getD i dLk).pieces.length).1, 5, 1⟩) NoIL.out h
   ·exact ru_no rfl (ru_upd (.sl _ _ _ (.inr (.inr (.inl rfl)))) rfl (ru_upd (.sl _ _ _ (.inl rfl)) rfl (ru_upd (.pt _ _ (.inr (.inl rfl))) rfl (ru_no (am_no (a := .q eI p)) (ru_no (am_no (a := .q eU8 m)) (ru_no rfl ru_none))))))
   exact fz_same 13 _ rfl (fz_same 12 _ rfl (fz_same 11 _ rfl (fz_same 5 _ rfl (fz_same 4 _ rfl (fz_same 3 _ rfl (fz_same 2 _ rfl fz_none))))))
  refine regR ?_
  refine mG (.i (i : Int)) ?_
  refine oG (qB (.int .i64 ((i + 1 : Nat) : Int)) (addN om) ?_)
  refine mG (.i ((i + 1 : Nat) : Int)) ?_
  refine op0 ?_
  show _ ∧ _
  exact ⟨hil, imp_le ⟨lu rfl (lu rfl (lu rfl (lu rfl (lu rfl (lu rfl (lu rfl ln)))))), fun id => .inl rfl⟩⟩
 have hf2 := of_decide_eq_false hc0
 have he : ls.take i = ls := List.take_of_length_le om
 refine awp_exit ?_
 refine seqR ?_
 refine mG (.sl 1 0 (turnL (⟨d, g, w, m, p⟩ : Tu) (ls.take i)).length) ?_
 refine mG (.sl 1 0 (turnL (⟨d, g, w, m, p⟩ : Tu) (ls.take i)).length) ?_
 refine op0 ?_
 refine awp_imp _ (imp_frozen rfl (fun _ h => h) (lee_lend 10 (.q eLk (turnL (⟨d, g, w, m, p⟩ : Tu) (ls.take i))) (lend_s (id := 1) (n := (turnL (⟨d, g, w, m, p⟩ : Tu) (ls.take i)).length) (o := ⟨(enc eLk (turnL (⟨d, g, w, m, p⟩ : Tu) (ls.take i))), 58, 4⟩) rfl (enc_len (fun _ => rfl) rfl)) lee_lend0)) ?_
 refine awp_ret ?_
 exact fret (av := .q eLk (turnL (⟨d, g, w, m, p⟩ : Tu) (ls.take i))) rfl rfl (by rw [he])

theorem ag30 : aggT Try.prog 30 = some true := by kernel_rfl
theorem bd19 : bodied Try.prog 19 = true := by kernel_rfl
theorem bd20 : bodied Try.prog 20 = true := by kernel_rfl
theorem bd26 : bodied Try.prog 26 = true := by kernel_rfl
theorem bd28 : bodied Try.prog 28 = true := by kernel_rfl
theorem bd29 : bodied Try.prog 29 = true := by kernel_rfl
theorem ft30_0 : fieldT Try.prog 30 0 = some (5, 0) := by kernel_rfl
theorem ft30_1 : fieldT Try.prog 30 1 = some (5, 1) := by kernel_rfl
theorem ft30_2 : fieldT Try.prog 30 2 = some (5, 2) := by kernel_rfl
theorem ft30_7 : fieldT Try.prog 30 7 = some (5, 7) := by kernel_rfl
theorem in63 : (Try.prog.info? 63).map (fun i => (i.zero, i.size, i.bytes)) = some (some (.agg #[(.int .i64 0), (.bool false), (.slice none 0 0)]), 3, 40) := by kernel_rfl
theorem in69 : (Try.prog.info? 69).map (fun i => (i.zero, i.size, i.bytes)) = some (some (.agg #[(.int .i64 0), (.bool false), (.slice none 0 0)]), 3, 40) := by kernel_rfl
theorem iz69 : (Try.prog.info? 69).map (fun i => (i.zero, i.size)) = some (some (.agg #[(.int .i64 0), (.bool false), (.slice none 0 0)]), 3) := by kernel_rfl
theorem ze30 : (Try.prog.info? 30).bind (·.zero) = some (.agg #[(.int .u8 0), (.int .u8 0), (.int .u8 0), (.slice none 0 0), (.slice none 0 0), (.slice none 0 0), (.slice none 0 0), (.int .u8 0)]) := by kernel_rfl
abbrev Z366_6 : Nat → AV := (upd (upd (upd (upd none_ 2 (.pt 5 0)) 3 (.pt 6 0)) 4 (.v (.slice none 0 0))) 5 (.v (.slice none 0 0)))
abbrev Z366_5 (a : List Sec) : LObj := ⟨[.one, .q eSec a, .one, .one, .one, .one, .one, .one, .one, .one], 39, 1⟩
abbrev Z366_3 (k : Nat) (x : Act) (a : List Sec) : View := (⟨(k : Int), (((x.tk.fdiv (2 ^ k)) % 2) == 0), vwS a.length x k x.sp.length⟩ : View)
abbrev Z366_2 (x : Act) : List AV := [.v (.int .u8 x.dw), .v (.int .u8 x.n), .v (.int .u8 x.tr), .q eU8 x.sts, .q eU8 x.ow, .q eB x.rt, .q eU8 x.sp, .v (.int .u8 x.tk)]
abbrev Z366_1 (a : List Sec) (x : Act) (k : Nat) : Nat → AV := (upd (upd (upd Z366_6 6 (.sl 1 0 ((vwL a.length x k).length))) 7 (.sl 2 0 ((vwL a.length x k).length))) 8 (.i (k : Int)))
abbrev Z366_0 (a : List Sec) (x : Act) (k : Nat) : Nat → OSt := (updO (updO (updO (updO noOb 1 (.live ⟨(enc eV (vwL a.length x k)), 63, 3⟩)) 2 (.live ⟨(enc eV (vwL a.length x k)), 69, 3⟩)) 5 (.live (Z366_5 a))) 6 (.live ⟨(Z366_2 x), 30, 1⟩))
abbrev Z366_7 (a : List Sec) (x : Act) (k j : Nat) : Nat → AV := (upd (upd (Z366_1 a x k) 9 (.sl 3 0 ((vwS a.length x k j).length))) 10 (.i (j : Int)))
abbrev Z366_4 (a : List Sec) (x : Act) (k j : Nat) : Nat → OSt := (updO (updO (updO (updO (updO noOb 1 (.live ⟨(enc eV (vwL a.length x k)), 63, 3⟩)) 2 (.live ⟨(enc eV (vwL a.length x k)), 69, 3⟩)) 3 (.live ⟨(enc eI (vwS a.length x k j)), 3, 1⟩)) 5 (.live (Z366_5 a))) 6 (.live ⟨(Z366_2 x), 30, 1⟩))
theorem l16_views (a : List Sec) (x : Act) (hs : a.length ≤ 65536) (h1 : 1 ≤ a.length) (hx : ActOk x) (hsp : x.sp.length ≤ 65536) : Fn Try.prog 15 [.agg [.one, .ro a.length (enc eSec a), .one, .one, .one, .one, .one, .one, .one, .one], .agg [.v (.int .u8 x.dw), .v (.int .u8 x.n), .v (.int .u8 x.tr), .ro x.sts.length (enc eU8 x.sts), .ro x.ow.length (enc eU8 x.ow), .ro x.rt.length (enc eB x.rt), .ro x.sp.length (enc eU8 x.sp), .v (.int .u8 x.tk)]] (.tup [.ro ((vwL a.length x 3).length) (enc eV (vwL a.length x 3)), .ro ((vwL a.length x 3).length) (enc eV (vwL a.length x 3))]) := by
 have hx1 := hx.dw
 have hx2 := hx.n
 have hx3 := hx.tr
 have hx4 := hx.tk
 have hx5 := hx.l1
 have hx6 := hx.l2
 have hx7 := hx.l3
 have hx8 := hx.l4
 have hj := hx4
 refine fnE_of_body (N := 77) Try.func15 rfl rfl (resOf2 rfl) (by simp) (fun w0 X hL_ => ?_)
 refine seqR ?_
 refine oG (qW 51 ?_)
 refine oG (qW 52 ?_)
 refine mG (.v (.slice none 0 0)) ?_
 refine mG (.v (.slice none 0 0)) ?_
 refine rU (upd (upd (upd (upd none_ 2 (.pt 51 0)) 3 (.pt 52 0)) 4 (.v (.slice none 0 0))) 5 (.v (.slice none 0 0))) (updO (updO noOb 51 (.live (Z366_5 a))) 52 (.live ⟨(Z366_2 x), 30, 1⟩)) ?_
 refine seqR ?_
 refine mG (.v (.slice none 0 0)) ?_
 refine op0 ?_
 refine seqR ?_
 refine mG (.v (.slice none 0 0)) ?_
 refine op0 ?_
 refine awp_seq ?_
 refine seqR ?_
 refine mG (.i 0) ?_
 refine op0 ?_
 refine awp_block ?_
 refine awp_countI (fun k => ⟨(Z366_1 a x k), (Z366_0 a x k)⟩) (fun k => True) (3) ?_ trivial (fun k hk_k hinv => ?_)
 ·skip
  refine (imp_adopt 6 53 63 3 rfl rfl).trans ?_
  refine (imp_adopt 7 54 69 3 rfl rfl).trans ?_
  exact iL [(53, 1), (54, 2), (51, 5), (52, 6)] [((53, 1), .live _), ((54, 2), .live _), ((51, 5), .live _), ((52, 6), .live _)] ⟨row_no (o := ⟨[], 63, 3⟩) rfl rfl, row_no (o := ⟨[], 69, 3⟩) rfl rfl, row_no rfl rfl, row_no rfl rfl, trivial⟩
 have hvl := vwL_len (n := a.length) (x := x) (k := k)
 refine awp_seq ?_
 refine seqR ?_
 refine mG (.i (k : Int)) ?_
 refine bG ((.bool (decide ((k : Int) < 3)))) ?_
 refine op0 ?_
 refine awp_cond (decide ((k : Int) < 3)) rfl rfl (fun hc0 => ?_) (fun hc0 => ?_)
 ·skip
  have hf1 := of_decide_eq_true hc0
  have hk3 : k < 3 := by omega
  refine awp_skip ?_
  refine awp_seq ?_
  refine awp_block ?_
  refine seqR ?_
  refine mG (.v (.slice none 0 0)) ?_
  refine op0 ?_
  refine awp_seq ?_
  refine seqR ?_
  refine mG (.i 0) ?_
  refine rU (upd (upd (Z366_1 a x k) 9 (.v (.slice none 0 0))) 10 (.i 0)) (Z366_0 a x k) ?_
  refine awp_block ?_
  refine awp_countI (fun j => ⟨(Z366_7 a x k j), (Z366_4 a x k j)⟩) (fun j => True) (x.sp.length) ?_ trivial (fun j hk_j hinv => ?_)
  ·skip
   refine (imp_adopt 9 55 3 1 rfl rfl).trans ?_
   exact iL [(1, 1), (2, 2), (55, 3), (5, 5), (6, 6)] [((1, 1), .live _), ((2, 2), .live _), ((55, 3), .live _), ((5, 5), .live _), ((6, 6), .live _)] ⟨row_no rfl rfl, row_no rfl rfl, row_no (o := ⟨[], 3, 1⟩) rfl rfl, row_no rfl rfl, row_no rfl rfl, trivial⟩
  have hsl := vwS_len (n := a.length) (x := x) (id := k) (k := j)
  refine awp_seq ?_
  refine seqR ?_
  refine mG (.i (j : Int)) ?_
  refine fG (.pt 6 6) ft30_6 sz27 ?_
  refine oG (qL (.q eU8 x.sp) ag27 ?_)
  refine oG (qN ut27 ?_)
  refine bG ((.bool (decide ((j : Int) < (x.sp.length : Int))))) ?_
  refine rU (upd (Z366_7 a x k j) 19 (.b (decide ((j : Int) < (x.sp.length : Int))))) (Z366_4 a x k j) ?_
  refine awp_cond (decide ((j : Int) < (x.sp.length : Int))) rfl rfl (fun hc1 => ?_) (fun hc1 => ?_)
  ·skip
   have hf2 := of_decide_eq_true hc1
   have hsb := hx.sp _ (getD_mem (l := x.sp) (k := j) 0 om)
   refine awp_skip ?_
   refine awp_seq ?_
   refine awp_block ?_
   refine seqR ?_
   refine fG (.pt 6 6) ft30_6 sz27 ?_
   refine oG (qL (.q eU8 x.sp) ag27 ?_)
   refine mG (.i (j : Int)) ?_
   refine oG (qX (0 : Int) ut27 sz5 ?_)
   refine oG (qL (.v (.int .u8 (x.sp.getD j 0))) ag5 ?_)
   refine oG (aop_binI (u := (.int .u8 ((x.sp.getD j 0) / 64))) rfl rfl rfl rfl rfl (by show _ ≠ _; decide) (quoU8 om) ?_)
   refine oG (aop_conv' rfl rfl rfl ut5 ut3 rfl (IntWalk.i64_in _ om) ?_)
   refine oG (aop_binI (u := (.int .i64 (((x.sp.getD j 0) / 64) % 3))) rfl rfl rfl rfl rfl (by show _ ≠ _; decide) (remI om) ?_)
   refine mG (.i (k : Int)) ?_
   refine bG ((.bool ((((x.sp.getD j 0) / 64) % 3) == (k : Int)))) ?_
   refine mG (.b ((((x.sp.getD j 0) / 64) % 3) == (k : Int))) ?_
   refine aops_grp 5 37 (.b (((((x.sp.getD j 0) / 64) % 3) == (k : Int)) || ((x.dw % 2) == 0))) ?_ ?_
   ·refine (Bool.eq_false_or_eq_true ((((x.sp.getD j 0) / 64) % 3) == (k : Int))).elim (fun hg3 => ?_) (fun hg3 => ?_)
    ·skip
     have hf4 := (beq_iff_eq).1 hg3
     refine nG hg3 ?_
     refine nG hg3 ?_
     refine nG hg3 ?_
     refine nG hg3 ?_
     refine oG (qP ((((x.sp.getD j 0) / 64) % 3) == (k : Int)) (.b true) hg3 ?_)
     refine op0 ?_
     exact imp_env (lee_both 37 _ _ (by rw [hg3] <;> rfl) lO)
    have hf5 := (beq_eq_false_iff_ne).1 hg3
    refine oY hg3 (qF (.pt 6 0) (.pt 6 0) ft30_0 sz5 ?_)
    refine oY hg3 (qL (.v (.int .u8 x.dw)) ag5 ?_)
    refine oY hg3 (aop_binI (u := (.int .u8 (x.dw % 2))) rfl rfl rfl rfl rfl (by show _ ≠ _; decide) (remI om) ?_)
    refine oY hg3 (qB (.bool ((x.dw % 2) == 0)) rfl ?_)
    refine oG (qP ((((x.sp.getD j 0) / 64) % 3) == (k : Int)) (.b ((x.dw % 2) == 0)) hg3 ?_)
    refine op0 ?_
    exact imp_env (lee_both 37 _ _ (by rw [hg3] <;> rfl) lO)
   refine op0 ?_
   refine rT (upd (Z366_7 a x k j) 37 (.b (((((x.sp.getD j 0) / 64) % 3) == (k : Int)) || ((x.dw % 2) == 0)))) (Z366_4 a x k j) ?_
   refine awp_cond (((((x.sp.getD j 0) / 64) % 3) == (k : Int)) || ((x.dw % 2) == 0)) rfl rfl (fun hc2 => ?_) (fun hc2 => ?_)
   ·skip
    refine aD 12 [(49, .ro 1 [.i ((x.sp.getD j 0) % (a.length : Int))]), (48, .i ((x.sp.getD j 0) % (a.length : Int))), (47, .i (a.length : Int)), (46, .q eSec a), (45, .pt 5 1), (44, .i (x.sp.getD j 0)), (43, .v (.int .u8 (x.sp.getD j 0))), (42, .rp (([.v (.int .u8 (x.sp.getD j 0))] : List AV) ++ ((enc eU8 x.sp).drop ((j + 1) * 1)))), (41, .i (j : Int)), (40, .q eU8 x.sp), (39, .pt 6 6), (38, .sl 3 0 ((vwS a.length x k j).length))] mixed ?_ ?_
    ·refine ⟨?_, ?_, ?_, ?_, ?_, ?_, ?_, ?_, ?_, ?_, ?_, ?_, trivial⟩
     ·exact sMv
     ·exact sF (.pt 6 0) (.pt 6 6) ft30_6 sz27
     ·exact sL ag27
     ·exact sMv
     ·exact (sIx (0 : Int) ut27 sz5)
     ·exact (sLd ag5)
     ·exact dW 44 fun st hob hE => aop_conv' rfl rfl rfl ut5 ut3 (hE 43 rfl) (IntWalk.i64_in _ om) (by rw [hob]; rfl)
     ·exact sF (.pt 5 0) (.pt 5 1) ft39_1 sz35
     ·exact sL ag35
     ·exact dW 47 fun st hob hE => aop_len rfl rfl rfl rfl ut35 (len_ro (hE 46 rfl)) (by rw [hob]; rfl)
     ·exact dW 48 fun st hob hE => aop_binI (u := (.int .i64 ((x.sp.getD j 0) % (a.length : Int)))) rfl rfl rfl (hE 44 rfl) (hE 47 rfl) (by show _ ≠ _; omega) (remI om) (by rw [hob]; rfl)
     exact dW 49 fun st hob hE => aop_lit rfl rfl rfl ut48 iz3 (by decide) (by decide) (by simp only [partsA, List.map, evA, hE 48 rfl]; rfl) rfl (by rw [hob]; rfl)
    refine oG (aop_app1 (f := eI) (l := vwS a.length x k j) 56 ((x.sp.getD j 0) % (a.length : Int) : Int) rfl rfl rfl rfl ut48 in3 rfl (by decide) rfl rfl rfl rfl rfl rfl (fun _ => rfl) rfl rfl oo oo rfl ?_)
    refine mG (.sl 56 0 (((vwS a.length x k j) ++ [((x.sp.getD j 0) % (a.length : Int) : Int)]).length)) ?_
    refine op0 ?_
    refine regR ?_
    refine mG (.i (j : Int)) ?_
    refine oG (qB (.int .i64 ((j + 1 : Nat) : Int)) (addN om) ?_)
    refine mG (.i ((j + 1 : Nat) : Int)) ?_
    refine op0 ?_
    show _ ∧ _
    have hs_ := vwS_t (n := a.length) (x := x) (id := k) (k := j) om (show vwB x k (x.sp.getD j 0) = true from hc2)
    refine ⟨by omega, trivial, ?_⟩
    exact iL [(1, 1), (2, 2), (56, 3), (5, 5), (6, 6)] [((1, 1), .live _), ((2, 2), .live _), ((56, 3), .live _), ((5, 5), .live _), ((6, 6), .live _)] ⟨row_no rfl rfl, row_no rfl rfl, row_no (o := ⟨(enc eI ((vwS a.length x k j) ++ [((x.sp.getD j 0) % (a.length : Int) : Int)])), 3, 1⟩) rfl (by exact congrArg (fun l_ => LObj.mk (enc eI l_) 3 1) hs_), row_no rfl rfl, row_no rfl rfl, trivial⟩ (he := (sS rfl (sM (by exact congrArg (AV.sl 3 0) (congrArg List.length hs_.symm)) (sS rfl (sM rfl (sM rfl (sS rfl (sS rfl (sM rfl (sM rfl sr_none))))))))))
   obtain ⟨hf6a, hf6b⟩ := or_f hc2
   have hf7 := (beq_eq_false_iff_ne).1 hf6a
   have hf8 := (beq_eq_false_iff_ne).1 hf6b
   refine awp_skip ?_
   refine regR ?_
   refine mG (.i (j : Int)) ?_
   refine oG (qB (.int .i64 ((j + 1 : Nat) : Int)) (addN om) ?_)
   refine mG (.i ((j + 1 : Nat) : Int)) ?_
   refine op0 ?_
   show _ ∧ _
   have hs_ := vwS_f (n := a.length) (x := x) (id := k) (k := j) om (show vwB x k (x.sp.getD j 0) = false from hc2)
   refine ⟨by omega, trivial, ?_⟩
   exact iL [(1, 1), (2, 2), (3, 3), (5, 5), (6, 6)] [((1, 1), .live _), ((2, 2), .live _), ((3, 3), .live _), ((5, 5), .live _), ((6, 6), .live _)] ⟨row_no rfl rfl, row_no rfl rfl, row_no rfl (by exact congrArg (fun l_ => LObj.mk (enc eI l_) 3 1) hs_), row_no rfl rfl, row_no rfl rfl, trivial⟩ (he := (sS rfl (sM (by exact congrArg (AV.sl 3 0) (congrArg List.length hs_.symm)) (sS rfl (sM rfl (sM rfl (sS rfl (sS rfl (sM rfl (sM rfl sr_none))))))))))
  have hf9 := of_decide_eq_false hc1
  refine awp_exit ?_
  have hje : j = x.sp.length := by omega
  refine awp_imp ⟨(upd (upd (upd (Z366_1 a x k) 9 (.q eI (vwS a.length x k x.sp.length))) 10 (.i (j : Int))) 19 (.b (decide ((j : Int) < (x.sp.length : Int))))), (Z366_0 a x k)⟩ ?_ ?_
  ·skip
   refine (frz_ [5, 6, 1, 2] [(5, (Z366_5 a)), (6, ⟨(Z366_2 x), 30, 1⟩), (1, ⟨(enc eV (vwL a.length x k)), 63, 3⟩), (2, ⟨(enc eV (vwL a.length x k)), 69, 3⟩)] rfl (fun _ h => h) ⟨keep_cells (cs := [.one, .q eSec a, .one, .one, .one, .one, .one, .one, .one, .one]) (by simp) rfl rfl fzA, keep_cells (cs := (Z366_2 x)) (by simp) rfl rfl fzA, keep_same (by simp) rfl, keep_same (by simp) rfl, trivial⟩ (fz_same 19 (.b (decide ((j : Int) < (x.sp.length : Int)))) rfl (fz_same 10 (.i (j : Int)) rfl (fz_lend 9 (.q eI (vwS a.length x k j)) (lend_s (id := 3) (n := (vwS a.length x k j).length) (o := ⟨(enc eI (vwS a.length x k j)), 3, 1⟩) rfl (enc_len (fun _ => rfl) (by first | rfl | (simp; done)))) (fz_same 8 (.i (k : Int)) rfl (fz_same 7 (.sl 2 0 ((vwL a.length x k).length)) rfl (fz_same 6 (.sl 1 0 ((vwL a.length x k).length)) rfl (fz_same 5 (.v (.slice none 0 0)) rfl (fz_same 4 (.v (.slice none 0 0)) rfl (fz_same 3 (.pt 6 0) rfl (fz_same 2 (.pt 5 0) rfl fz_none))))))))))).trans ?_
   exact iL [(1, 1), (2, 2), (5, 5), (6, 6)] [((1, 1), .live _), ((2, 2), .live _), ((5, 5), .live _), ((6, 6), .live _)] ⟨row_no (o := ⟨(enc eV (vwL a.length x k)), 63, 3⟩) rfl rfl, row_no (o := ⟨(enc eV (vwL a.length x k)), 69, 3⟩) rfl rfl, row_no (o := (Z366_5 a)) rfl rfl, row_no (o := ⟨(Z366_2 x), 30, 1⟩) rfl rfl, trivial⟩ (he := (sS rfl (sS rfl (sS (by show AV.ro (vwS a.length x k j).length (enc eI (vwS a.length x k j)) = _; rw [hje]) (sS rfl (sM rfl (sM rfl (sS rfl (sS rfl (sM rfl (sM rfl sr_none)))))))))))
  refine seqR ?_
  refine mG (.sl 1 0 ((vwL a.length x k).length)) ?_
  refine mG (.i (k : Int)) ?_
  refine fG (.pt 6 7) ft30_7 sz5 ?_
  refine oG (qL (.v (.int .u8 x.tk)) ag5 ?_)
  refine mG (.i (k : Int)) ?_
  refine oG (aop_shr (n := k) rfl rfl rfl rfl rfl (by show _ ≤ 8; omega) ?_)
  refine oG (aop_binI (u := (.int .u8 ((x.tk.fdiv (2 ^ k)) % 2))) rfl rfl rfl rfl rfl (by show _ ≠ _; decide) (remFdiv hj _) ?_)
  refine bG ((.bool (((x.tk.fdiv (2 ^ k)) % 2) == 0))) ?_
  refine mG (.q eI (vwS a.length x k x.sp.length)) ?_
  refine oG (qD pl63 ?_)
  refine oG (aop_lit rfl rfl rfl ut43 iz63 (by decide) (by decide) rfl rfl ?_)
  refine oG (aop_app1 (f := eV) (l := vwL a.length x k) 57 (Z366_3 k x a) rfl rfl rfl rfl ut43 in63 rfl (by decide) rfl rfl rfl rfl rfl rfl (fun _ => rfl) rfl rfl oo oo rfl ?_)
  refine mG (.sl 57 0 (((vwL a.length x k) ++ [(Z366_3 k x a)]).length)) ?_
  refine rU (upd (upd (upd (upd (upd Z366_6 6 (.sl 57 0 (((vwL a.length x k) ++ [(Z366_3 k x a)]).length))) 7 (.sl 2 0 ((vwL a.length x k).length))) 8 (.i (k : Int))) 9 (.q eI (vwS a.length x k x.sp.length))) 10 (.i (j : Int))) (updO (updO (Z366_0 a x k) 1 .dead) 57 (.live ⟨(enc eV ((vwL a.length x k) ++ [(Z366_3 k x a)])), 63, 3⟩)) ?_
  refine regR ?_
  refine mG (.sl 2 0 ((vwL a.length x k).length)) ?_
  refine mG (.i (k : Int)) ?_
  refine fG (.pt 6 7) ft30_7 sz5 ?_
  refine oG (qL (.v (.int .u8 x.tk)) ag5 ?_)
  refine mG (.i (k : Int)) ?_
  refine oG (aop_shr (n := k) rfl rfl rfl rfl rfl (by show _ ≤ 8; omega) ?_)
  refine oG (aop_binI (u := (.int .u8 ((x.tk.fdiv (2 ^ k)) % 2))) rfl rfl rfl rfl rfl (by show _ ≠ _; decide) (remFdiv hj _) ?_)
  refine bG ((.bool (((x.tk.fdiv (2 ^ k)) % 2) == 0))) ?_
  refine mG (.q eI (vwS a.length x k x.sp.length)) ?_
  refine oG (qD pl69 ?_)
  refine oG (aop_lit rfl rfl rfl ut44 iz69 (by decide) (by decide) rfl rfl ?_)
  refine oG (aop_app1 (f := eV) (l := vwL a.length x k) 58 (Z366_3 k x a) rfl rfl rfl rfl ut44 in69 rfl (by decide) rfl rfl rfl rfl rfl rfl (fun _ => rfl) rfl rfl oo oo rfl ?_)
  refine mG (.sl 58 0 (((vwL a.length x k) ++ [(Z366_3 k x a)]).length)) ?_
  refine op0 ?_
  refine rT (upd (upd (upd (upd (upd Z366_6 6 (.sl 57 0 (((vwL a.length x k) ++ [(Z366_3 k x a)]).length))) 7 (.sl 58 0 (((vwL a.length x k) ++ [(Z366_3 k x a)]).length))) 8 (.i (k : Int))) 9 (.q eI (vwS a.length x k x.sp.length))) 10 (.i (j : Int))) (updO (updO (updO (updO (Z366_0 a x k) 1 .dead) 57 (.live ⟨(enc eV ((vwL a.length x k) ++ [(Z366_3 k x a)])), 63, 3⟩)) 2 .dead) 58 (.live ⟨(enc eV ((vwL a.length x k) ++ [(Z366_3 k x a)])), 69, 3⟩)) ?_
  refine regR ?_
  refine mG (.i (k : Int)) ?_
  refine oG (qB (.int .i64 ((k + 1 : Nat) : Int)) (addN om) ?_)
  refine mG (.i ((k + 1 : Nat) : Int)) ?_
  refine op0 ?_
  show _ ∧ _
  have hs_ := vwL_step (n := a.length) (x := x) (k := k)
  refine ⟨by omega, trivial, ?_⟩
  exact iL [(57, 1), (58, 2), (5, 5), (6, 6)] [((57, 1), .live _), ((58, 2), .live _), ((5, 5), .live _), ((6, 6), .live _)] ⟨row_no rfl (by exact congrArg (fun l_ => LObj.mk (enc eV l_) 63 3) hs_), row_no rfl (by exact congrArg (fun l_ => LObj.mk (enc eV l_) 69 3) hs_), row_no rfl rfl, row_no rfl rfl, trivial⟩ (he := (sS rfl (sM (by exact congrArg (AV.sl 2 0) (congrArg List.length hs_.symm)) (sM (by exact congrArg (AV.sl 1 0) (congrArg List.length hs_.symm)) (sS rfl (sS rfl (sM rfl (sM rfl sr_none))))))))
 have hf10 := of_decide_eq_false hc0
 have hk3 : k = 3 := by omega
 refine awp_exit ?_
 refine seqR ?_
 refine mG (.sl 1 0 ((vwL a.length x k).length)) ?_
 refine mG (.sl 2 0 ((vwL a.length x k).length)) ?_
 refine mG (.sl 1 0 ((vwL a.length x k).length)) ?_
 refine mG (.sl 2 0 ((vwL a.length x k).length)) ?_
 refine rU (upd (upd none_ 4 (.sl 1 0 ((vwL a.length x k).length))) 5 (.sl 2 0 ((vwL a.length x k).length))) (Z366_0 a x k) ?_
 refine awp_imp _ (imp_frozen rfl (fun _ h => h) (lee_lend 5 (.q eV (vwL a.length x k)) (lend_s (id := 2) (n := (vwL a.length x k).length) (o := ⟨(enc eV (vwL a.length x k)), 69, 3⟩) rfl (enc_len (fun _ => rfl) (by first | rfl | (simp; done)))) (lee_lend 4 (.q eV (vwL a.length x k)) (lend_s (id := 1) (n := (vwL a.length x k).length) (o := ⟨(enc eV (vwL a.length x k)), 63, 3⟩) rfl (enc_len (fun _ => rfl) (by first | rfl | (simp; done)))) lee_lend0))) ?_
 refine awp_ret ?_
 exact fret (av := .tup [.ro ((vwL a.length x k).length) (enc eV (vwL a.length x k)), .ro ((vwL a.length x k).length) (enc eV (vwL a.length x k))]) rfl rfl (by rw [hk3])
abbrev Z367_4 (a : List Act) : Nat → AV := (upd (upd (upd none_ 1 (.q eAc a)) 2 (.pt 1 0)) 4 (.v (.slice none 0 0)))
abbrev Z367_3 (a : List Act) (d : List Sec) (e : List (List Int)) (g : List Pnt) (c : List (List Int)) (cn : Int) (k : Nat) : Nat → AV := (upd (upd (upd (Z367_4 a) 5 (.q eLk (lkN (⟨d, e, g, c, cn⟩ : Lo_) a k))) 6 (.q eU8 (zerL (⟨d, e, g, c, cn⟩ : Lo_)))) 7 (.i (k : Int)))
abbrev Z367_1 (d : List Sec) (e : List (List Int)) (g : List Pnt) (c : List (List Int)) (cn : Int) : List AV := [.one, .q eSec d, .q eIL e, .q ePnt g, .q eIL c, .one, .one, .one, .i cn, .one]
abbrev Z367_0 (a : List Act) (k : Nat) : List AV := [.v (.int .u8 ((a.getD k dAc).dw)), .v (.int .u8 ((a.getD k dAc).n)), .v (.int .u8 ((a.getD k dAc).tr)), .ro ((a.getD k dAc).sts.length) (enc eU8 ((a.getD k dAc).sts)), .ro ((a.getD k dAc).ow.length) (enc eU8 ((a.getD k dAc).ow)), .ro ((a.getD k dAc).rt.length) (enc eB ((a.getD k dAc).rt)), .ro ((a.getD k dAc).sp.length) (enc eU8 ((a.getD k dAc).sp)), .v (.int .u8 ((a.getD k dAc).tk))]
abbrev Z367_2 (d : List Sec) (e : List (List Int)) (g : List Pnt) (c : List (List Int)) (cn : Int) (a : List Act) (k : Nat) : Nat → OSt := (updO (updO (updO noOb 1 (.live ⟨(Z367_1 d e g c cn), 39, 1⟩)) 53 (.live ⟨[.v (.int .u8 0), .v (.int .u8 0), .v (.int .u8 0), .v (.slice none 0 0), .v (.slice none 0 0), .v (.slice none 0 0), .v (.slice none 0 0), .v (.int .u8 0)], 30, 1⟩)) 53 (.live ⟨(Z367_0 a k), 30, 1⟩))
theorem l16_locks (d : List Sec) (e : List (List Int)) (g : List Pnt) (c : List (List Int)) (cn : Int) (a : List Act) (hL : LayOk d e g c) (hac : a.length ≤ 65536) (hxs : ∀ x, x ∈ a → ActOk x) : Fn Try.prog 14 [.agg [.one, .ro d.length (enc eSec d), .ro e.length (enc eIL e), .ro g.length (enc ePnt g), .ro c.length (enc eIL c), .one, .one, .one, .v (.int .i64 cn), .one], .ro a.length (enc eAc a)] (.ro ((lkN (⟨d, e, g, c, cn⟩ : Lo_) a a.length).length) (enc eLk (lkN (⟨d, e, g, c, cn⟩ : Lo_) a a.length))) := by
 have hl1 := hL.h1
 have hl2 := hL.hs
 have hl3 := hL.hp
 have hl4 := hL.hpa
 have hl5 := hL.hro
 have hzl : (zerL (⟨d, e, g, c, cn⟩ : Lo_)).length = d.length := List.length_replicate
 refine fnE_of_body (N := 71) Try.func14 rfl rfl (resOf1 rfl) (by simp) (fun w0 X hL_ => ?_)
 refine seqR ?_
 refine oG (qW 51 ?_)
 refine mG (.v (.slice none 0 0)) ?_
 refine op0 ?_
 refine seqR ?_
 refine mG (.v (.slice none 0 0)) ?_
 refine op0 ?_
 refine seqR ?_
 refine fG (.pt 51 1) ft39_1 sz35 ?_
 refine oG (qL (.q eSec d) ag35 ?_)
 refine oG (qN ut35 ?_)
 refine oG (aop_makeE (n := d.length) (f := eU8) 52 (0 : Int) rfl rfl rfl ut27 in5 rfl rfl rfl rfl om om rfl rfl ?_)
 refine mG (.sl 52 0 ((List.replicate d.length (0 : Int)).length)) ?_
 refine rU (upd (upd (upd (upd (upd none_ 1 (.q eAc a)) 2 (.pt 51 0)) 4 (.v (.slice none 0 0))) 5 (.v (.slice none 0 0))) 6 (.sl 52 0 ((List.replicate d.length (0 : Int)).length))) (updO (updO noOb 51 (.live ⟨(Z367_1 d e g c cn), 39, 1⟩)) 52 (.live ⟨(enc eU8 (List.replicate d.length (0 : Int))), 5, 1⟩)) ?_
 refine awp_seq ?_
 refine awp_imp ⟨(upd (upd (upd (upd (upd none_ 1 (.q eAc a)) 2 (.pt 51 0)) 4 (.v (.slice none 0 0))) 5 (.v (.slice none 0 0))) 6 (.q eU8 (zerL (⟨d, e, g, c, cn⟩ : Lo_)))), (updO noOb 51 (.live ⟨(Z367_1 d e g c cn), 39, 1⟩))⟩ ?_ ?_
 ·skip
  refine (frz_ [51] [(51, ⟨(Z367_1 d e g c cn), 39, 1⟩)] rfl (fun _ h => h) ⟨keep_cells (cs := (Z367_1 d e g c cn)) (by simp) rfl rfl fzA, trivial⟩ (fz_lend 6 (.q eU8 (List.replicate d.length (0 : Int))) (lend_s (id := 52) (n := (List.replicate d.length (0 : Int)).length) (o := ⟨(enc eU8 (List.replicate d.length (0 : Int))), 5, 1⟩) rfl (enc_len (fun _ => rfl) (by first | rfl | (simp; done)))) (fz_same 5 (.v (.slice none 0 0)) rfl (fz_same 4 (.v (.slice none 0 0)) rfl (fz_same 2 (.pt 51 0) rfl (fz_same 1 (.q eAc a) rfl fz_none)))))).trans ?_
  exact iI 51 51 (o := ⟨(Z367_1 d e g c cn), 39, 1⟩) rfl
 refine seqR ?_
 refine mG (.i 0) ?_
 refine op0 ?_
 refine awp_block ?_
 refine awp_countI (fun k => ⟨(Z367_3 a d e g c cn k), (updO noOb 1 (.live ⟨(Z367_1 d e g c cn), 39, 1⟩))⟩) (fun k => True) (a.length) ?_ trivial (fun k hk_k hinv => ?_)
 ·skip
  refine (frz_ [51] [(51, ⟨(Z367_1 d e g c cn), 39, 1⟩)] rfl (fun _ h => h) ⟨keep_cells (cs := (Z367_1 d e g c cn)) (by simp) rfl rfl fzA, trivial⟩ (fz_same 7 (.i 0) rfl (fz_same 6 (.q eU8 (zerL (⟨d, e, g, c, cn⟩ : Lo_))) rfl (fz_lend 5 (.ro 0 []) .nil (fz_same 4 (.v (.slice none 0 0)) rfl (fz_same 2 (.pt 51 0) rfl (fz_same 1 (.q eAc a) rfl fz_none))))))).trans ?_
  exact iI 51 1 (o := ⟨(Z367_1 d e g c cn), 39, 1⟩) rfl
 have hml := lkN_len (L := (⟨d, e, g, c, cn⟩ : Lo_)) (acts := a) k
 have hmr := lkN_R (acts := a) (L := (⟨d, e, g, c, cn⟩ : Lo_)) hL k
 refine awp_seq ?_
 refine seqR ?_
 refine mG (.i (k : Int)) ?_
 refine mG (.q eAc a) ?_
 refine oG (qN ut26 ?_)
 refine bG ((.bool (decide ((k : Int) < (a.length : Int))))) ?_
 refine rU (upd (Z367_3 a d e g c cn k) 17 (.b (decide ((k : Int) < (a.length : Int))))) (updO noOb 1 (.live ⟨(Z367_1 d e g c cn), 39, 1⟩)) ?_
 refine awp_cond (decide ((k : Int) < (a.length : Int))) rfl rfl (fun hc0 => ?_) (fun hc0 => ?_)
 ·skip
  have hf1 := of_decide_eq_true hc0
  have hx := hxs _ (getD_mem (l := a) (k := k) dAc om)
  have hx1 := hx.dw
  have hx2 := hx.n
  have hx3 := hx.tr
  refine awp_skip ?_
  refine awp_seq ?_
  refine awp_block ?_
  refine seqR ?_
  refine mG (.q eAc a) ?_
  refine mG (.i (k : Int)) ?_
  refine oG (qX dAc ut26 sz30 ?_)
  refine oG (qLB (Z367_0 a k) ag30 sz30 ?_)
  refine oG (aop_alloc 53 rfl rfl rfl rfl ze30 rfl ?_)
  refine oG (qS sz30 ?_)
  refine rU (upd (Z367_3 a d e g c cn k) 8 (.pt 53 0)) (Z367_2 d e g c cn a k) ?_
  refine seqR ?_
  refine fG (.pt 53 1) ft30_1 sz5 ?_
  refine oG (qL (.v (.int .u8 ((a.getD k dAc).n))) ag5 ?_)
  refine oG (aop_conv' rfl rfl rfl ut5 ut3 rfl (IntWalk.i64_in _ om) ?_)
  refine fG (.pt 1 4) ft39_4 sz36 ?_
  refine oG (qL (.q eIL c) ag36 ?_)
  refine oG (qN ut36 ?_)
  refine oG (qB (.int .i64 ((c.length + 1 : Nat) : Int)) (addN om) ?_)
  refine oG (aop_binI (u := (.int .i64 (((a.getD k dAc).n) % ((c.length + 1 : Nat) : Int)))) rfl rfl rfl rfl rfl (by show _ ≠ _; omega) (remI om) ?_)
  refine mG (.i (((a.getD k dAc).n) % ((c.length + 1 : Nat) : Int))) ?_
  refine rU (upd (upd (Z367_3 a d e g c cn k) 8 (.pt 53 0)) 9 (.i (((a.getD k dAc).n) % ((c.length + 1 : Nat) : Int)))) (Z367_2 d e g c cn a k) ?_
  refine seqR ?_
  refine fG (.pt 53 0) ft30_0 sz5 ?_
  refine oG (qL (.v (.int .u8 ((a.getD k dAc).dw))) ag5 ?_)
  refine oG (aop_binI (u := (.int .u8 (((a.getD k dAc).dw) % 8))) rfl rfl rfl rfl rfl (by show _ ≠ _; decide) (remI om) ?_)
  refine op0 ?_
  refine awp_block ?_
  refine seqR ?_
  refine bG ((.bool ((((a.getD k dAc).dw) % 8) == 0))) ?_
  refine mG (.b ((((a.getD k dAc).dw) % 8) == 0)) ?_
  refine rU (upd (upd (upd (upd (Z367_3 a d e g c cn k) 8 (.pt 53 0)) 9 (.i (((a.getD k dAc).n) % ((c.length + 1 : Nat) : Int)))) 34 (.v (.int .u8 (((a.getD k dAc).dw) % 8)))) 48 (.b ((((a.getD k dAc).dw) % 8) == 0))) (Z367_2 d e g c cn a k) ?_
  refine awp_cond ((((a.getD k dAc).dw) % 8) == 0) rfl rfl (fun hc1 => ?_) (fun hc1 => ?_)
  ·skip
   have hf2 := (beq_iff_eq).1 hc1
   have hd0 : (a.getD k dAc).dw % 8 = 0 := by simpa using hc1
   refine regR ?_
   refine oG (qLB (Z367_1 d e g c cn) ag39 sz39 ?_)
   refine mG (.q eLk (lkN (⟨d, e, g, c, cn⟩ : Lo_) a k)) ?_
   refine mG (.i (((a.getD k dAc).n) % ((c.length + 1 : Nat) : Int))) ?_
   refine mG (.i (k : Int)) ?_
   refine oG (qC (r15_Cancel c (lkN (⟨d, e, g, c, cn⟩ : Lo_) a k) (actN (⟨d, e, g, c, cn⟩ : Lo_) (a.getD k dAc)) (k : Int) cn om om hmr) bd28 ?_)
   refine mG (.tup [.q eLk (canL c (lkN (⟨d, e, g, c, cn⟩ : Lo_) a k) (((a.getD k dAc).n) % ((c.length + 1 : Nat) : Int)) (IntKind.i64.wrap ((k : Int) + cn))), .i (canE c (lkN (⟨d, e, g, c, cn⟩ : Lo_) a k) (((a.getD k dAc).n) % ((c.length + 1 : Nat) : Int)))]) ?_
   refine oG (qE ?_)
   refine oG (qE ?_)
   refine mG (.q eLk (canL c (lkN (⟨d, e, g, c, cn⟩ : Lo_) a k) (((a.getD k dAc).n) % ((c.length + 1 : Nat) : Int)) (IntKind.i64.wrap ((k : Int) + cn)))) ?_
   refine op0 ?_
   refine rT (upd (upd (upd (upd (upd (upd (upd (Z367_4 a) 5 (.q eLk (canL c (lkN (⟨d, e, g, c, cn⟩ : Lo_) a k) (((a.getD k dAc).n) % ((c.length + 1 : Nat) : Int)) (IntKind.i64.wrap ((k : Int) + cn))))) 6 (.q eU8 (zerL (⟨d, e, g, c, cn⟩ : Lo_)))) 7 (.i (k : Int))) 8 (.pt 53 0)) 9 (.i (((a.getD k dAc).n) % ((c.length + 1 : Nat) : Int)))) 34 (.v (.int .u8 (((a.getD k dAc).dw) % 8)))) 48 (.b ((((a.getD k dAc).dw) % 8) == 0))) (Z367_2 d e g c cn a k) ?_
   refine regR ?_
   refine mG (.i (k : Int)) ?_
   refine oG (qB (.int .i64 ((k + 1 : Nat) : Int)) (addN om) ?_)
   refine mG (.i ((k + 1 : Nat) : Int)) ?_
   refine op0 ?_
   show _ ∧ _
   have hs_ : (canL c (lkN (⟨d, e, g, c, cn⟩ : Lo_) a k) (actN (⟨d, e, g, c, cn⟩ : Lo_) (a.getD k dAc)) (IntKind.i64.wrap ((k : Int) + cn))) = (lkN (⟨d, e, g, c, cn⟩ : Lo_) a (k + 1)) := (lkA_0 hd0).symm
   refine ⟨by omega, trivial, ?_⟩
   exact iI 1 1 rfl (he := (sS rfl (sS rfl (sS (by exact congrArg (fun l_ => AV.ro l_.length (enc eLk l_)) hs_) (sS rfl (sM rfl (sS rfl sr_none)))))))
  have hf3 := (beq_eq_false_iff_ne).1 hc1
  have hd0 : ¬ (a.getD k dAc).dw % 8 = 0 := by simpa using hc1
  refine seqR ?_
  refine bG ((.bool ((((a.getD k dAc).dw) % 8) == 1))) ?_
  refine mG (.b ((((a.getD k dAc).dw) % 8) == 1)) ?_
  refine op0 ?_
  refine awp_cond ((((a.getD k dAc).dw) % 8) == 1) rfl rfl (fun hc2 => ?_) (fun hc2 => ?_)
  ·skip
   have hf4 := (beq_iff_eq).1 hc2
   have hd1 : (a.getD k dAc).dw % 8 = 1 := by simpa using hc2
   refine aD 10 [(69, .q eLk (turnL (⟨c, e, (k : Int), (stL (a.getD k dAc) d.length), (owL (a.getD k dAc) e.length)⟩ : Tu) (lkN (⟨d, e, g, c, cn⟩ : Lo_) a k))), (68, .q eI (owL (a.getD k dAc) e.length)), (67, .agg (Z367_0 a k)), (66, .agg (Z367_1 d e g c cn)), (65, .q eU8 (stL (a.getD k dAc) d.length)), (64, .agg (Z367_0 a k)), (63, .agg (Z367_1 d e g c cn)), (62, .i (k : Int)), (61, .q eLk (lkN (⟨d, e, g, c, cn⟩ : Lo_) a k)), (60, .agg (Z367_1 d e g c cn))] mixed ?_ ?_
   ·refine ⟨?_, ?_, ?_, ?_, ?_, ?_, ?_, ?_, ?_, ?_, trivial⟩
    ·exact sLB (Z367_1 d e g c cn) ag39 sz39
    ·exact sMv
    ·exact sMv
    ·exact sLB (Z367_1 d e g c cn) ag39 sz39
    ·exact sLB (Z367_0 a k) ag30 sz30
    ·exact sC (l16_states d (a.getD k dAc) om hx) bd19
    ·exact sLB (Z367_1 d e g c cn) ag39 sz39
    ·exact sLB (Z367_0 a k) ag30 sz30
    ·exact sC (l16_owners e (a.getD k dAc) om hx) bd20
    exact sC (r15_Turn c e (k : Int) (stL (a.getD k dAc) d.length) (owL (a.getD k dAc) e.length) (lkN (⟨d, e, g, c, cn⟩ : Lo_) a k) om om hL.hpl (by rw [stL_len]; omega) (by rw [owL_len]; omega) om hmr (by rw [stL_len]; exact hL.hrs) (by rw [stL_len, owL_len]; exact hL.hpo)) bd29
   refine mG (.q eLk (turnL (⟨c, e, (k : Int), (stL (a.getD k dAc) d.length), (owL (a.getD k dAc) e.length)⟩ : Tu) (lkN (⟨d, e, g, c, cn⟩ : Lo_) a k))) ?_
   refine op0 ?_
   refine regR ?_
   refine mG (.i (k : Int)) ?_
   refine oG (qB (.int .i64 ((k + 1 : Nat) : Int)) (addN om) ?_)
   refine mG (.i ((k + 1 : Nat) : Int)) ?_
   refine op0 ?_
   show _ ∧ _
   have hs_ : (turnL (tuA (⟨d, e, g, c, cn⟩ : Lo_) (a.getD k dAc) k) (lkN (⟨d, e, g, c, cn⟩ : Lo_) a k)) = (lkN (⟨d, e, g, c, cn⟩ : Lo_) a (k + 1)) := (lkA_1 hd1).symm
   refine ⟨by omega, trivial, ?_⟩
   exact iI 1 1 rfl (he := (sS rfl (sS rfl (sS (by exact congrArg (fun l_ => AV.ro l_.length (enc eLk l_)) hs_) (sS rfl (sM rfl (sS rfl sr_none)))))))
  have hf5 := (beq_eq_false_iff_ne).1 hc2
  have hd1 : ¬ (a.getD k dAc).dw % 8 = 1 := by simpa using hc2
  refine regR ?_
  refine oG (qLB (Z367_1 d e g c cn) ag39 sz39 ?_)
  refine mG (.q eLk (lkN (⟨d, e, g, c, cn⟩ : Lo_) a k)) ?_
  refine mG (.i (((a.getD k dAc).n) % ((c.length + 1 : Nat) : Int))) ?_
  refine fG (.pt 53 2) ft30_2 sz5 ?_
  refine oG (qL (.v (.int .u8 ((a.getD k dAc).tr))) ag5 ?_)
  refine oG (aop_binI (u := (.int .u8 (((a.getD k dAc).tr) % 3))) rfl rfl rfl rfl rfl (by show _ ≠ _; decide) (remI om) ?_)
  refine oG (aop_conv' rfl rfl rfl ut5 ut3 rfl (IntWalk.i64_in _ om) ?_)
  refine mG (.q eU8 (zerL (⟨d, e, g, c, cn⟩ : Lo_))) ?_
  refine oG (callW_ (r15_Set d g c (lkN (⟨d, e, g, c, cn⟩ : Lo_) a k) (actN (⟨d, e, g, c, cn⟩ : Lo_) (a.getD k dAc)) ((a.getD k dAc).tr % 3) (zerL (⟨d, e, g, c, cn⟩ : Lo_)) [] [] om om om om hmr (fun x hx => ⟨by have := (hL.hrl x hx).1; omega, (hL.hrl x hx).2⟩) hL.hrs om (by simp) (fun v h => by cases h) (by simp)) rfl rfl rfl rfl rfl bd26 (lends_cons (lend_agg lS) (lends_cons (lend_n (av := .q eLk (lkN (⟨d, e, g, c, cn⟩ : Lo_) a k))) (lends_cons (lend_n (av := .i (((a.getD k dAc).n) % ((c.length + 1 : Nat) : Int)))) (lends_cons (lend_n (av := .i (((a.getD k dAc).tr) % 3))) (lends_cons (lend_n (av := .q eU8 (zerL (⟨d, e, g, c, cn⟩ : Lo_)))) (lends_cons .nil (lends_cons .nil lends_nil))))))) ?_)
  refine mG (.tup [.q eLk (setL d g c (lkN (⟨d, e, g, c, cn⟩ : Lo_) a k) (actN (⟨d, e, g, c, cn⟩ : Lo_) (a.getD k dAc)) ((a.getD k dAc).tr % 3) (zerL (⟨d, e, g, c, cn⟩ : Lo_)) ([] : List View) ([] : List Bool)), .q eB (setR d g c (lkN (⟨d, e, g, c, cn⟩ : Lo_) a k) (actN (⟨d, e, g, c, cn⟩ : Lo_) (a.getD k dAc)) (zerL (⟨d, e, g, c, cn⟩ : Lo_)) ([] : List View) ([] : List Bool)), .i (setE d g c (lkN (⟨d, e, g, c, cn⟩ : Lo_) a k) (actN (⟨d, e, g, c, cn⟩ : Lo_) (a.getD k dAc)) (zerL (⟨d, e, g, c, cn⟩ : Lo_)) ([] : List View) ([] : List Bool))]) ?_
  refine oG (qE ?_)
  refine oG (qE ?_)
  refine oG (qE ?_)
  refine mG (.q eLk (setL d g c (lkN (⟨d, e, g, c, cn⟩ : Lo_) a k) (actN (⟨d, e, g, c, cn⟩ : Lo_) (a.getD k dAc)) ((a.getD k dAc).tr % 3) (zerL (⟨d, e, g, c, cn⟩ : Lo_)) ([] : List View) ([] : List Bool))) ?_
  refine op0 ?_
  refine rT (upd (upd (upd (upd (upd (upd (upd (upd (Z367_4 a) 5 (.q eLk (setL d g c (lkN (⟨d, e, g, c, cn⟩ : Lo_) a k) (actN (⟨d, e, g, c, cn⟩ : Lo_) (a.getD k dAc)) ((a.getD k dAc).tr % 3) (zerL (⟨d, e, g, c, cn⟩ : Lo_)) ([] : List View) ([] : List Bool)))) 6 (.q eU8 (zerL (⟨d, e, g, c, cn⟩ : Lo_)))) 7 (.i (k : Int))) 8 (.pt 53 0)) 9 (.i (((a.getD k dAc).n) % ((c.length + 1 : Nat) : Int)))) 34 (.v (.int .u8 (((a.getD k dAc).dw) % 8)))) 48 (.b ((((a.getD k dAc).dw) % 8) == 0))) 58 (.b ((((a.getD k dAc).dw) % 8) == 1))) (Z367_2 d e g c cn a k) ?_
  refine regR ?_
  refine mG (.i (k : Int)) ?_
  refine oG (qB (.int .i64 ((k + 1 : Nat) : Int)) (addN om) ?_)
  refine mG (.i ((k + 1 : Nat) : Int)) ?_
  refine op0 ?_
  show _ ∧ _
  have hs_ : (setL d g c (lkN (⟨d, e, g, c, cn⟩ : Lo_) a k) (actN (⟨d, e, g, c, cn⟩ : Lo_) (a.getD k dAc)) ((a.getD k dAc).tr % 3) (zerL (⟨d, e, g, c, cn⟩ : Lo_)) [] []) = (lkN (⟨d, e, g, c, cn⟩ : Lo_) a (k + 1)) := (lkA_2 hd0 hd1).symm
  refine ⟨by omega, trivial, ?_⟩
  exact iI 1 1 rfl (he := (sS rfl (sS rfl (sS (by exact congrArg (fun l_ => AV.ro l_.length (enc eLk l_)) hs_) (sS rfl (sM rfl (sS rfl sr_none)))))))
 have hf6 := of_decide_eq_false hc0
 refine awp_exit ?_
 refine seqR ?_
 refine mG (.q eLk (lkN (⟨d, e, g, c, cn⟩ : Lo_) a k)) ?_
 refine mG (.q eLk (lkN (⟨d, e, g, c, cn⟩ : Lo_) a k)) ?_
 refine op0 ?_
 refine awp_ret ?_
 exact fret (av := .ro ((lkN (⟨d, e, g, c, cn⟩ : Lo_) a k).length) (enc eLk (lkN (⟨d, e, g, c, cn⟩ : Lo_) a k))) rfl rfl (by rw [show k = a.length by omega])
theorem bd10 : bodied Try.prog 10 = true := by kernel_rfl
theorem bd11 : bodied Try.prog 11 = true := by kernel_rfl
theorem bd12 : bodied Try.prog 12 = true := by kernel_rfl
theorem bd13 : bodied Try.prog 13 = true := by kernel_rfl
theorem bd14 : bodied Try.prog 14 = true := by kernel_rfl
theorem bd15 : bodied Try.prog 15 = true := by kernel_rfl
theorem bd18 : bodied Try.prog 18 = true := by kernel_rfl
theorem bd21 : bodied Try.prog 21 = true := by kernel_rfl
theorem bd23 : bodied Try.prog 23 = true := by kernel_rfl
theorem iz30 : (Try.prog.info? 30).map (fun i => (i.zero, i.size)) = some (some (.agg #[(.int .u8 0), (.int .u8 0), (.int .u8 0), (.slice none 0 0), (.slice none 0 0), (.slice none 0 0), (.slice none 0 0), (.int .u8 0)]), 8) := by kernel_rfl
theorem r16_Apart (ls : List (List Int)) (hl : ls.length ≤ 65536) (hf : ls.flatten.length ≤ 65536) : Fn Try.prog 23 [.ro ls.length (enc eIL ls)] (.v (.bool ((((riseL ls.flatten).length : Int)) == (ls.flatten.length : Int)))) := by
 refine fnE_of_body (N := 23) Try.func23 rfl rfl (resOf1 rfl) (by simp) (fun w0 X hL_ => ?_)
 refine seqR ?_
 refine mG (.b false) ?_
 refine op0 ?_
 refine seqR ?_
 refine mG (.v (.slice none 0 0)) ?_
 refine op0 ?_
 refine awp_seq ?_
 refine seqR ?_
 refine mG (.i 0) ?_
 refine op0 ?_
 refine awp_block ?_
 refine awp_countI (fun k => ⟨(upd (upd (upd (upd none_ 0 (.q eIL ls)) 2 (.b false)) 3 (.sl 1 0 ((ls.take k).flatten.length))) 4 (.i (k : Int))), (updO noOb 1 (.live ⟨(enc eI ((ls.take k).flatten)), 3, 1⟩))⟩) (fun k => True) (ls.length) ?_ trivial (fun k hk_k hinv => ?_)
 ·skip
  refine (imp_adopt 3 51 3 1 rfl rfl).trans ?_
  exact iI 51 1 (o := ⟨[], 3, 1⟩) rfl
 have hfl := flat_le ls k
 have hfm := flat_le ls (k + 1)
 refine awp_seq ?_
 refine seqR ?_
 refine mG (.i (k : Int)) ?_
 refine mG (.q eIL ls) ?_
 refine oG (qN ut36 ?_)
 refine bG ((.bool (decide ((k : Int) < (ls.length : Int))))) ?_
 refine rU (upd (upd (upd (upd (upd none_ 0 (.q eIL ls)) 2 (.b false)) 3 (.sl 1 0 ((ls.take k).flatten.length))) 4 (.i (k : Int))) 8 (.b (decide ((k : Int) < (ls.length : Int))))) (updO noOb 1 (.live ⟨(enc eI ((ls.take k).flatten)), 3, 1⟩)) ?_
 refine awp_cond (decide ((k : Int) < (ls.length : Int))) rfl rfl (fun hc0 => ?_) (fun hc0 => ?_)
 ·skip
  have hf1 := of_decide_eq_true hc0
  have hs0 := flat_take (l := ls) (k := k) om
  have hs1 : (ls.getD k []).length ≤ 65536 := by have h9_ := congrArg List.length hs0; rw [List.length_append] at h9_; omega
  refine awp_skip ?_
  refine awp_seq ?_
  refine awp_block ?_
  refine regR ?_
  refine mG (.sl 1 0 ((ls.take k).flatten.length)) ?_
  refine mG (.q eIL ls) ?_
  refine mG (.i (k : Int)) ?_
  refine oG (qX [] ut36 sz48 ?_)
  refine oG (qL (.q eI (ls.getD k [])) ag48 ?_)
  refine oG (aop_appE (f := eI) (l := (ls.take k).flatten) (l2 := ls.getD k []) 52 rfl rfl rfl rfl ut48 in3 rfl (by decide) rfl rfl rfl rfl rfl rfl (fun _ => rfl) rfl rfl rfl oo oo rfl ?_)
  refine mG (.sl 52 0 ((((ls.take k).flatten) ++ (ls.getD k [])).length)) ?_
  refine op0 ?_
  refine rT (upd (upd (upd (upd none_ 0 (.q eIL ls)) 2 (.b false)) 3 (.sl 52 0 ((((ls.take k).flatten) ++ (ls.getD k [])).length))) 4 (.i (k : Int))) (updO (updO (updO noOb 1 (.live ⟨(enc eI ((ls.take k).flatten)), 3, 1⟩)) 1 .dead) 52 (.live ⟨(enc eI (((ls.take k).flatten) ++ (ls.getD k []))), 3, 1⟩)) ?_
  refine regR ?_
  refine mG (.i (k : Int)) ?_
  refine oG (qB (.int .i64 ((k + 1 : Nat) : Int)) (addN om) ?_)
  refine mG (.i ((k + 1 : Nat) : Int)) ?_
  refine op0 ?_
  show _ ∧ _
  have hs_ := flat_take (l := ls) (k := k) om
  refine ⟨by omega, trivial, ?_⟩
  exact iI 52 1 rfl (he := (sS rfl (sM (by exact congrArg (AV.sl 1 0) (congrArg List.length hs_.symm)) (sS rfl (sS rfl sr_none))))) (hoo := (by exact congrArg (fun l_ => LObj.mk (enc eI l_) 3 1) hs_))
 have hf2 := of_decide_eq_false hc0
 refine awp_exit ?_
 have he : ls.take k = ls := List.take_of_length_le om
 refine awp_imp ⟨(upd (upd (upd (upd (upd none_ 0 (.q eIL ls)) 2 (.b false)) 3 (.q eI ls.flatten)) 4 (.i (k : Int))) 8 (.b (decide ((k : Int) < (ls.length : Int))))), noOb⟩ ?_ ?_
 ·skip
  refine (frz_ [] [] rfl (fun _ h => h) trivial (fz_same 8 (.b (decide ((k : Int) < (ls.length : Int)))) rfl (fz_same 4 (.i (k : Int)) rfl (fz_lend 3 (.ro ((ls.take k).flatten.length) (enc eI ((ls.take k).flatten))) (lend_s (id := 1) (n := (ls.take k).flatten.length) (o := ⟨(enc eI ((ls.take k).flatten)), 3, 1⟩) rfl (enc_len (fun _ => rfl) (by first | rfl | (simp; done)))) (fz_same 2 (.b false) rfl (fz_same 0 (.q eIL ls) rfl fz_none)))))).trans ?_
  exact iN (he := (sS rfl (sS rfl (sS (by show AV.ro (ls.take k).flatten.length (enc eI (ls.take k).flatten) = _; rw [he]) (sS rfl (sS rfl sr_none))))))
 refine seqR ?_
 refine mG (.q eI ls.flatten) ?_
 refine oG (qJ (r01_Rise ls.flatten oo) bd42 ?_)
 refine oG (qN ut48 ?_)
 refine mG (.q eI ls.flatten) ?_
 refine oG (qN ut48 ?_)
 refine bG ((.bool (((riseL ls.flatten).length : Int) == (ls.flatten.length : Int)))) ?_
 refine mG (.b (((riseL ls.flatten).length : Int) == (ls.flatten.length : Int))) ?_
 refine rU (upd none_ 2 (.b (((riseL ls.flatten).length : Int) == (ls.flatten.length : Int)))) noOb ?_
 refine awp_ret ?_
 exact fret (av := .v (.bool (((riseL ls.flatten).length : Int) == (ls.flatten.length : Int)))) rfl rfl rfl
abbrev Z379_4 : Nat → AV := (upd (upd (upd none_ 5 (.pt 52 0)) 6 (.b false)) 7 (.pt 53 0))
abbrev Z379_3 : Nat → AV := (upd (upd (upd none_ 5 (.pt 2 0)) 6 (.b false)) 7 (.pt 1 0))
abbrev Z379_2 (d : Draft) : List AV := [.v (.int .u8 d.form), .v (.int .u8 d.len), .v (.int .u8 d.speed), .v (.int .u16 d.mute), .v (.int .u16 d.wait), .v (.int .u8 d.cancel), .v (.int .u8 d.stay), .v (.int .u8 d.jn), .q eUL d.rs]
abbrev Z379_0 (x : Act) : List AV := [.v (.int .u8 x.dw), .v (.int .u8 x.n), .v (.int .u8 x.tr), .q eU8 x.sts, .q eU8 x.ow, .q eB x.rt, .q eU8 x.sp, .v (.int .u8 x.tk)]
abbrev Z379_1 (d : Draft) (x : Act) : Nat → OSt := (updO (updO (updO noOb 51 (.live ⟨(Z379_2 d), 25, 1⟩)) 52 (.live ⟨(Z379_0 x), 30, 1⟩)) 53 (.live ⟨[.v (.slice none 0 0), .v (.slice none 0 0), .v (.slice none 0 0), .v (.slice none 0 0), .v (.slice none 0 0), .i 0, .i 0, .i 0, .i 0, .i 0], 39, 1⟩))
theorem l16_AuthorityApart (d : Draft) (a : List Act) (x : Act) (hd : DraftOk d) (c : ∀ y, y ∈ a → ActOk y) (hac : a.length ≤ maxLen) (hx : ActOk x) : Fn Try.prog 4 [.agg [.v (.int .u8 d.form), .v (.int .u8 d.len), .v (.int .u8 d.speed), .v (.int .u16 d.mute), .v (.int .u16 d.wait), .v (.int .u8 d.cancel), .v (.int .u8 d.stay), .v (.int .u8 d.jn), .ro d.rs.length (enc eUL d.rs)], .ro a.length (enc eAc a), .agg [.v (.int .u8 x.dw), .v (.int .u8 x.n), .v (.int .u8 x.tr), .ro x.sts.length (enc eU8 x.sts), .ro x.ow.length (enc eU8 x.ow), .ro x.rt.length (enc eB x.rt), .ro x.sp.length (enc eU8 x.sp), .v (.int .u8 x.tk)]] (.v (.bool true)) := by
 have hd1 := hd.form
 have hd2 := hd.len
 have hd3 := hd.speed
 have hd4 := hd.mute
 have hd5 := hd.wait
 have hd6 := hd.cancel
 have hd7 := hd.stay
 have hd8 := hd.jn
 have hd9 := hd.n
 have hmx : maxLen = 9223372036854775807 := rfl
 have hel := mkEnds_len d.form
 have hsl := mkSecs_len d.form d.len
 have hpl := mkPts_len d.form
 have hx1 := hx.dw
 have hx2 := hx.n
 have hx3 := hx.tr
 have hx4 := hx.tk
 have hx5 := hx.l1
 have hx6 := hx.l2
 have hx7 := hx.l3
 have hx8 := hx.l4
 refine fnE_of_body (N := 184) Try.func4 rfl rfl (resOf1 rfl) (by simp) (fun w0 X hL_ => ?_)
 refine seqR ?_
 refine oG (qW 51 ?_)
 refine oG (qW 52 ?_)
 refine mG (.b false) ?_
 refine op0 ?_
 refine awp_seq ?_
 refine seqR ?_
 refine oG (qJ (l16_none) bd10 ?_)
 refine oG (aop_not rfl rfl rfl rfl ?_)
 refine mG (.b false) ?_
 refine opY rfl rfl rfl rfl (aop_ldB (cells' := (Z379_2 d)) rfl rfl rfl ag25 sz25 rfl rfl rfl rfl ?_)
 refine opY rfl rfl rfl rfl (callW_ (r04_Small d.rs oo) rfl rfl rfl rfl rfl bd11 lS ?_)
 refine opY rfl rfl rfl rfl (aop_not rfl rfl rfl rfl ?_)
 refine oG (aop_pick (b := false) (av := .b (!(smallB d.rs))) rfl rfl rfl rfl rfl ?_)
 refine mG (.b (!(smallB d.rs))) ?_
 refine aops_grp 4 31 (.b ((!(smallB d.rs)) || (!(smL a)))) ?_ ?_
 ·refine (Bool.eq_false_or_eq_true (!(smallB d.rs))).elim (fun hg1 => ?_) (fun hg1 => ?_)
  ·skip
   have hf2 := not_t hg1
   refine nG hg1 ?_
   refine nG hg1 ?_
   refine nG hg1 ?_
   refine oG (qP (!(smallB d.rs)) (.b true) hg1 ?_)
   refine op0 ?_
   exact imp_env (lee_both 31 _ _ (by rw [hg1] <;> rfl) lO)
  have hf3 := not_f hg1
  refine oY hg1 (qM (.q eAc a) ?_)
  refine oY hg1 (qJ (l16_small a hac c) bd12 ?_)
  refine oY hg1 (aop_not rfl rfl rfl rfl ?_)
  refine oG (qP (!(smallB d.rs)) (.b (!(smL a))) hg1 ?_)
  refine op0 ?_
  exact imp_env (lee_both 31 _ _ (by rw [hg1] <;> rfl) lO)
 refine mG (.b ((!(smallB d.rs)) || (!(smL a)))) ?_
 refine aops_grp 5 37 (.b (((!(smallB d.rs)) || (!(smL a))) || (!(smL ([x] : List Act))))) ?_ ?_
 ·refine (Bool.eq_false_or_eq_true ((!(smallB d.rs)) || (!(smL a)))).elim (fun hg4 => ?_) (fun hg4 => ?_)
  ·skip
   refine nG hg4 ?_
   refine nG hg4 ?_
   refine nG hg4 ?_
   refine nG hg4 ?_
   refine oG (qP ((!(smallB d.rs)) || (!(smL a))) (.b true) hg4 ?_)
   refine op0 ?_
   exact imp_env (lee_both 37 _ _ (by rw [hg4] <;> rfl) lO)
  obtain ⟨hf5a, hf5b⟩ := or_f hg4
  have hf6 := not_f hf5a
  have hf7 := not_f hf5b
  refine oY hg4 (qLB (Z379_0 x) ag30 sz30 ?_)
  refine oY hg4 (aop_lit (cells := enc eAc ([x] : List Act)) rfl rfl rfl ut26 iz30 (by decide) (by decide) rfl rfl ?_)
  refine oY hg4 (qJ (l16_small [x] (by show 1 ≤ maxLen; decide) (fun y hy => by rw [List.mem_singleton.1 hy]; exact hx)) bd12 ?_)
  refine oY hg4 (aop_not rfl rfl rfl rfl ?_)
  refine oG (qP ((!(smallB d.rs)) || (!(smL a))) (.b (!(smL ([x] : List Act)))) hg4 ?_)
  refine op0 ?_
  exact imp_env (lee_both 37 _ _ (by rw [hg4] <;> rfl) lO)
 refine op0 ?_
 refine rT (upd (upd (upd (upd (upd none_ 1 (.q eAc a)) 3 (.pt 51 0)) 5 (.pt 52 0)) 6 (.b false)) 37 (.b (((!(smallB d.rs)) || (!(smL a))) || (!(smL ([x] : List Act)))))) (updO (updO noOb 51 (.live ⟨(Z379_2 d), 25, 1⟩)) 52 (.live ⟨(Z379_0 x), 30, 1⟩)) ?_
 refine awp_cond (((!(smallB d.rs)) || (!(smL a))) || (!(smL ([x] : List Act)))) rfl rfl (fun hc0 => ?_) (fun hc0 => ?_)
 ·skip
  refine seqR ?_
  refine oG (qJ (l16_none) bd10 ?_)
  refine mG (.b true) ?_
  refine op0 ?_
  refine awp_ret ?_
  exact fret (av := .v (.bool true)) rfl rfl (by simp)
 obtain ⟨hf8a, hf8b⟩ := or_f hc0
 obtain ⟨hf9a, hf9b⟩ := or_f hf8a
 have hf10 := not_f hf9a
 have hf11 := not_f hf9b
 have hf12 := not_f hf8b
 have hsm : smallB d.rs = true := by cases h : smallB d.rs <;> simp [h] at hc0 ⊢
 have hr := small_rs hsm hd.rs
 have hsa : smL a = true := by cases h : smL a <;> simp [h] at hc0 ⊢
 have hsx : smL [x] = true := by cases h : smL [x] <;> simp [h] at hc0 ⊢
 obtain ⟨ha1, _⟩ := sm_iff hsa
 obtain ⟨ha2, ha3, ha4, ha5⟩ := (sm_iff hsx).2 x List.mem_cons_self
 have hL := full_ok d.form d.len d.jn d.rs
 have hnd := full_nodup d.form d.len d.rs
 have hfu := r05_Full d.form d.len d.speed d.mute d.wait d.cancel d.stay d.jn d.rs hd1 hd2 hd3 hd4 hd5 hd6 hd7 hd8 hr.1 hr.2
 obtain ⟨ss, h_ss⟩ : ∃ y_, y_ = mkSecs d.form d.len := ⟨_, rfl⟩
 obtain ⟨pa, h_pa⟩ : ∃ y_, y_ = mkParts d.form d.jn := ⟨_, rfl⟩
 obtain ⟨pp, h_pp⟩ : ∃ y_, y_ = mkPts d.form := ⟨_, rfl⟩
 obtain ⟨rr, h_rr⟩ : ∃ y_, y_ = fullRoutes d.form d.len d.rs := ⟨_, rfl⟩
 obtain ⟨cn, h_cn⟩ : ∃ y_, y_ = 1 + d.cancel := ⟨_, rfl⟩
 rw [← h_ss, ← h_pa, ← h_pp, ← h_rr] at hL
 rw [← h_ss, ← h_pa, ← h_pp, ← h_rr, ← h_cn] at hfu
 rw [← h_rr] at hnd
 have hlr : ∀ y, y ∈ lkN (⟨ss, pa, pp, rr, cn⟩ : Lo_) a a.length → LkR rr y := lkN_R (L := (⟨ss, pa, pp, rr, cn⟩ : Lo_)) hL a.length
 have hap : Ap rr (lkN (⟨ss, pa, pp, rr, cn⟩ : Lo_) a a.length) := lkN_Ap (L := (⟨ss, pa, pp, rr, cn⟩ : Lo_)) hL hnd a.length
 have hll := lk_len (L := (⟨ss, pa, pp, rr, cn⟩ : Lo_)) ha1
 obtain ⟨lk, h_lk⟩ : ∃ y_, y_ = lkN (⟨ss, pa, pp, rr, cn⟩ : Lo_) a a.length := ⟨_, rfl⟩
 rw [← h_lk] at hlr hap hll
 obtain ⟨st_, h_st_⟩ : ∃ y_, y_ = stL x ss.length := ⟨_, rfl⟩
 obtain ⟨ow, h_ow⟩ : ∃ y_, y_ = owL x pa.length := ⟨_, rfl⟩
 obtain ⟨pt, h_pt⟩ : ∃ y_, y_ = ptL x pp.length := ⟨_, rfl⟩
 obtain ⟨vw, h_vw⟩ : ∃ y_, y_ = vwL ss.length x 3 := ⟨_, rfl⟩
 have hst : st_.length = ss.length := by rw [h_st_]; exact stL_len
 have how : ow.length = pa.length := by rw [h_ow]; exact owL_len
 have hpx : pt.length ≤ 8 := by rw [h_pt]; exact Nat.le_trans pt_len om
 have hvl : vw.length = 3 := by rw [h_vw]; exact vwL_len
 have hvs : ∀ id, (findV vw id).span.length ≤ 6 := fun id => by rw [h_vw]; exact Nat.le_trans (vw_span _) om
 have hq1 := hL.h1
 have hq2 := hL.hs
 have hq3 := hL.hp
 have hq4 := hL.hpa
 have hq5 := hL.hro
 have hen : EnOk lk := by rw [h_lk]; exact lkN_En ⟨by show 0 ≤ cn; omega, by show cn ≤ 65536; omega⟩ _ om
 obtain ⟨PP, h_PP⟩ : ∃ y_, y_ = fun i : Nat => auT vw (i : Int) (fldOf (findV vw (i : Int)) ss pa pp rr st_ ow pt) lk := ⟨_, rfl⟩
 have hPP : ∀ i : Nat, PP i = auT vw (i : Int) (fldOf (findV vw (i : Int)) ss pa pp rr st_ ow pt) lk := fun i => by rw [h_PP]
 have hP8 : ∀ i, (PP i).length ≤ 8 := fun i => by rw [hPP]; exact ap_len hL hlr hap
 have hPr : ∀ i k, k < (PP i).length → 0 ≤ (PP i).getD k 0 ∧ (PP i).getD k 0 < (ss.length : Int) := fun i k => by rw [hPP]; exact fun h => auT_rng hL hlr h
 have hPs : ∀ i k n, lk.length ≤ n → k < (PP i).length → fdK rr lk (i : Int) ((PP i).getD k 0) n = true ∧ (st_.getD ((PP i).getD k 0).toNat 0 = 0 ∨ st_.getD ((PP i).getD k 0).toNat 0 = 1) := fun i k n => by rw [hPP]; exact fun h1 h2 => ap_sec hL hlr hen h1 h2
 have hPn : ((List.range 3).map PP).flatten.Nodup := by rw [h_PP]; exact ap_apart (F := fun i : Nat => fldOf (findV vw (i : Int)) ss pa pp rr st_ ow pt) (fun _ => rfl) hap 3
 refine awp_skip ?_
 refine seqR ?_
 refine oG (qLB (Z379_2 d) ag25 sz25 ?_)
 refine oG (qJ (show Fn Try.prog 13 [.agg (Z379_2 d)] (.agg [.one, .q eSec ss, .q eIL pa, .q ePnt pp, .q eIL rr, .i (1 + d.speed % (2 * (10 * (1 + d.len % 20)))), .i (1 + d.mute % 1000), .i (1 + d.wait % 1000), .i cn, .i (d.stay % 4)]) from hfu) bd13 ?_)
 refine oG (aop_alloc 53 rfl rfl rfl rfl ze39 rfl ?_)
 refine oG (qS sz39 ?_)
 refine rU (upd (upd (upd (upd none_ 1 (.q eAc a)) 5 (.pt 52 0)) 6 (.b false)) 7 (.pt 53 0)) (updO (Z379_1 d x) 53 (.live ⟨[.one, .q eSec ss, .q eIL pa, .q ePnt pp, .q eIL rr, .i (1 + d.speed % (2 * (10 * (1 + d.len % 20)))), .i (1 + d.mute % 1000), .i (1 + d.wait % 1000), .i cn, .i (d.stay % 4)], 39, 1⟩)) ?_
 refine seqR ?_
 refine oG (qLB [.one, .q eSec ss, .q eIL pa, .q ePnt pp, .q eIL rr, .i (1 + d.speed % (2 * (10 * (1 + d.len % 20)))), .i (1 + d.mute % 1000), .i (1 + d.wait % 1000), .i cn, .i (d.stay % 4)] ag39 sz39 ?_)
 refine mG (.q eAc a) ?_
 refine oG (qC (show Fn Try.prog 14 [.agg [.one, .q eSec ss, .q eIL pa, .q ePnt pp, .q eIL rr, .one, .one, .one, .i cn, .one], .q eAc a] (.q eLk lk) from (by have h_ := l16_locks ss pa pp rr cn a hL om c; rw [← h_lk] at h_; exact h_)) bd14 ?_)
 refine mG (.q eLk lk) ?_
 refine rU (upd Z379_4 8 (.q eLk lk)) (updO (Z379_1 d x) 53 (.live ⟨[.one, .q eSec ss, .q eIL pa, .q ePnt pp, .q eIL rr, .i (1 + d.speed % (2 * (10 * (1 + d.len % 20)))), .i (1 + d.mute % 1000), .i (1 + d.wait % 1000), .i cn, .i (d.stay % 4)], 39, 1⟩)) ?_
 refine seqR ?_
 refine oG (qLB [.one, .q eSec ss, .q eIL pa, .q ePnt pp, .q eIL rr, .i (1 + d.speed % (2 * (10 * (1 + d.len % 20)))), .i (1 + d.mute % 1000), .i (1 + d.wait % 1000), .i cn, .i (d.stay % 4)] ag39 sz39 ?_)
 refine oG (qLB (Z379_0 x) ag30 sz30 ?_)
 refine oG (qC (show Fn Try.prog 15 [.agg [.one, .q eSec ss, .one, .one, .one, .one, .one, .one, .one, .one], .agg (Z379_0 x)] (.tup [.q eV vw, .q eV vw]) from (by have h_ := l16_views ss x om hq1 hx om; rw [← h_vw] at h_; exact h_)) bd15 ?_)
 refine mG (.tup [.q eV vw, .q eV vw]) ?_
 refine oG (qE ?_)
 refine oG (qE ?_)
 refine mG (.q eV vw) ?_
 refine mG (.q eV vw) ?_
 refine rU (upd (upd Z379_4 8 (.q eLk lk)) 9 (.q eV vw)) (updO (Z379_1 d x) 53 (.live ⟨[.one, .q eSec ss, .q eIL pa, .q ePnt pp, .q eIL rr, .i (1 + d.speed % (2 * (10 * (1 + d.len % 20)))), .i (1 + d.mute % 1000), .i (1 + d.wait % 1000), .i cn, .i (d.stay % 4)], 39, 1⟩)) ?_
 refine awp_seq ?_
 refine aD 6 [(55, .q eI ow), (54, .agg (Z379_0 x)), (53, .agg [.one, .q eSec ss, .q eIL pa, .q ePnt pp, .q eIL rr, .i (1 + d.speed % (2 * (10 * (1 + d.len % 20)))), .i (1 + d.mute % 1000), .i (1 + d.wait % 1000), .i cn, .i (d.stay % 4)]), (52, .q eU8 st_), (51, .agg (Z379_0 x)), (50, .agg [.one, .q eSec ss, .q eIL pa, .q ePnt pp, .q eIL rr, .i (1 + d.speed % (2 * (10 * (1 + d.len % 20)))), .i (1 + d.mute % 1000), .i (1 + d.wait % 1000), .i cn, .i (d.stay % 4)])] mixed ?_ ?_
 ·refine ⟨?_, ?_, ?_, ?_, ?_, ?_, trivial⟩
  ·exact sLB [.one, .q eSec ss, .q eIL pa, .q ePnt pp, .q eIL rr, .i (1 + d.speed % (2 * (10 * (1 + d.len % 20)))), .i (1 + d.mute % 1000), .i (1 + d.wait % 1000), .i cn, .i (d.stay % 4)] ag39 sz39
  ·exact sLB (Z379_0 x) ag30 sz30
  ·exact sC (show Fn Try.prog 19 [.agg [.one, .q eSec ss, .one, .one, .one, .one, .one, .one, .one, .one], .agg (Z379_0 x)] (.q eU8 st_) from (by have h_ := l16_states ss x om hx; rw [← h_st_] at h_; exact h_)) bd19
  ·exact sLB [.one, .q eSec ss, .q eIL pa, .q ePnt pp, .q eIL rr, .i (1 + d.speed % (2 * (10 * (1 + d.len % 20)))), .i (1 + d.mute % 1000), .i (1 + d.wait % 1000), .i cn, .i (d.stay % 4)] ag39 sz39
  ·exact sLB (Z379_0 x) ag30 sz30
  exact sC (show Fn Try.prog 20 [.agg [.one, .one, .q eIL pa, .one, .one, .one, .one, .one, .one, .one], .agg (Z379_0 x)] (.q eI ow) from (by have h_ := l16_owners pa x om hx; rw [← h_ow] at h_; exact h_)) bd20
 refine mG (.q eU8 st_) ?_
 refine mG (.q eI ow) ?_
 refine op0 ?_
 refine seqR ?_
 refine mG (.v (.slice none 0 0)) ?_
 refine op0 ?_
 refine awp_seq ?_
 refine seqR ?_
 refine mG (.i 0) ?_
 refine rU (upd (upd (upd (upd (upd (upd Z379_4 8 (.q eLk lk)) 9 (.q eV vw)) 11 (.q eU8 st_)) 12 (.q eI ow)) 13 (.v (.slice none 0 0))) 14 (.i 0)) (updO (Z379_1 d x) 53 (.live ⟨[.one, .q eSec ss, .q eIL pa, .q ePnt pp, .q eIL rr, .i (1 + d.speed % (2 * (10 * (1 + d.len % 20)))), .i (1 + d.mute % 1000), .i (1 + d.wait % 1000), .i cn, .i (d.stay % 4)], 39, 1⟩)) ?_
 refine awp_block ?_
 refine awp_countI (fun i => ⟨(upd (upd (upd (upd (upd (upd Z379_3 8 (.q eLk lk)) 9 (.q eV vw)) 11 (.q eU8 st_)) 12 (.q eI ow)) 13 (.sl 3 0 (((List.range i).map PP).length))) 14 (.i (i : Int))), (updO (updO (updO noOb 1 (.live ⟨[.one, .q eSec ss, .q eIL pa, .q ePnt pp, .q eIL rr, .i (1 + d.speed % (2 * (10 * (1 + d.len % 20)))), .i (1 + d.mute % 1000), .i (1 + d.wait % 1000), .i cn, .i (d.stay % 4)], 39, 1⟩)) 2 (.live ⟨(Z379_0 x), 30, 1⟩)) 3 (.live ⟨(enc eIL ((List.range i).map PP)), 48, 1⟩))⟩) (fun i => True) (3) ?_ trivial (fun i hk_i hinv => ?_)
 ·skip
  refine (imp_adopt 13 54 48 1 rfl rfl).trans ?_
  exact iL [(53, 1), (52, 2), (54, 3)] [((53, 1), .live _), ((52, 2), .live _), ((54, 3), .live _)] ⟨row_no rfl rfl, row_no rfl rfl, row_no (o := ⟨[], 48, 1⟩) rfl rfl, trivial⟩
 have hal : ((List.range i).map PP).length = i := by simp
 refine awp_seq ?_
 refine seqR ?_
 refine mG (.i (i : Int)) ?_
 refine bG ((.bool (decide ((i : Int) < 3)))) ?_
 refine op0 ?_
 refine awp_cond (decide ((i : Int) < 3)) rfl rfl (fun hc1 => ?_) (fun hc1 => ?_)
 ·skip
  have hf13 := of_decide_eq_true hc1
  have hi3 : i < 3 := by omega
  have hp8 := hP8 i
  refine awp_skip ?_
  refine awp_seq ?_
  refine awp_block ?_
  refine awp_seq ?_
  refine aD 11 [(70, .q eI (PP i)), (69, .i (i : Int)), (68, .q eB pt), (67, .agg (Z379_0 x)), (66, .agg [.one, .q eSec ss, .q eIL pa, .q ePnt pp, .q eIL rr, .i (1 + d.speed % (2 * (10 * (1 + d.len % 20)))), .i (1 + d.mute % 1000), .i (1 + d.wait % 1000), .i cn, .i (d.stay % 4)]), (65, .q eV vw), (64, .q eI ow), (63, .q eU8 st_), (62, .q eLk lk), (61, .q eLk lk), (60, .agg [.one, .q eSec ss, .q eIL pa, .q ePnt pp, .q eIL rr, .i (1 + d.speed % (2 * (10 * (1 + d.len % 20)))), .i (1 + d.mute % 1000), .i (1 + d.wait % 1000), .i cn, .i (d.stay % 4)])] mixed ?_ ?_
  ·refine ⟨?_, ?_, ?_, ?_, ?_, ?_, ?_, ?_, ?_, ?_, ?_, trivial⟩
   ·exact sLB [.one, .q eSec ss, .q eIL pa, .q ePnt pp, .q eIL rr, .i (1 + d.speed % (2 * (10 * (1 + d.len % 20)))), .i (1 + d.mute % 1000), .i (1 + d.wait % 1000), .i cn, .i (d.stay % 4)] ag39 sz39
   ·exact sMv
   ·exact dW 62 fun st hob hE => call_ (l16_turned lk om) rfl rfl rfl rfl rfl bd18 (by show [st.env 61] ++ _ = _; rw [hE 61 rfl]; rfl) (by rw [hob]; rfl)
   ·exact sMv
   ·exact sMv
   ·exact sMv
   ·exact sLB [.one, .q eSec ss, .q eIL pa, .q ePnt pp, .q eIL rr, .i (1 + d.speed % (2 * (10 * (1 + d.len % 20)))), .i (1 + d.mute % 1000), .i (1 + d.wait % 1000), .i cn, .i (d.stay % 4)] ag39 sz39
   ·exact sLB (Z379_0 x) ag30 sz30
   ·exact sC (show Fn Try.prog 21 [.agg [.one, .one, .one, .q ePnt pp, .one, .one, .one, .one, .one, .one], .agg (Z379_0 x)] (.q eB pt) from (by have h_ := l16_points pp x om hx; rw [← h_pt] at h_; exact h_)) bd21
   ·exact sMv
   exact sC (show Fn Try.prog 17 [.agg [.one, .q eSec ss, .q eIL pa, .q ePnt pp, .q eIL rr, .one, .one, .one, .one, .one], .q eLk lk, .q eU8 st_, .q eI ow, .q eV vw, .q eB pt, .i (i : Int)] (.q eI (PP i)) from (by have h_ := (a_Of vw (i : Int) ss pa pp rr st_ ow pt lk (fld_ok hL hst how (Nat.le_trans (hvs _) om) om) (lk_ok hlr) om om); rw [← hPP i] at h_; exact h_)) bd17
  refine mG (.q eI (PP i)) ?_
  refine op0 ?_
  refine awp_seq ?_
  refine seqR ?_
  refine mG (.i 0) ?_
  refine rU (upd (upd (upd (upd (upd (upd (upd (upd Z379_3 8 (.q eLk lk)) 9 (.q eV vw)) 11 (.q eU8 st_)) 12 (.q eI ow)) 13 (.sl 3 0 (((List.range i).map PP).length))) 14 (.i (i : Int))) 15 (.q eI (PP i))) 16 (.i 0)) (updO (updO (updO noOb 1 (.live ⟨[.one, .q eSec ss, .q eIL pa, .q ePnt pp, .q eIL rr, .i (1 + d.speed % (2 * (10 * (1 + d.len % 20)))), .i (1 + d.mute % 1000), .i (1 + d.wait % 1000), .i cn, .i (d.stay % 4)], 39, 1⟩)) 2 (.live ⟨(Z379_0 x), 30, 1⟩)) 3 (.live ⟨(enc eIL ((List.range i).map PP)), 48, 1⟩)) ?_
  refine awp_block ?_
  refine awp_countI (fun k => ⟨(upd (upd (upd (upd (upd (upd (upd (upd Z379_3 8 (.q eLk lk)) 9 (.q eV vw)) 11 (.q eU8 st_)) 12 (.q eI ow)) 13 (.sl 3 0 (((List.range i).map PP).length))) 14 (.i (i : Int))) 15 (.q eI (PP i))) 16 (.i (k : Int))), (updO (updO (updO noOb 1 (.live ⟨[.one, .q eSec ss, .q eIL pa, .q ePnt pp, .q eIL rr, .i (1 + d.speed % (2 * (10 * (1 + d.len % 20)))), .i (1 + d.mute % 1000), .i (1 + d.wait % 1000), .i cn, .i (d.stay % 4)], 39, 1⟩)) 2 (.live ⟨(Z379_0 x), 30, 1⟩)) 3 (.live ⟨(enc eIL ((List.range i).map PP)), 48, 1⟩))⟩) (fun k => True) ((PP i).length) ?_ trivial (fun k hk_k hinv => ?_)
  ·skip
   exact iL [(1, 1), (2, 2), (3, 3)] [((1, 1), .live _), ((2, 2), .live _), ((3, 3), .live _)] ⟨row_no rfl rfl, row_no rfl rfl, row_no rfl rfl, trivial⟩
  refine awp_seq ?_
  refine seqR ?_
  refine mG (.i (k : Int)) ?_
  refine mG (.q eI (PP i)) ?_
  refine oG (qN ut48 ?_)
  refine bG ((.bool (decide ((k : Int) < ((PP i).length : Int))))) ?_
  refine rU (upd (upd (upd (upd (upd (upd (upd (upd (upd Z379_3 8 (.q eLk lk)) 9 (.q eV vw)) 11 (.q eU8 st_)) 12 (.q eI ow)) 13 (.sl 3 0 (((List.range i).map PP).length))) 14 (.i (i : Int))) 15 (.q eI (PP i))) 16 (.i (k : Int))) 74 (.b (decide ((k : Int) < ((PP i).length : Int))))) (updO (updO (updO noOb 1 (.live ⟨[.one, .q eSec ss, .q eIL pa, .q ePnt pp, .q eIL rr, .i (1 + d.speed % (2 * (10 * (1 + d.len % 20)))), .i (1 + d.mute % 1000), .i (1 + d.wait % 1000), .i cn, .i (d.stay % 4)], 39, 1⟩)) 2 (.live ⟨(Z379_0 x), 30, 1⟩)) 3 (.live ⟨(enc eIL ((List.range i).map PP)), 48, 1⟩)) ?_
  refine awp_cond (decide ((k : Int) < ((PP i).length : Int))) rfl rfl (fun hc2 => ?_) (fun hc2 => ?_)
  ·skip
   have hf14 := of_decide_eq_true hc2
   have hyr := hPr i k om
   obtain ⟨_, hys⟩ := hPs i k lk.length (Nat.le_refl _) om
   refine awp_skip ?_
   refine awp_seq ?_
   refine awp_block ?_
   refine awp_seq ?_
   refine seqR ?_
   refine mG (.q eI (PP i)) ?_
   refine mG (.i (k : Int)) ?_
   refine oG (qX (0 : Int) ut48 sz3 ?_)
   refine oG (qL (.i ((PP i).getD k 0)) ag3 ?_)
   refine bG ((.bool (decide (((PP i).getD k 0) < 0)))) ?_
   refine mG (.b (decide (((PP i).getD k 0) < 0))) ?_
   refine aops_grp 8 90 (.b ((decide (((PP i).getD k 0) < 0)) || (decide (((PP i).getD k 0) ≥ (st_.length : Int))))) ?_ ?_
   ·refine (Bool.eq_false_or_eq_true (decide (((PP i).getD k 0) < 0))).elim (fun hg15 => ?_) (fun hg15 => ?_)
    ·skip
     have hf16 := of_decide_eq_true hg15
     refine nG hg15 ?_
     refine nG hg15 ?_
     refine nG hg15 ?_
     refine nG hg15 ?_
     refine nG hg15 ?_
     refine nG hg15 ?_
     refine nG hg15 ?_
     refine oG (qP (decide (((PP i).getD k 0) < 0)) (.b true) hg15 ?_)
     refine op0 ?_
     exact imp_env (lee_both 90 _ _ (by rw [hg15] <;> rfl) lO)
    have hf17 := of_decide_eq_false hg15
    refine oY hg15 (qM (.q eI (PP i)) ?_)
    refine oY hg15 (qM (.i (k : Int)) ?_)
    refine oY hg15 (qX (0 : Int) ut48 sz3 ?_)
    refine oY hg15 (qL (.i ((PP i).getD k 0)) ag3 ?_)
    refine oY hg15 (qM (.q eU8 st_) ?_)
    refine oY hg15 (qN ut27 ?_)
    refine oY hg15 (qB (.bool (decide (((PP i).getD k 0) ≥ (st_.length : Int)))) rfl ?_)
    refine oG (qP (decide (((PP i).getD k 0) < 0)) (.b (decide (((PP i).getD k 0) ≥ (st_.length : Int)))) hg15 ?_)
    refine op0 ?_
    exact imp_env (lee_both 90 _ _ (by rw [hg15] <;> rfl) lO)
   refine mG (.b ((decide (((PP i).getD k 0) < 0)) || (decide (((PP i).getD k 0) ≥ (st_.length : Int))))) ?_
   refine aops_grp 19 110 (.b (((decide (((PP i).getD k 0) < 0)) || (decide (((PP i).getD k 0) ≥ (st_.length : Int)))) || (((st_.getD ((PP i).getD k 0).toNat 0) != 0) && ((st_.getD ((PP i).getD k 0).toNat 0) != 1)))) ?_ ?_
   ·refine (Bool.eq_false_or_eq_true ((decide (((PP i).getD k 0) < 0)) || (decide (((PP i).getD k 0) ≥ (st_.length : Int))))).elim (fun hg18 => ?_) (fun hg18 => ?_)
    ·skip
     refine nG hg18 ?_
     refine nG hg18 ?_
     refine nG hg18 ?_
     refine nG hg18 ?_
     refine nG hg18 ?_
     refine nG hg18 ?_
     refine nG hg18 ?_
     refine nG hg18 ?_
     refine nG hg18 ?_
     refine opN rfl rfl rfl rfl (by intro h; cases h) rfl rfl ?_
     refine opN rfl rfl rfl rfl (by intro h; cases h) rfl rfl ?_
     refine opN rfl rfl rfl rfl (by intro h; cases h) rfl rfl ?_
     refine opN rfl rfl rfl rfl (by intro h; cases h) rfl rfl ?_
     refine opN rfl rfl rfl rfl (by intro h; cases h) rfl rfl ?_
     refine opN rfl rfl rfl rfl (by intro h; cases h) rfl rfl ?_
     refine opN rfl rfl rfl rfl (by intro h; cases h) rfl rfl ?_
     refine opN rfl rfl rfl rfl (by intro h; cases h) rfl rfl ?_
     refine nG hg18 ?_
     refine oG (qP ((decide (((PP i).getD k 0) < 0)) || (decide (((PP i).getD k 0) ≥ (st_.length : Int)))) (.b true) hg18 ?_)
     refine op0 ?_
     exact imp_env (lee_both 110 _ _ (by rw [hg18] <;> rfl) lO)
    obtain ⟨hf19a, hf19b⟩ := or_f hg18
    have hf20 := of_decide_eq_false hf19a
    have hf21 := of_decide_eq_false hf19b
    refine oY hg18 (qM (.q eU8 st_) ?_)
    refine oY hg18 (qM (.q eI (PP i)) ?_)
    refine oY hg18 (qM (.i (k : Int)) ?_)
    refine oY hg18 (qX (0 : Int) ut48 sz3 ?_)
    refine oY hg18 (qL (.i ((PP i).getD k 0)) ag3 ?_)
    refine oY hg18 (aop_ixI 0 rfl rfl rfl ut27 sz5 rfl rfl (fun _ => rfl) rfl om oo ?_)
    refine oY hg18 (qL (.v (.int .u8 (st_.getD ((PP i).getD k 0).toNat 0))) ag5 ?_)
    refine oY hg18 (qB (.bool ((st_.getD ((PP i).getD k 0).toNat 0) != 0)) rfl ?_)
    refine oY hg18 (qM (.b ((st_.getD ((PP i).getD k 0).toNat 0) != 0)) ?_)
    refine aops_grp 9 109 (.b (((st_.getD ((PP i).getD k 0).toNat 0) != 0) && ((st_.getD ((PP i).getD k 0).toNat 0) != 1))) ?_ ?_
    ·refine (Bool.eq_false_or_eq_true ((st_.getD ((PP i).getD k 0).toNat 0) != 0)).elim (fun hg22 => ?_) (fun hg22 => ?_)
     ·skip
      have hf23 := (bne_iff_ne).1 hg22
      refine oY hg22 (qM (.q eU8 st_) ?_)
      refine oY hg22 (qM (.q eI (PP i)) ?_)
      refine oY hg22 (qM (.i (k : Int)) ?_)
      refine oY hg22 (qX (0 : Int) ut48 sz3 ?_)
      refine oY hg22 (qL (.i ((PP i).getD k 0)) ag3 ?_)
      refine oY hg22 (aop_ixI 0 rfl rfl rfl ut27 sz5 rfl rfl (fun _ => rfl) rfl om oo ?_)
      refine oY hg22 (qL (.v (.int .u8 (st_.getD ((PP i).getD k 0).toNat 0))) ag5 ?_)
      refine oY hg22 (qB (.bool ((st_.getD ((PP i).getD k 0).toNat 0) != 1)) rfl ?_)
      refine oY hg18 (qP ((st_.getD ((PP i).getD k 0).toNat 0) != 0) (.b ((st_.getD ((PP i).getD k 0).toNat 0) != 1)) hg22 ?_)
      refine op0 ?_
      exact imp_env (lee_both 109 _ _ (by rw [hg22] <;> rfl) lO)
     have hf24 := (bne_eq_false_iff_eq).1 hg22
     refine nG hg22 ?_
     refine nG hg22 ?_
     refine nG hg22 ?_
     refine nG hg22 ?_
     refine nG hg22 ?_
     refine nG hg22 ?_
     refine nG hg22 ?_
     refine nG hg22 ?_
     refine oY hg18 (qP ((st_.getD ((PP i).getD k 0).toNat 0) != 0) (.b false) hg22 ?_)
     refine op0 ?_
     exact imp_env (lee_both 109 _ _ (by rw [hg22] <;> rfl) lO)
    refine oG (qP ((decide (((PP i).getD k 0) < 0)) || (decide (((PP i).getD k 0) ≥ (st_.length : Int)))) (.b (((st_.getD ((PP i).getD k 0).toNat 0) != 0) && ((st_.getD ((PP i).getD k 0).toNat 0) != 1))) hg18 ?_)
    refine op0 ?_
    exact imp_env (lee_both 110 _ _ (by rw [hg18] <;> rfl) lO)
   refine op0 ?_
   refine rT (upd (upd (upd (upd (upd (upd (upd (upd (upd Z379_3 8 (.q eLk lk)) 9 (.q eV vw)) 11 (.q eU8 st_)) 12 (.q eI ow)) 13 (.sl 3 0 (((List.range i).map PP).length))) 14 (.i (i : Int))) 15 (.q eI (PP i))) 16 (.i (k : Int))) 110 (.b (((decide (((PP i).getD k 0) < 0)) || (decide (((PP i).getD k 0) ≥ (st_.length : Int)))) || (((st_.getD ((PP i).getD k 0).toNat 0) != 0) && ((st_.getD ((PP i).getD k 0).toNat 0) != 1))))) (updO (updO (updO noOb 1 (.live ⟨[.one, .q eSec ss, .q eIL pa, .q ePnt pp, .q eIL rr, .i (1 + d.speed % (2 * (10 * (1 + d.len % 20)))), .i (1 + d.mute % 1000), .i (1 + d.wait % 1000), .i cn, .i (d.stay % 4)], 39, 1⟩)) 2 (.live ⟨(Z379_0 x), 30, 1⟩)) 3 (.live ⟨(enc eIL ((List.range i).map PP)), 48, 1⟩)) ?_
   refine awp_cond (((decide (((PP i).getD k 0) < 0)) || (decide (((PP i).getD k 0) ≥ (st_.length : Int)))) || (((st_.getD ((PP i).getD k 0).toNat 0) != 0) && ((st_.getD ((PP i).getD k 0).toNat 0) != 1))) rfl rfl (fun hc3 => ?_) (fun hc3 => ?_)
   ·skip
    exfalso; simp only [Bool.or_eq_true, Bool.and_eq_true, decide_eq_true_eq, bne_iff_ne] at hc3; omega
   obtain ⟨hf25a, hf25b⟩ := or_f hc3
   obtain ⟨hf26a, hf26b⟩ := or_f hf25a
   have hf27 := of_decide_eq_false hf26a
   have hf28 := of_decide_eq_false hf26b
   refine awp_skip ?_
   refine seqR ?_
   refine mG (.b false) ?_
   refine op0 ?_
   refine awp_seq ?_
   refine seqR ?_
   refine mG (.i 0) ?_
   refine op0 ?_
   refine awp_block ?_
   refine awp_countI (fun q => ⟨(upd (upd (upd (upd (upd (upd (upd (upd (upd (upd Z379_3 8 (.q eLk lk)) 9 (.q eV vw)) 11 (.q eU8 st_)) 12 (.q eI ow)) 13 (.sl 3 0 (((List.range i).map PP).length))) 14 (.i (i : Int))) 15 (.q eI (PP i))) 16 (.i (k : Int))) 17 (.b (fdK rr lk (i : Int) ((PP i).getD k 0) q))) 18 (.i (q : Int))), (updO (updO (updO noOb 1 (.live ⟨[.one, .q eSec ss, .q eIL pa, .q ePnt pp, .q eIL rr, .i (1 + d.speed % (2 * (10 * (1 + d.len % 20)))), .i (1 + d.mute % 1000), .i (1 + d.wait % 1000), .i cn, .i (d.stay % 4)], 39, 1⟩)) 2 (.live ⟨(Z379_0 x), 30, 1⟩)) 3 (.live ⟨(enc eIL ((List.range i).map PP)), 48, 1⟩))⟩) (fun q => True) (lk.length) ?_ trivial (fun q hk_q hinv => ?_)
   ·skip
    exact iL [(1, 1), (2, 2), (3, 3)] [((1, 1), .live _), ((2, 2), .live _), ((3, 3), .live _)] ⟨row_no rfl rfl, row_no rfl rfl, row_no rfl rfl, trivial⟩ (he := (sS rfl (sS (by exact congrArg (fun b_ => AV.v (.bool b_)) fdK_0) (sS rfl (sS rfl (sS rfl (sM rfl (sS rfl (sS rfl (sS rfl (sS rfl (sM rfl (sS rfl (sM rfl sr_none))))))))))))))
   refine awp_seq ?_
   refine seqR ?_
   refine mG (.i (q : Int)) ?_
   refine mG (.q eLk lk) ?_
   refine oG (qN ut41 ?_)
   refine bG ((.bool (decide ((q : Int) < (lk.length : Int))))) ?_
   refine rU (upd (upd (upd (upd (upd (upd (upd (upd (upd (upd (upd Z379_3 8 (.q eLk lk)) 9 (.q eV vw)) 11 (.q eU8 st_)) 12 (.q eI ow)) 13 (.sl 3 0 (((List.range i).map PP).length))) 14 (.i (i : Int))) 15 (.q eI (PP i))) 16 (.i (k : Int))) 17 (.b (fdK rr lk (i : Int) ((PP i).getD k 0) q))) 18 (.i (q : Int))) 114 (.b (decide ((q : Int) < (lk.length : Int))))) (updO (updO (updO noOb 1 (.live ⟨[.one, .q eSec ss, .q eIL pa, .q ePnt pp, .q eIL rr, .i (1 + d.speed % (2 * (10 * (1 + d.len % 20)))), .i (1 + d.mute % 1000), .i (1 + d.wait % 1000), .i cn, .i (d.stay % 4)], 39, 1⟩)) 2 (.live ⟨(Z379_0 x), 30, 1⟩)) 3 (.live ⟨(enc eIL ((List.range i).map PP)), 48, 1⟩)) ?_
   refine awp_cond (decide ((q : Int) < (lk.length : Int))) rfl rfl (fun hc4 => ?_) (fun hc4 => ?_)
   ·skip
    have hf29 := of_decide_eq_true hc4
    have hxq := hlr _ (getD_mem (l := lk) (k := q) dLk om)
    have hxqr := hxq.r
    have hxqp : (lk.getD q dLk).pieces.length + 1 ≤ (rr.getD (lk.getD q dLk).route.toNat []).length := hxq.ps
    have hxql : (rr.getD (lk.getD q dLk).route.toNat []).length ≤ 65536 := hxq.ln
    refine awp_skip ?_
    refine awp_seq ?_
    refine awp_block ?_
    refine seqR ?_
    refine mG (.i 0) ?_
    refine op0 ?_
    refine awp_block ?_
    refine awp_countI (fun j => ⟨(upd (upd (upd (upd (upd (upd (upd (upd (upd (upd (upd Z379_3 8 (.q eLk lk)) 9 (.q eV vw)) 11 (.q eU8 st_)) 12 (.q eI ow)) 13 (.sl 3 0 (((List.range i).map PP).length))) 14 (.i (i : Int))) 15 (.q eI (PP i))) 16 (.i (k : Int))) 17 (.b (fdK rr lk (i : Int) ((PP i).getD k 0) q || fdP rr (i : Int) ((PP i).getD k 0) (lk.getD q dLk) j))) 18 (.i (q : Int))) 19 (.i (j : Int))), (updO (updO (updO noOb 1 (.live ⟨[.one, .q eSec ss, .q eIL pa, .q ePnt pp, .q eIL rr, .i (1 + d.speed % (2 * (10 * (1 + d.len % 20)))), .i (1 + d.mute % 1000), .i (1 + d.wait % 1000), .i cn, .i (d.stay % 4)], 39, 1⟩)) 2 (.live ⟨(Z379_0 x), 30, 1⟩)) 3 (.live ⟨(enc eIL ((List.range i).map PP)), 48, 1⟩))⟩) (fun j => True) ((lk.getD q dLk).pieces.length) ?_ trivial (fun j hk_j hinv => ?_)
    ·skip
     exact iL [(1, 1), (2, 2), (3, 3)] [((1, 1), .live _), ((2, 2), .live _), ((3, 3), .live _)] ⟨row_no rfl rfl, row_no rfl rfl, row_no rfl rfl, trivial⟩ (he := (sS rfl (sS rfl (sS (by exact congrArg (fun b_ => AV.v (.bool b_)) fdP_0) (sS rfl (sS rfl (sS rfl (sM rfl (sS rfl (sS rfl (sS rfl (sS rfl (sM rfl (sS rfl (sM rfl sr_none)))))))))))))))
    refine awp_seq ?_
    refine seqR ?_
    refine mG (.i (j : Int)) ?_
    refine mG (.q eLk lk) ?_
    refine mG (.i (q : Int)) ?_
    refine oG (qX dLk ut41 sz58 ?_)
    refine oG (qF (.rp (([.i ((lk.getD q dLk).route), .i ((lk.getD q dLk).train), .i ((lk.getD q dLk).ends), .ro ((lk.getD q dLk).pieces.length) (enc eU8 ((lk.getD q dLk).pieces))] : List AV) ++ ((enc eLk lk).drop ((q + 1) * 4)))) (.rp (([.ro ((lk.getD q dLk).pieces.length) (enc eU8 ((lk.getD q dLk).pieces))] : List AV) ++ ((enc eLk lk).drop ((q + 1) * 4)))) ft58_3 sz27 ?_)
    refine oG (qL (.ro ((lk.getD q dLk).pieces.length) (enc eU8 ((lk.getD q dLk).pieces))) ag27 ?_)
    refine oG (qN ut27 ?_)
    refine bG ((.bool (decide ((j : Int) < ((lk.getD q dLk).pieces.length : Int))))) ?_
    refine rU (upd (upd (upd (upd (upd (upd (upd (upd (upd (upd (upd (upd Z379_3 8 (.q eLk lk)) 9 (.q eV vw)) 11 (.q eU8 st_)) 12 (.q eI ow)) 13 (.sl 3 0 (((List.range i).map PP).length))) 14 (.i (i : Int))) 15 (.q eI (PP i))) 16 (.i (k : Int))) 17 (.b (fdK rr lk (i : Int) ((PP i).getD k 0) q || fdP rr (i : Int) ((PP i).getD k 0) (lk.getD q dLk) j))) 18 (.i (q : Int))) 19 (.i (j : Int))) 124 (.b (decide ((j : Int) < ((lk.getD q dLk).pieces.length : Int))))) (updO (updO (updO noOb 1 (.live ⟨[.one, .q eSec ss, .q eIL pa, .q ePnt pp, .q eIL rr, .i (1 + d.speed % (2 * (10 * (1 + d.len % 20)))), .i (1 + d.mute % 1000), .i (1 + d.wait % 1000), .i cn, .i (d.stay % 4)], 39, 1⟩)) 2 (.live ⟨(Z379_0 x), 30, 1⟩)) 3 (.live ⟨(enc eIL ((List.range i).map PP)), 48, 1⟩)) ?_
    refine awp_cond (decide ((j : Int) < ((lk.getD q dLk).pieces.length : Int))) rfl rfl (fun hc5 => ?_) (fun hc5 => ?_)
    ·skip
     have hf30 := of_decide_eq_true hc5
     refine awp_skip ?_
     refine awp_seq ?_
     refine awp_block ?_
     refine (Bool.eq_false_or_eq_true (fdK rr lk (i : Int) ((PP i).getD k 0) q || fdP rr (i : Int) ((PP i).getD k 0) (lk.getD q dLk) j)).elim (fun hg31 => ?_) (fun hg31 => ?_)
     ·skip
      refine aD 49 [(175, .b true), (174, .v undef), (173, .v undef), (172, .v undef), (171, .v undef), (170, .v undef), (169, .v undef), (168, .v undef), (167, .v undef), (166, .v undef), (165, .v undef), (164, .v undef), (163, .v undef), (162, .v undef), (161, .v undef), (160, .v undef), (159, .v undef), (158, .v undef), (157, .v undef), (156, .v undef), (155, .v undef), (154, .v undef), (153, .v undef), (152, .v undef), (151, .v undef), (150, .v undef), (149, .v undef), (148, .v undef), (147, .v undef), (146, .v undef), (145, .v undef), (144, .v undef), (143, .v undef), (142, .v undef), (141, .v undef), (140, .v undef), (139, .v undef), (138, .v undef), (137, .v undef), (136, .v undef), (135, .v undef), (134, .v undef), (133, .v undef), (132, .v undef), (131, .v undef), (130, .v undef), (129, .v undef), (128, .b (fdK rr lk (i : Int) ((PP i).getD k 0) q || fdP rr (i : Int) ((PP i).getD k 0) (lk.getD q dLk) j)), (127, .b (fdK rr lk (i : Int) ((PP i).getD k 0) q || fdP rr (i : Int) ((PP i).getD k 0) (lk.getD q dLk) j))] mixed ?_ ?_
      ·iterate 49 (refine ⟨?_, ?_⟩; rotate_left)
       trivial
       ·exact sMv
       ·exact sMv
       ·exact gn0 hg31
       ·exact gn0 hg31
       ·exact gn0 hg31
       ·exact gn0 hg31
       ·exact gn0 hg31
       ·exact gn0 hg31
       ·exact gn0 hg31
       ·exact gn0 hg31
       ·exact ⟨136, undef, rfl, blt_lt rfl, rfl, (fun h => by cases h), (fun _ => ⟨137, rfl, blt_lt rfl, .inr rfl⟩)⟩
       ·exact ⟨136, undef, rfl, blt_lt rfl, rfl, (fun h => by cases h), (fun _ => ⟨138, rfl, blt_lt rfl, .inr rfl⟩)⟩
       ·exact ⟨136, undef, rfl, blt_lt rfl, rfl, (fun h => by cases h), (fun _ => ⟨139, rfl, blt_lt rfl, .inr rfl⟩)⟩
       ·exact ⟨136, undef, rfl, blt_lt rfl, rfl, (fun h => by cases h), (fun _ => ⟨140, rfl, blt_lt rfl, .inr rfl⟩)⟩
       ·exact ⟨136, undef, rfl, blt_lt rfl, rfl, (fun h => by cases h), (fun _ => ⟨141, rfl, blt_lt rfl, .inr rfl⟩)⟩
       ·exact ⟨136, undef, rfl, blt_lt rfl, rfl, (fun h => by cases h), (fun _ => ⟨142, rfl, blt_lt rfl, .inr rfl⟩)⟩
       ·exact gn0 hg31
       ·exact gn0 hg31
       ·exact ⟨144, undef, rfl, blt_lt rfl, rfl, (fun h => by cases h), (fun _ => ⟨145, rfl, blt_lt rfl, .inr rfl⟩)⟩
       ·exact ⟨144, undef, rfl, blt_lt rfl, rfl, (fun h => by cases h), (fun _ => ⟨146, rfl, blt_lt rfl, .inr rfl⟩)⟩
       ·exact ⟨144, undef, rfl, blt_lt rfl, rfl, (fun h => by cases h), (fun _ => ⟨147, rfl, blt_lt rfl, .inr rfl⟩)⟩
       ·exact ⟨144, undef, rfl, blt_lt rfl, rfl, (fun h => by cases h), (fun _ => ⟨148, rfl, blt_lt rfl, .inr rfl⟩)⟩
       ·exact ⟨144, undef, rfl, blt_lt rfl, rfl, (fun h => by cases h), (fun _ => ⟨149, rfl, blt_lt rfl, .inr rfl⟩)⟩
       ·exact ⟨144, undef, rfl, blt_lt rfl, rfl, (fun h => by cases h), (fun _ => ⟨150, rfl, blt_lt rfl, .inr rfl⟩)⟩
       ·exact ⟨144, undef, rfl, blt_lt rfl, rfl, (fun h => by cases h), (fun _ => ⟨151, rfl, blt_lt rfl, .inr rfl⟩)⟩
       ·exact ⟨144, undef, rfl, blt_lt rfl, rfl, (fun h => by cases h), (fun _ => ⟨152, rfl, blt_lt rfl, .inr rfl⟩)⟩
       ·exact ⟨144, undef, rfl, blt_lt rfl, rfl, (fun h => by cases h), (fun _ => ⟨153, rfl, blt_lt rfl, .inr rfl⟩)⟩
       ·exact gn0 hg31
       ·exact gn0 hg31
       ·exact ⟨155, undef, rfl, blt_lt rfl, rfl, (fun h => by cases h), (fun _ => ⟨156, rfl, blt_lt rfl, .inr rfl⟩)⟩
       ·exact ⟨155, undef, rfl, blt_lt rfl, rfl, (fun h => by cases h), (fun _ => ⟨157, rfl, blt_lt rfl, .inr rfl⟩)⟩
       ·exact ⟨155, undef, rfl, blt_lt rfl, rfl, (fun h => by cases h), (fun _ => ⟨158, rfl, blt_lt rfl, .inr rfl⟩)⟩
       ·exact ⟨155, undef, rfl, blt_lt rfl, rfl, (fun h => by cases h), (fun _ => ⟨159, rfl, blt_lt rfl, .inr rfl⟩)⟩
       ·exact ⟨155, undef, rfl, blt_lt rfl, rfl, (fun h => by cases h), (fun _ => ⟨160, rfl, blt_lt rfl, .inr rfl⟩)⟩
       ·exact ⟨155, undef, rfl, blt_lt rfl, rfl, (fun h => by cases h), (fun _ => ⟨161, rfl, blt_lt rfl, .inr rfl⟩)⟩
       ·exact ⟨155, undef, rfl, blt_lt rfl, rfl, (fun h => by cases h), (fun _ => ⟨162, rfl, blt_lt rfl, .inr rfl⟩)⟩
       ·exact ⟨155, undef, rfl, blt_lt rfl, rfl, (fun h => by cases h), (fun _ => ⟨163, rfl, blt_lt rfl, .inr rfl⟩)⟩
       ·exact ⟨155, undef, rfl, blt_lt rfl, rfl, (fun h => by cases h), (fun _ => ⟨164, rfl, blt_lt rfl, .inr rfl⟩)⟩
       ·exact ⟨155, undef, rfl, blt_lt rfl, rfl, (fun h => by cases h), (fun _ => ⟨165, rfl, blt_lt rfl, .inr rfl⟩)⟩
       ·exact ⟨155, undef, rfl, blt_lt rfl, rfl, (fun h => by cases h), (fun _ => ⟨166, rfl, blt_lt rfl, .inr rfl⟩)⟩
       ·exact ⟨155, undef, rfl, blt_lt rfl, rfl, (fun h => by cases h), (fun _ => ⟨167, rfl, blt_lt rfl, .inr rfl⟩)⟩
       ·exact ⟨155, undef, rfl, blt_lt rfl, rfl, (fun h => by cases h), (fun _ => ⟨168, rfl, blt_lt rfl, .inr rfl⟩)⟩
       ·exact ⟨155, undef, rfl, blt_lt rfl, rfl, (fun h => by cases h), (fun _ => ⟨169, rfl, blt_lt rfl, .inr rfl⟩)⟩
       ·exact ⟨155, undef, rfl, blt_lt rfl, rfl, (fun h => by cases h), (fun _ => ⟨170, rfl, blt_lt rfl, .inr rfl⟩)⟩
       ·exact ⟨155, undef, rfl, blt_lt rfl, rfl, (fun h => by cases h), (fun _ => ⟨171, rfl, blt_lt rfl, .inr rfl⟩)⟩
       ·exact ⟨155, undef, rfl, blt_lt rfl, rfl, (fun h => by cases h), (fun _ => ⟨172, rfl, blt_lt rfl, .inr rfl⟩)⟩
       ·exact ⟨155, undef, rfl, blt_lt rfl, rfl, (fun h => by cases h), (fun _ => ⟨173, rfl, blt_lt rfl, .inr rfl⟩)⟩
       ·exact gn0 hg31
       exact sPk (fdK rr lk (i : Int) ((PP i).getD k 0) q || fdP rr (i : Int) ((PP i).getD k 0) (lk.getD q dLk) j) (.b true) hg31
      refine mG (.b true) ?_
      refine op0 ?_
      refine regR ?_
      refine mG (.i (j : Int)) ?_
      refine oG (qB (.int .i64 ((j + 1 : Nat) : Int)) (addN om) ?_)
      refine mG (.i ((j + 1 : Nat) : Int)) ?_
      refine op0 ?_
      show _ ∧ _
      refine ⟨by omega, trivial, ?_⟩
      exact iL [(1, 1), (2, 2), (3, 3)] [((1, 1), .live _), ((2, 2), .live _), ((3, 3), .live _)] ⟨row_no rfl rfl, row_no rfl rfl, row_no rfl rfl, trivial⟩ (he := (sS rfl (sS rfl (sS (by exact congrArg (fun b_ => AV.v (.bool b_)) (by first | exact fd_t (by assumption) | exact fd_f (by assumption) (by first | exact fdJ_1 (by assumption) | exact fdJ_2 (by assumption) | exact fdJ_3 (by assumption) | exact fdJ_4 (by assumption) (by assumption) (by assumption)))) (sS rfl (sS rfl (sS rfl (sM rfl (sS rfl (sS rfl (sS rfl (sS rfl (sM rfl (sS rfl (sM rfl sr_none)))))))))))))))
     refine (Bool.eq_false_or_eq_true (((lk.getD q dLk).train) == (i : Int))).elim (fun hg32 => ?_) (fun hg32 => ?_)
     ·skip
      have hf33 := (beq_iff_eq).1 hg32
      refine (Bool.eq_false_or_eq_true (((lk.getD q dLk).ends) == (-1))).elim (fun hg34 => ?_) (fun hg34 => ?_)
      ·skip
       have hf35 := (beq_iff_eq).1 hg34
       refine (Bool.eq_false_or_eq_true ((((lk.getD q dLk).pieces).getD j 0) != 0)).elim (fun hg36 => ?_) (fun hg36 => ?_)
       ·skip
        have hf37 := (bne_iff_ne).1 hg36
        refine aD 49 [(175, .b (((rr.getD ((lk.getD q dLk).route).toNat []).getD (j + 1) 0) == ((PP i).getD k 0))), (174, .b (((rr.getD ((lk.getD q dLk).route).toNat []).getD (j + 1) 0) == ((PP i).getD k 0))), (173, .b (((rr.getD ((lk.getD q dLk).route).toNat []).getD (j + 1) 0) == ((PP i).getD k 0))), (172, .i ((PP i).getD k 0)), (171, .rp (([.i ((PP i).getD k 0)] : List AV) ++ ((enc eI (PP i)).drop ((k + 1) * 1)))), (170, .i (k : Int)), (169, .q eI (PP i)), (168, .i ((rr.getD ((lk.getD q dLk).route).toNat []).getD (j + 1) 0)), (167, .rp (([.i ((rr.getD ((lk.getD q dLk).route).toNat []).getD (j + 1) 0)] : List AV) ++ ((enc eI (rr.getD ((lk.getD q dLk).route).toNat [])).drop (((j + 1) + 1) * 1)))), (166, .i ((j + 1 : Nat) : Int)), (165, .i (j : Int)), (164, .q eI (rr.getD ((lk.getD q dLk).route).toNat [])), (163, .rp (([.q eI (rr.getD ((lk.getD q dLk).route).toNat [])] : List AV) ++ ((enc eIL rr).drop ((((lk.getD q dLk).route).toNat + 1) * 1)))), (162, .i ((lk.getD q dLk).route)), (161, .rp (([.i ((lk.getD q dLk).route), .i ((lk.getD q dLk).train), .i ((lk.getD q dLk).ends), .ro ((lk.getD q dLk).pieces.length) (enc eU8 ((lk.getD q dLk).pieces))] : List AV) ++ ((enc eLk lk).drop ((q + 1) * 4)))), (160, .rp (([.i ((lk.getD q dLk).route), .i ((lk.getD q dLk).train), .i ((lk.getD q dLk).ends), .ro ((lk.getD q dLk).pieces.length) (enc eU8 ((lk.getD q dLk).pieces))] : List AV) ++ ((enc eLk lk).drop ((q + 1) * 4)))), (159, .i (q : Int)), (158, .q eLk lk), (157, .q eIL rr), (156, .pt 1 4), (155, .b ((((lk.getD q dLk).pieces).getD j 0) != 0)), (154, .b ((((lk.getD q dLk).pieces).getD j 0) != 0)), (153, .b ((((lk.getD q dLk).pieces).getD j 0) != 0)), (152, .v (.int .u8 (((lk.getD q dLk).pieces).getD j 0))), (151, .rp (([.v (.int .u8 (((lk.getD q dLk).pieces).getD j 0))] : List AV) ++ ((enc eU8 ((lk.getD q dLk).pieces)).drop ((j + 1) * 1)))), (150, .i (j : Int)), (149, .ro ((lk.getD q dLk).pieces.length) (enc eU8 ((lk.getD q dLk).pieces))), (148, .rp (([.ro ((lk.getD q dLk).pieces.length) (enc eU8 ((lk.getD q dLk).pieces))] : List AV) ++ ((enc eLk lk).drop ((q + 1) * 4)))), (147, .rp (([.i ((lk.getD q dLk).route), .i ((lk.getD q dLk).train), .i ((lk.getD q dLk).ends), .ro ((lk.getD q dLk).pieces.length) (enc eU8 ((lk.getD q dLk).pieces))] : List AV) ++ ((enc eLk lk).drop ((q + 1) * 4)))), (146, .i (q : Int)), (145, .q eLk lk), (144, .b (((lk.getD q dLk).ends) == (-1))), (143, .b (((lk.getD q dLk).ends) == (-1))), (142, .b (((lk.getD q dLk).ends) == (-1))), (141, .i ((lk.getD q dLk).ends)), (140, .rp (([.i ((lk.getD q dLk).ends), .ro ((lk.getD q dLk).pieces.length) (enc eU8 ((lk.getD q dLk).pieces))] : List AV) ++ ((enc eLk lk).drop ((q + 1) * 4)))), (139, .rp (([.i ((lk.getD q dLk).route), .i ((lk.getD q dLk).train), .i ((lk.getD q dLk).ends), .ro ((lk.getD q dLk).pieces.length) (enc eU8 ((lk.getD q dLk).pieces))] : List AV) ++ ((enc eLk lk).drop ((q + 1) * 4)))), (138, .i (q : Int)), (137, .q eLk lk), (136, .b (((lk.getD q dLk).train) == (i : Int))), (135, .b (((lk.getD q dLk).train) == (i : Int))), (134, .i (i : Int)), (133, .i ((lk.getD q dLk).train)), (132, .rp (([.i ((lk.getD q dLk).train), .i ((lk.getD q dLk).ends), .ro ((lk.getD q dLk).pieces.length) (enc eU8 ((lk.getD q dLk).pieces))] : List AV) ++ ((enc eLk lk).drop ((q + 1) * 4)))), (131, .rp (([.i ((lk.getD q dLk).route), .i ((lk.getD q dLk).train), .i ((lk.getD q dLk).ends), .ro ((lk.getD q dLk).pieces.length) (enc eU8 ((lk.getD q dLk).pieces))] : List AV) ++ ((enc eLk lk).drop ((q + 1) * 4)))), (130, .i (q : Int)), (129, .q eLk lk), (128, .b (fdK rr lk (i : Int) ((PP i).getD k 0) q || fdP rr (i : Int) ((PP i).getD k 0) (lk.getD q dLk) j)), (127, .b (fdK rr lk (i : Int) ((PP i).getD k 0) q || fdP rr (i : Int) ((PP i).getD k 0) (lk.getD q dLk) j))] mixed ?_ ?_
        ·iterate 49 (refine ⟨?_, ?_⟩; rotate_left)
         trivial
         ·exact sMv
         ·exact sMv
         ·exact gy0 hg31 sMv
         ·exact gy0 hg31 sMv
         ·exact gy0 hg31 (sIx dLk ut41 sz58)
         ·exact gy0 hg31 (sF (.rp (([.i ((lk.getD q dLk).route), .i ((lk.getD q dLk).train), .i ((lk.getD q dLk).ends), .ro ((lk.getD q dLk).pieces.length) (enc eU8 ((lk.getD q dLk).pieces))] : List AV) ++ ((enc eLk lk).drop ((q + 1) * 4)))) (.rp (([.i ((lk.getD q dLk).train), .i ((lk.getD q dLk).ends), .ro ((lk.getD q dLk).pieces.length) (enc eU8 ((lk.getD q dLk).pieces))] : List AV) ++ ((enc eLk lk).drop ((q + 1) * 4)))) ft58_1 sz3)
         ·exact gy0 hg31 (sLd ag3)
         ·exact gy0 hg31 sMv
         ·exact gy0 hg31 (sB (.bool (((lk.getD q dLk).train) == (i : Int))) rfl)
         ·exact gy0 hg31 sMv
         ·exact gy1 hg32 sMv
         ·exact gy1 hg32 sMv
         ·exact gy1 hg32 (sIx dLk ut41 sz58)
         ·exact gy1 hg32 (sF (.rp (([.i ((lk.getD q dLk).route), .i ((lk.getD q dLk).train), .i ((lk.getD q dLk).ends), .ro ((lk.getD q dLk).pieces.length) (enc eU8 ((lk.getD q dLk).pieces))] : List AV) ++ ((enc eLk lk).drop ((q + 1) * 4)))) (.rp (([.i ((lk.getD q dLk).ends), .ro ((lk.getD q dLk).pieces.length) (enc eU8 ((lk.getD q dLk).pieces))] : List AV) ++ ((enc eLk lk).drop ((q + 1) * 4)))) ft58_2 sz2)
         ·exact gy1 hg32 (sLd ag2)
         ·exact gy1 hg32 (sB (.bool (((lk.getD q dLk).ends) == (-1))) rfl)
         ·exact gy0 hg31 (dW 143 fun st hob hE => aop_pick (b := (((lk.getD q dLk).train) == (i : Int))) (av := .b (((lk.getD q dLk).ends) == (-1))) rfl rfl rfl (hE 136 rfl) (by rw [hg32]; exact hE 142 rfl) (by rw [hob]; rfl))
         ·exact gy0 hg31 sMv
         ·exact gy1 hg34 sMv
         ·exact gy1 hg34 sMv
         ·exact gy1 hg34 (sIx dLk ut41 sz58)
         ·exact gy1 hg34 (sF (.rp (([.i ((lk.getD q dLk).route), .i ((lk.getD q dLk).train), .i ((lk.getD q dLk).ends), .ro ((lk.getD q dLk).pieces.length) (enc eU8 ((lk.getD q dLk).pieces))] : List AV) ++ ((enc eLk lk).drop ((q + 1) * 4)))) (.rp (([.ro ((lk.getD q dLk).pieces.length) (enc eU8 ((lk.getD q dLk).pieces))] : List AV) ++ ((enc eLk lk).drop ((q + 1) * 4)))) ft58_3 sz27)
         ·exact gy1 hg34 (sLd ag27)
         ·exact gy1 hg34 sMv
         ·exact gy1 hg34 (sIx (0 : Int) ut27 sz5)
         ·exact gy1 hg34 (sLd ag5)
         ·exact gy1 hg34 (sB (.bool ((((lk.getD q dLk).pieces).getD j 0) != 0)) rfl)
         ·exact gy0 hg31 (dW 154 fun st hob hE => aop_pick (b := (((lk.getD q dLk).ends) == (-1))) (av := .b ((((lk.getD q dLk).pieces).getD j 0) != 0)) rfl rfl rfl (hE 144 rfl) (by rw [hg34]; exact hE 153 rfl) (by rw [hob]; rfl))
         ·exact gy0 hg31 sMv
         ·exact gy1 hg36 (sF (.pt 1 0) (.pt 1 4) ft39_4 sz36)
         ·exact gy1 hg36 (sL ag36)
         ·exact gy1 hg36 sMv
         ·exact gy1 hg36 sMv
         ·exact gy1 hg36 (sIx dLk ut41 sz58)
         ·exact gy1 hg36 (sF (.rp (([.i ((lk.getD q dLk).route), .i ((lk.getD q dLk).train), .i ((lk.getD q dLk).ends), .ro ((lk.getD q dLk).pieces.length) (enc eU8 ((lk.getD q dLk).pieces))] : List AV) ++ ((enc eLk lk).drop ((q + 1) * 4)))) (.rp (([.i ((lk.getD q dLk).route), .i ((lk.getD q dLk).train), .i ((lk.getD q dLk).ends), .ro ((lk.getD q dLk).pieces.length) (enc eU8 ((lk.getD q dLk).pieces))] : List AV) ++ ((enc eLk lk).drop ((q + 1) * 4)))) ft58_0 sz3)
         ·exact gy1 hg36 (sLd ag3)
         ·exact gy1 hg36 (dW 163 fun st hob hE => aop_ixI [] rfl rfl rfl ut36 sz48 (hE 157 rfl) (hE 162 rfl) (fun _ => rfl) rfl om oo (by rw [hob]; rfl))
         ·exact gy1 hg36 (sLd ag48)
         ·exact gy1 hg36 sMv
         ·exact gy1 hg36 (sB (.int .i64 ((j + 1 : Nat) : Int)) (addN om))
         ·exact gy1 hg36 (sIx (0 : Int) ut48 sz3)
         ·exact gy1 hg36 (sLd ag3)
         ·exact gy1 hg36 sMv
         ·exact gy1 hg36 sMv
         ·exact gy1 hg36 (sIx (0 : Int) ut48 sz3)
         ·exact gy1 hg36 (sLd ag3)
         ·exact gy1 hg36 (sB (.bool (((rr.getD ((lk.getD q dLk).route).toNat []).getD (j + 1) 0) == ((PP i).getD k 0))) rfl)
         ·exact gy0 hg31 (dW 174 fun st hob hE => aop_pick (b := ((((lk.getD q dLk).pieces).getD j 0) != 0)) (av := .b (((rr.getD ((lk.getD q dLk).route).toNat []).getD (j + 1) 0) == ((PP i).getD k 0))) rfl rfl rfl (hE 155 rfl) (by rw [hg36]; exact hE 173 rfl) (by rw [hob]; rfl))
         exact dW 175 fun st hob hE => aop_pick (b := (fdK rr lk (i : Int) ((PP i).getD k 0) q || fdP rr (i : Int) ((PP i).getD k 0) (lk.getD q dLk) j)) (av := .b (((rr.getD ((lk.getD q dLk).route).toNat []).getD (j + 1) 0) == ((PP i).getD k 0))) rfl rfl rfl (hE 128 rfl) (by rw [hg31]; exact hE 174 rfl) (by rw [hob]; rfl)
        refine mG (.b (((rr.getD ((lk.getD q dLk).route).toNat []).getD (j + 1) 0) == ((PP i).getD k 0))) ?_
        refine op0 ?_
        refine regR ?_
        refine mG (.i (j : Int)) ?_
        refine oG (qB (.int .i64 ((j + 1 : Nat) : Int)) (addN om) ?_)
        refine mG (.i ((j + 1 : Nat) : Int)) ?_
        refine op0 ?_
        show _ ∧ _
        refine ⟨by omega, trivial, ?_⟩
        exact iL [(1, 1), (2, 2), (3, 3)] [((1, 1), .live _), ((2, 2), .live _), ((3, 3), .live _)] ⟨row_no rfl rfl, row_no rfl rfl, row_no rfl rfl, trivial⟩ (he := (sS rfl (sS rfl (sS (by exact congrArg (fun b_ => AV.v (.bool b_)) (by first | exact fd_t (by assumption) | exact fd_f (by assumption) (by first | exact fdJ_1 (by assumption) | exact fdJ_2 (by assumption) | exact fdJ_3 (by assumption) | exact fdJ_4 (by assumption) (by assumption) (by assumption)))) (sS rfl (sS rfl (sS rfl (sM rfl (sS rfl (sS rfl (sS rfl (sS rfl (sM rfl (sS rfl (sM rfl sr_none)))))))))))))))
       have hf38 := (bne_eq_false_iff_eq).1 hg36
       refine aD 49 [(175, .b false), (174, .b false), (173, .v undef), (172, .v undef), (171, .v undef), (170, .v undef), (169, .v undef), (168, .v undef), (167, .v undef), (166, .v undef), (165, .v undef), (164, .v undef), (163, .v undef), (162, .v undef), (161, .v undef), (160, .v undef), (159, .v undef), (158, .v undef), (157, .v undef), (156, .v undef), (155, .b ((((lk.getD q dLk).pieces).getD j 0) != 0)), (154, .b ((((lk.getD q dLk).pieces).getD j 0) != 0)), (153, .b ((((lk.getD q dLk).pieces).getD j 0) != 0)), (152, .v (.int .u8 (((lk.getD q dLk).pieces).getD j 0))), (151, .rp (([.v (.int .u8 (((lk.getD q dLk).pieces).getD j 0))] : List AV) ++ ((enc eU8 ((lk.getD q dLk).pieces)).drop ((j + 1) * 1)))), (150, .i (j : Int)), (149, .ro ((lk.getD q dLk).pieces.length) (enc eU8 ((lk.getD q dLk).pieces))), (148, .rp (([.ro ((lk.getD q dLk).pieces.length) (enc eU8 ((lk.getD q dLk).pieces))] : List AV) ++ ((enc eLk lk).drop ((q + 1) * 4)))), (147, .rp (([.i ((lk.getD q dLk).route), .i ((lk.getD q dLk).train), .i ((lk.getD q dLk).ends), .ro ((lk.getD q dLk).pieces.length) (enc eU8 ((lk.getD q dLk).pieces))] : List AV) ++ ((enc eLk lk).drop ((q + 1) * 4)))), (146, .i (q : Int)), (145, .q eLk lk), (144, .b (((lk.getD q dLk).ends) == (-1))), (143, .b (((lk.getD q dLk).ends) == (-1))), (142, .b (((lk.getD q dLk).ends) == (-1))), (141, .i ((lk.getD q dLk).ends)), (140, .rp (([.i ((lk.getD q dLk).ends), .ro ((lk.getD q dLk).pieces.length) (enc eU8 ((lk.getD q dLk).pieces))] : List AV) ++ ((enc eLk lk).drop ((q + 1) * 4)))), (139, .rp (([.i ((lk.getD q dLk).route), .i ((lk.getD q dLk).train), .i ((lk.getD q dLk).ends), .ro ((lk.getD q dLk).pieces.length) (enc eU8 ((lk.getD q dLk).pieces))] : List AV) ++ ((enc eLk lk).drop ((q + 1) * 4)))), (138, .i (q : Int)), (137, .q eLk lk), (136, .b (((lk.getD q dLk).train) == (i : Int))), (135, .b (((lk.getD q dLk).train) == (i : Int))), (134, .i (i : Int)), (133, .i ((lk.getD q dLk).train)), (132, .rp (([.i ((lk.getD q dLk).train), .i ((lk.getD q dLk).ends), .ro ((lk.getD q dLk).pieces.length) (enc eU8 ((lk.getD q dLk).pieces))] : List AV) ++ ((enc eLk lk).drop ((q + 1) * 4)))), (131, .rp (([.i ((lk.getD q dLk).route), .i ((lk.getD q dLk).train), .i ((lk.getD q dLk).ends), .ro ((lk.getD q dLk).pieces.length) (enc eU8 ((lk.getD q dLk).pieces))] : List AV) ++ ((enc eLk lk).drop ((q + 1) * 4)))), (130, .i (q : Int)), (129, .q eLk lk), (128, .b (fdK rr lk (i : Int) ((PP i).getD k 0) q || fdP rr (i : Int) ((PP i).getD k 0) (lk.getD q dLk) j)), (127, .b (fdK rr lk (i : Int) ((PP i).getD k 0) q || fdP rr (i : Int) ((PP i).getD k 0) (lk.getD q dLk) j))] mixed ?_ ?_
       ·iterate 49 (refine ⟨?_, ?_⟩; rotate_left)
        trivial
        ·exact sMv
        ·exact sMv
        ·exact gy0 hg31 sMv
        ·exact gy0 hg31 sMv
        ·exact gy0 hg31 (sIx dLk ut41 sz58)
        ·exact gy0 hg31 (sF (.rp (([.i ((lk.getD q dLk).route), .i ((lk.getD q dLk).train), .i ((lk.getD q dLk).ends), .ro ((lk.getD q dLk).pieces.length) (enc eU8 ((lk.getD q dLk).pieces))] : List AV) ++ ((enc eLk lk).drop ((q + 1) * 4)))) (.rp (([.i ((lk.getD q dLk).train), .i ((lk.getD q dLk).ends), .ro ((lk.getD q dLk).pieces.length) (enc eU8 ((lk.getD q dLk).pieces))] : List AV) ++ ((enc eLk lk).drop ((q + 1) * 4)))) ft58_1 sz3)
        ·exact gy0 hg31 (sLd ag3)
        ·exact gy0 hg31 sMv
        ·exact gy0 hg31 (sB (.bool (((lk.getD q dLk).train) == (i : Int))) rfl)
        ·exact gy0 hg31 sMv
        ·exact gy1 hg32 sMv
        ·exact gy1 hg32 sMv
        ·exact gy1 hg32 (sIx dLk ut41 sz58)
        ·exact gy1 hg32 (sF (.rp (([.i ((lk.getD q dLk).route), .i ((lk.getD q dLk).train), .i ((lk.getD q dLk).ends), .ro ((lk.getD q dLk).pieces.length) (enc eU8 ((lk.getD q dLk).pieces))] : List AV) ++ ((enc eLk lk).drop ((q + 1) * 4)))) (.rp (([.i ((lk.getD q dLk).ends), .ro ((lk.getD q dLk).pieces.length) (enc eU8 ((lk.getD q dLk).pieces))] : List AV) ++ ((enc eLk lk).drop ((q + 1) * 4)))) ft58_2 sz2)
        ·exact gy1 hg32 (sLd ag2)
        ·exact gy1 hg32 (sB (.bool (((lk.getD q dLk).ends) == (-1))) rfl)
        ·exact gy0 hg31 (dW 143 fun st hob hE => aop_pick (b := (((lk.getD q dLk).train) == (i : Int))) (av := .b (((lk.getD q dLk).ends) == (-1))) rfl rfl rfl (hE 136 rfl) (by rw [hg32]; exact hE 142 rfl) (by rw [hob]; rfl))
        ·exact gy0 hg31 sMv
        ·exact gy1 hg34 sMv
        ·exact gy1 hg34 sMv
        ·exact gy1 hg34 (sIx dLk ut41 sz58)
        ·exact gy1 hg34 (sF (.rp (([.i ((lk.getD q dLk).route), .i ((lk.getD q dLk).train), .i ((lk.getD q dLk).ends), .ro ((lk.getD q dLk).pieces.length) (enc eU8 ((lk.getD q dLk).pieces))] : List AV) ++ ((enc eLk lk).drop ((q + 1) * 4)))) (.rp (([.ro ((lk.getD q dLk).pieces.length) (enc eU8 ((lk.getD q dLk).pieces))] : List AV) ++ ((enc eLk lk).drop ((q + 1) * 4)))) ft58_3 sz27)
        ·exact gy1 hg34 (sLd ag27)
        ·exact gy1 hg34 sMv
        ·exact gy1 hg34 (sIx (0 : Int) ut27 sz5)
        ·exact gy1 hg34 (sLd ag5)
        ·exact gy1 hg34 (sB (.bool ((((lk.getD q dLk).pieces).getD j 0) != 0)) rfl)
        ·exact gy0 hg31 (dW 154 fun st hob hE => aop_pick (b := (((lk.getD q dLk).ends) == (-1))) (av := .b ((((lk.getD q dLk).pieces).getD j 0) != 0)) rfl rfl rfl (hE 144 rfl) (by rw [hg34]; exact hE 153 rfl) (by rw [hob]; rfl))
        ·exact gy0 hg31 sMv
        ·exact gn1 hg36
        ·exact gn1 hg36
        ·exact gn1 hg36
        ·exact gn1 hg36
        ·exact gn1 hg36
        ·exact gn1 hg36
        ·exact gn1 hg36
        ·exact gn1 hg36
        ·exact gn1 hg36
        ·exact gn1 hg36
        ·exact gn1 hg36
        ·exact gn1 hg36
        ·exact gn1 hg36
        ·exact gn1 hg36
        ·exact gn1 hg36
        ·exact gn1 hg36
        ·exact gn1 hg36
        ·exact gn1 hg36
        ·exact gy0 hg31 (sPk ((((lk.getD q dLk).pieces).getD j 0) != 0) (.b false) hg36)
        exact dW 175 fun st hob hE => aop_pick (b := (fdK rr lk (i : Int) ((PP i).getD k 0) q || fdP rr (i : Int) ((PP i).getD k 0) (lk.getD q dLk) j)) (av := .b false) rfl rfl rfl (hE 128 rfl) (by rw [hg31]; exact hE 174 rfl) (by rw [hob]; rfl)
       refine mG (.b false) ?_
       refine op0 ?_
       refine regR ?_
       refine mG (.i (j : Int)) ?_
       refine oG (qB (.int .i64 ((j + 1 : Nat) : Int)) (addN om) ?_)
       refine mG (.i ((j + 1 : Nat) : Int)) ?_
       refine op0 ?_
       show _ ∧ _
       refine ⟨by omega, trivial, ?_⟩
       exact iL [(1, 1), (2, 2), (3, 3)] [((1, 1), .live _), ((2, 2), .live _), ((3, 3), .live _)] ⟨row_no rfl rfl, row_no rfl rfl, row_no rfl rfl, trivial⟩ (he := (sS rfl (sS rfl (sS (by exact congrArg (fun b_ => AV.v (.bool b_)) (by first | exact fd_t (by assumption) | exact fd_f (by assumption) (by first | exact fdJ_1 (by assumption) | exact fdJ_2 (by assumption) | exact fdJ_3 (by assumption) | exact fdJ_4 (by assumption) (by assumption) (by assumption)))) (sS rfl (sS rfl (sS rfl (sM rfl (sS rfl (sS rfl (sS rfl (sS rfl (sM rfl (sS rfl (sM rfl sr_none)))))))))))))))
      have hf39 := (beq_eq_false_iff_ne).1 hg34
      refine aD 49 [(175, .b false), (174, .b false), (173, .v undef), (172, .v undef), (171, .v undef), (170, .v undef), (169, .v undef), (168, .v undef), (167, .v undef), (166, .v undef), (165, .v undef), (164, .v undef), (163, .v undef), (162, .v undef), (161, .v undef), (160, .v undef), (159, .v undef), (158, .v undef), (157, .v undef), (156, .v undef), (155, .b false), (154, .b false), (153, .v undef), (152, .v undef), (151, .v undef), (150, .v undef), (149, .v undef), (148, .v undef), (147, .v undef), (146, .v undef), (145, .v undef), (144, .b (((lk.getD q dLk).ends) == (-1))), (143, .b (((lk.getD q dLk).ends) == (-1))), (142, .b (((lk.getD q dLk).ends) == (-1))), (141, .i ((lk.getD q dLk).ends)), (140, .rp (([.i ((lk.getD q dLk).ends), .ro ((lk.getD q dLk).pieces.length) (enc eU8 ((lk.getD q dLk).pieces))] : List AV) ++ ((enc eLk lk).drop ((q + 1) * 4)))), (139, .rp (([.i ((lk.getD q dLk).route), .i ((lk.getD q dLk).train), .i ((lk.getD q dLk).ends), .ro ((lk.getD q dLk).pieces.length) (enc eU8 ((lk.getD q dLk).pieces))] : List AV) ++ ((enc eLk lk).drop ((q + 1) * 4)))), (138, .i (q : Int)), (137, .q eLk lk), (136, .b (((lk.getD q dLk).train) == (i : Int))), (135, .b (((lk.getD q dLk).train) == (i : Int))), (134, .i (i : Int)), (133, .i ((lk.getD q dLk).train)), (132, .rp (([.i ((lk.getD q dLk).train), .i ((lk.getD q dLk).ends), .ro ((lk.getD q dLk).pieces.length) (enc eU8 ((lk.getD q dLk).pieces))] : List AV) ++ ((enc eLk lk).drop ((q + 1) * 4)))), (131, .rp (([.i ((lk.getD q dLk).route), .i ((lk.getD q dLk).train), .i ((lk.getD q dLk).ends), .ro ((lk.getD q dLk).pieces.length) (enc eU8 ((lk.getD q dLk).pieces))] : List AV) ++ ((enc eLk lk).drop ((q + 1) * 4)))), (130, .i (q : Int)), (129, .q eLk lk), (128, .b (fdK rr lk (i : Int) ((PP i).getD k 0) q || fdP rr (i : Int) ((PP i).getD k 0) (lk.getD q dLk) j)), (127, .b (fdK rr lk (i : Int) ((PP i).getD k 0) q || fdP rr (i : Int) ((PP i).getD k 0) (lk.getD q dLk) j))] mixed ?_ ?_
      ·iterate 49 (refine ⟨?_, ?_⟩; rotate_left)
       trivial
       ·exact sMv
       ·exact sMv
       ·exact gy0 hg31 sMv
       ·exact gy0 hg31 sMv
       ·exact gy0 hg31 (sIx dLk ut41 sz58)
       ·exact gy0 hg31 (sF (.rp (([.i ((lk.getD q dLk).route), .i ((lk.getD q dLk).train), .i ((lk.getD q dLk).ends), .ro ((lk.getD q dLk).pieces.length) (enc eU8 ((lk.getD q dLk).pieces))] : List AV) ++ ((enc eLk lk).drop ((q + 1) * 4)))) (.rp (([.i ((lk.getD q dLk).train), .i ((lk.getD q dLk).ends), .ro ((lk.getD q dLk).pieces.length) (enc eU8 ((lk.getD q dLk).pieces))] : List AV) ++ ((enc eLk lk).drop ((q + 1) * 4)))) ft58_1 sz3)
       ·exact gy0 hg31 (sLd ag3)
       ·exact gy0 hg31 sMv
       ·exact gy0 hg31 (sB (.bool (((lk.getD q dLk).train) == (i : Int))) rfl)
       ·exact gy0 hg31 sMv
       ·exact gy1 hg32 sMv
       ·exact gy1 hg32 sMv
       ·exact gy1 hg32 (sIx dLk ut41 sz58)
       ·exact gy1 hg32 (sF (.rp (([.i ((lk.getD q dLk).route), .i ((lk.getD q dLk).train), .i ((lk.getD q dLk).ends), .ro ((lk.getD q dLk).pieces.length) (enc eU8 ((lk.getD q dLk).pieces))] : List AV) ++ ((enc eLk lk).drop ((q + 1) * 4)))) (.rp (([.i ((lk.getD q dLk).ends), .ro ((lk.getD q dLk).pieces.length) (enc eU8 ((lk.getD q dLk).pieces))] : List AV) ++ ((enc eLk lk).drop ((q + 1) * 4)))) ft58_2 sz2)
       ·exact gy1 hg32 (sLd ag2)
       ·exact gy1 hg32 (sB (.bool (((lk.getD q dLk).ends) == (-1))) rfl)
       ·exact gy0 hg31 (dW 143 fun st hob hE => aop_pick (b := (((lk.getD q dLk).train) == (i : Int))) (av := .b (((lk.getD q dLk).ends) == (-1))) rfl rfl rfl (hE 136 rfl) (by rw [hg32]; exact hE 142 rfl) (by rw [hob]; rfl))
       ·exact gy0 hg31 sMv
       ·exact gn1 hg34
       ·exact gn1 hg34
       ·exact gn1 hg34
       ·exact gn1 hg34
       ·exact gn1 hg34
       ·exact gn1 hg34
       ·exact gn1 hg34
       ·exact gn1 hg34
       ·exact gn1 hg34
       ·exact gy0 hg31 (sPk (((lk.getD q dLk).ends) == (-1)) (.b false) hg34)
       ·exact gy0 hg31 sMv
       ·exact gn1 rfl
       ·exact gn1 rfl
       ·exact gn1 rfl
       ·exact gn1 rfl
       ·exact gn1 rfl
       ·exact gn1 rfl
       ·exact gn1 rfl
       ·exact gn1 rfl
       ·exact gn1 rfl
       ·exact gn1 rfl
       ·exact gn1 rfl
       ·exact gn1 rfl
       ·exact gn1 rfl
       ·exact gn1 rfl
       ·exact gn1 rfl
       ·exact gn1 rfl
       ·exact gn1 rfl
       ·exact gn1 rfl
       ·exact gy0 hg31 (dW 174 fun st hob hE => aop_pick (b := false) (av := .b false) rfl rfl rfl (hE 155 rfl) rfl (by rw [hob]; rfl))
       exact dW 175 fun st hob hE => aop_pick (b := (fdK rr lk (i : Int) ((PP i).getD k 0) q || fdP rr (i : Int) ((PP i).getD k 0) (lk.getD q dLk) j)) (av := .b false) rfl rfl rfl (hE 128 rfl) (by rw [hg31]; exact hE 174 rfl) (by rw [hob]; rfl)
      refine mG (.b false) ?_
      refine op0 ?_
      refine regR ?_
      refine mG (.i (j : Int)) ?_
      refine oG (qB (.int .i64 ((j + 1 : Nat) : Int)) (addN om) ?_)
      refine mG (.i ((j + 1 : Nat) : Int)) ?_
      refine op0 ?_
      show _ ∧ _
      refine ⟨by omega, trivial, ?_⟩
      exact iL [(1, 1), (2, 2), (3, 3)] [((1, 1), .live _), ((2, 2), .live _), ((3, 3), .live _)] ⟨row_no rfl rfl, row_no rfl rfl, row_no rfl rfl, trivial⟩ (he := (sS rfl (sS rfl (sS (by exact congrArg (fun b_ => AV.v (.bool b_)) (by first | exact fd_t (by assumption) | exact fd_f (by assumption) (by first | exact fdJ_1 (by assumption) | exact fdJ_2 (by assumption) | exact fdJ_3 (by assumption) | exact fdJ_4 (by assumption) (by assumption) (by assumption)))) (sS rfl (sS rfl (sS rfl (sM rfl (sS rfl (sS rfl (sS rfl (sS rfl (sM rfl (sS rfl (sM rfl sr_none)))))))))))))))
     have hf40 := (beq_eq_false_iff_ne).1 hg32
     refine aD 49 [(175, .b false), (174, .b false), (173, .v undef), (172, .v undef), (171, .v undef), (170, .v undef), (169, .v undef), (168, .v undef), (167, .v undef), (166, .v undef), (165, .v undef), (164, .v undef), (163, .v undef), (162, .v undef), (161, .v undef), (160, .v undef), (159, .v undef), (158, .v undef), (157, .v undef), (156, .v undef), (155, .b false), (154, .b false), (153, .v undef), (152, .v undef), (151, .v undef), (150, .v undef), (149, .v undef), (148, .v undef), (147, .v undef), (146, .v undef), (145, .v undef), (144, .b false), (143, .b false), (142, .v undef), (141, .v undef), (140, .v undef), (139, .v undef), (138, .v undef), (137, .v undef), (136, .b (((lk.getD q dLk).train) == (i : Int))), (135, .b (((lk.getD q dLk).train) == (i : Int))), (134, .i (i : Int)), (133, .i ((lk.getD q dLk).train)), (132, .rp (([.i ((lk.getD q dLk).train), .i ((lk.getD q dLk).ends), .ro ((lk.getD q dLk).pieces.length) (enc eU8 ((lk.getD q dLk).pieces))] : List AV) ++ ((enc eLk lk).drop ((q + 1) * 4)))), (131, .rp (([.i ((lk.getD q dLk).route), .i ((lk.getD q dLk).train), .i ((lk.getD q dLk).ends), .ro ((lk.getD q dLk).pieces.length) (enc eU8 ((lk.getD q dLk).pieces))] : List AV) ++ ((enc eLk lk).drop ((q + 1) * 4)))), (130, .i (q : Int)), (129, .q eLk lk), (128, .b (fdK rr lk (i : Int) ((PP i).getD k 0) q || fdP rr (i : Int) ((PP i).getD k 0) (lk.getD q dLk) j)), (127, .b (fdK rr lk (i : Int) ((PP i).getD k 0) q || fdP rr (i : Int) ((PP i).getD k 0) (lk.getD q dLk) j))] mixed ?_ ?_
     ·iterate 49 (refine ⟨?_, ?_⟩; rotate_left)
      trivial
      ·exact sMv
      ·exact sMv
      ·exact gy0 hg31 sMv
      ·exact gy0 hg31 sMv
      ·exact gy0 hg31 (sIx dLk ut41 sz58)
      ·exact gy0 hg31 (sF (.rp (([.i ((lk.getD q dLk).route), .i ((lk.getD q dLk).train), .i ((lk.getD q dLk).ends), .ro ((lk.getD q dLk).pieces.length) (enc eU8 ((lk.getD q dLk).pieces))] : List AV) ++ ((enc eLk lk).drop ((q + 1) * 4)))) (.rp (([.i ((lk.getD q dLk).train), .i ((lk.getD q dLk).ends), .ro ((lk.getD q dLk).pieces.length) (enc eU8 ((lk.getD q dLk).pieces))] : List AV) ++ ((enc eLk lk).drop ((q + 1) * 4)))) ft58_1 sz3)
      ·exact gy0 hg31 (sLd ag3)
      ·exact gy0 hg31 sMv
      ·exact gy0 hg31 (sB (.bool (((lk.getD q dLk).train) == (i : Int))) rfl)
      ·exact gy0 hg31 sMv
      ·exact gn1 hg32
      ·exact gn1 hg32
      ·exact gn1 hg32
      ·exact gn1 hg32
      ·exact gn1 hg32
      ·exact gn1 hg32
      ·exact gy0 hg31 (sPk (((lk.getD q dLk).train) == (i : Int)) (.b false) hg32)
      ·exact gy0 hg31 sMv
      ·exact gn1 rfl
      ·exact gn1 rfl
      ·exact gn1 rfl
      ·exact gn1 rfl
      ·exact gn1 rfl
      ·exact gn1 rfl
      ·exact gn1 rfl
      ·exact gn1 rfl
      ·exact gn1 rfl
      ·exact gy0 hg31 (dW 154 fun st hob hE => aop_pick (b := false) (av := .b false) rfl rfl rfl (hE 144 rfl) rfl (by rw [hob]; rfl))
      ·exact gy0 hg31 sMv
      ·exact gn1 rfl
      ·exact gn1 rfl
      ·exact gn1 rfl
      ·exact gn1 rfl
      ·exact gn1 rfl
      ·exact gn1 rfl
      ·exact gn1 rfl
      ·exact gn1 rfl
      ·exact gn1 rfl
      ·exact gn1 rfl
      ·exact gn1 rfl
      ·exact gn1 rfl
      ·exact gn1 rfl
      ·exact gn1 rfl
      ·exact gn1 rfl
      ·exact gn1 rfl
      ·exact gn1 rfl
      ·exact gn1 rfl
      ·exact gy0 hg31 (dW 174 fun st hob hE => aop_pick (b := false) (av := .b false) rfl rfl rfl (hE 155 rfl) rfl (by rw [hob]; rfl))
      exact dW 175 fun st hob hE => aop_pick (b := (fdK rr lk (i : Int) ((PP i).getD k 0) q || fdP rr (i : Int) ((PP i).getD k 0) (lk.getD q dLk) j)) (av := .b false) rfl rfl rfl (hE 128 rfl) (by rw [hg31]; exact hE 174 rfl) (by rw [hob]; rfl)
     refine mG (.b false) ?_
     refine op0 ?_
     refine regR ?_
     refine mG (.i (j : Int)) ?_
     refine oG (qB (.int .i64 ((j + 1 : Nat) : Int)) (addN om) ?_)
     refine mG (.i ((j + 1 : Nat) : Int)) ?_
     refine op0 ?_
     show _ ∧ _
     refine ⟨by omega, trivial, ?_⟩
     exact iL [(1, 1), (2, 2), (3, 3)] [((1, 1), .live _), ((2, 2), .live _), ((3, 3), .live _)] ⟨row_no rfl rfl, row_no rfl rfl, row_no rfl rfl, trivial⟩ (he := (sS rfl (sS rfl (sS (by exact congrArg (fun b_ => AV.v (.bool b_)) (by first | exact fd_t (by assumption) | exact fd_f (by assumption) (by first | exact fdJ_1 (by assumption) | exact fdJ_2 (by assumption) | exact fdJ_3 (by assumption) | exact fdJ_4 (by assumption) (by assumption) (by assumption)))) (sS rfl (sS rfl (sS rfl (sM rfl (sS rfl (sS rfl (sS rfl (sS rfl (sM rfl (sS rfl (sM rfl sr_none)))))))))))))))
    have hf41 := of_decide_eq_false hc5
    refine awp_exit ?_
    refine regR ?_
    refine mG (.i (q : Int)) ?_
    refine oG (qB (.int .i64 ((q + 1 : Nat) : Int)) (addN om) ?_)
    refine mG (.i ((q + 1 : Nat) : Int)) ?_
    refine op0 ?_
    show _ ∧ _
    refine ⟨by omega, trivial, ?_⟩
    exact iL [(1, 1), (2, 2), (3, 3)] [((1, 1), .live _), ((2, 2), .live _), ((3, 3), .live _)] ⟨row_no rfl rfl, row_no rfl rfl, row_no rfl rfl, trivial⟩ (he := (sS rfl (sS (by exact congrArg (fun b_ => AV.v (.bool b_)) (fdK_step om om om)) (sS rfl (sS rfl (sS rfl (sM rfl (sS rfl (sS rfl (sS rfl (sS rfl (sM rfl (sS rfl (sM rfl sr_none))))))))))))))
   have hf42 := of_decide_eq_false hc4
   refine awp_exit ?_
   refine seqR ?_
   refine mG (.b (fdK rr lk (i : Int) ((PP i).getD k 0) q)) ?_
   refine oG (aop_not rfl rfl rfl rfl ?_)
   refine op0 ?_
   refine awp_cond (!(fdK rr lk (i : Int) ((PP i).getD k 0) q)) rfl rfl (fun hc6 => ?_) (fun hc6 => ?_)
   ·skip
    have hf43 := not_t hc6
    have h9_ := (hPs i k q om om).1; rw [h9_] at hc6; cases hc6
   have hf44 := not_f hc6
   refine awp_skip ?_
   refine regR ?_
   refine mG (.i (k : Int)) ?_
   refine oG (qB (.int .i64 ((k + 1 : Nat) : Int)) (addN om) ?_)
   refine mG (.i ((k + 1 : Nat) : Int)) ?_
   refine op0 ?_
   show _ ∧ _
   refine ⟨by omega, trivial, ?_⟩
   exact iL [(1, 1), (2, 2), (3, 3)] [((1, 1), .live _), ((2, 2), .live _), ((3, 3), .live _)] ⟨row_no rfl rfl, row_no rfl rfl, row_no rfl rfl, trivial⟩
  have hf45 := of_decide_eq_false hc2
  refine awp_exit ?_
  refine regR ?_
  refine mG (.sl 3 0 (((List.range i).map PP).length)) ?_
  refine mG (.q eI (PP i)) ?_
  refine oG (aop_lit rfl rfl rfl ut36 iz48 (by decide) (by decide) rfl rfl ?_)
  refine oG (aop_app1 (f := eIL) (l := (List.range i).map PP) 55 (PP i : (List Int)) rfl rfl rfl rfl ut36 in48 rfl (by decide) rfl rfl rfl rfl rfl rfl (fun _ => rfl) rfl rfl oo oo rfl ?_)
  refine mG (.sl 55 0 ((((List.range i).map PP) ++ [(PP i : (List Int))]).length)) ?_
  refine op0 ?_
  refine rT (upd (upd (upd (upd (upd (upd (upd (upd Z379_3 8 (.q eLk lk)) 9 (.q eV vw)) 11 (.q eU8 st_)) 12 (.q eI ow)) 13 (.sl 55 0 ((((List.range i).map PP) ++ [(PP i : (List Int))]).length))) 14 (.i (i : Int))) 15 (.q eI (PP i))) 16 (.i (k : Int))) (updO (updO (updO (updO (updO noOb 1 (.live ⟨[.one, .q eSec ss, .q eIL pa, .q ePnt pp, .q eIL rr, .i (1 + d.speed % (2 * (10 * (1 + d.len % 20)))), .i (1 + d.mute % 1000), .i (1 + d.wait % 1000), .i cn, .i (d.stay % 4)], 39, 1⟩)) 2 (.live ⟨(Z379_0 x), 30, 1⟩)) 3 (.live ⟨(enc eIL ((List.range i).map PP)), 48, 1⟩)) 3 .dead) 55 (.live ⟨(enc eIL (((List.range i).map PP) ++ [(PP i : (List Int))])), 48, 1⟩)) ?_
  refine regR ?_
  refine mG (.i (i : Int)) ?_
  refine oG (qB (.int .i64 ((i + 1 : Nat) : Int)) (addN om) ?_)
  refine mG (.i ((i + 1 : Nat) : Int)) ?_
  refine op0 ?_
  show _ ∧ _
  have hs_ : (List.range (i + 1)).map PP = (List.range i).map PP ++ [PP i] := by rw [List.range_succ, List.map_append]; rfl
  refine ⟨by omega, trivial, ?_⟩
  exact iL [(1, 1), (2, 2), (55, 3)] [((1, 1), .live _), ((2, 2), .live _), ((55, 3), .live _)] ⟨row_no rfl rfl, row_no rfl rfl, row_no rfl (by exact congrArg (fun l_ => LObj.mk (enc eIL l_) 48 1) hs_), trivial⟩ (he := (sS rfl (sM (by exact congrArg (AV.sl 3 0) (congrArg List.length hs_.symm)) (sS rfl (sS rfl (sS rfl (sS rfl (sM rfl (sS rfl (sM rfl sr_none))))))))))
 have hf46 := of_decide_eq_false hc1
 have hi3 : i = 3 := by omega
 have hfl : ((List.range i).map PP).flatten.length ≤ 65536 := by rw [hi3]; show (PP 0 ++ (PP 1 ++ (PP 2 ++ []))).length ≤ 65536; have := hP8 0; have := hP8 1; have := hP8 2; simp only [List.length_append, List.length_nil]; omega
 have hri := rise_nd (l := ((List.range i).map PP).flatten) (by rw [hi3]; exact hPn)
 refine awp_exit ?_
 refine seqR ?_
 refine mG (.sl 3 0 (((List.range i).map PP).length)) ?_
 refine oG (callL_ (r16_Apart ((List.range i).map PP) oo oo) rfl rfl rfl rfl rfl bd23 (lends_cons (lend_s (id := 3) (n := ((List.range i).map PP).length) (o := ⟨(enc eIL ((List.range i).map PP)), 48, 1⟩) rfl (enc_len (fun _ => rfl) (by first | rfl | (simp; done)))) lends_nil) ?_)
 refine mG (.b ((((riseL ((List.range i).map PP).flatten).length : Int)) == (((List.range i).map PP).flatten.length : Int))) ?_
 refine rU (upd none_ 6 (.b ((((riseL ((List.range i).map PP).flatten).length : Int)) == (((List.range i).map PP).flatten.length : Int)))) (updO (updO (updO noOb 1 (.live ⟨[.one, .q eSec ss, .q eIL pa, .q ePnt pp, .q eIL rr, .i (1 + d.speed % (2 * (10 * (1 + d.len % 20)))), .i (1 + d.mute % 1000), .i (1 + d.wait % 1000), .i cn, .i (d.stay % 4)], 39, 1⟩)) 2 (.live ⟨(Z379_0 x), 30, 1⟩)) 3 (.live ⟨(enc eIL ((List.range i).map PP)), 48, 1⟩)) ?_
 refine awp_ret ?_
 exact fret (av := .v (.bool ((((riseL ((List.range i).map PP).flatten).length : Int)) == (((List.range i).map PP).flatten.length : Int)))) rfl rfl (by first | (simp; done) | (rw [hri]; simp))
end Go.Lo
