/- Walks of Go functions in the logic of values: what the law reaches. -/
import Derived.Test.YtnjncdidiijpgaaPFnPo3
set_option linter.unusedVariables false
set_option linter.unusedSimpArgs false
set_option maxRecDepth 10000
set_option maxHeartbeats 16000000
namespace Go.Lo
open Go.Proofs
abbrev Z6k (ls : List Lk) (k : Nat) : Nat → AV := (upd (upd (upd (upd none_ 0 (.q eLk ls)) 2 vN) 3 (.sl 1 0 ((ls.take k).length))) 4 (.i (k : Int)))
abbrev Z6i (ls : List Lk) (k : Nat) : List AV := (enc eU8 ((ls.getD k dLk).pieces))
abbrev Z6h (ls : List Lk) (k : Nat) : Lk := (⟨(ls.getD k dLk).route, (ls.getD k dLk).train, (ls.getD k dLk).ends, (ls.getD k dLk).pieces⟩ : Lk)
abbrev Z6f (ls : List Lk) (k : Nat) : List AV := [.i ((ls.getD k dLk).route), .i ((ls.getD k dLk).train), .i ((ls.getD k dLk).ends), .ro ((ls.getD k dLk).pieces.length) (Z6i ls k)]
abbrev Z6j (ls : List Lk) (k : Nat) : List AV := [.i ((ls.getD k dLk).train), .i ((ls.getD k dLk).ends), .ro ((ls.getD k dLk).pieces.length) (Z6i ls k)]
abbrev Z6g (ls : List Lk) (k : Nat) : AV := (.rp (((Z6f ls k) : List AV) ++ ((enc eLk ls).drop ((k + 1) * 4))))
theorem l16_turned (ls : List Lk) (hll : ls.length ≤ 65536) : Fn Try.prog 18 [.ro ls.length (enc eLk ls)] (.ro ls.length (enc eLk ls)) := by
 refine fnE_of_body (N := 36) Try.func18 rfl rfl (resOf1 rfl) (by simp) (fun w0 X hL_ => ?_)
 refine seqR ?_
 refine mG vN ?_
 refine op0 ?_
 refine seqR ?_
 refine mG vN ?_
 refine op0 ?_
 refine awp_seq ?_
 refine seqR ?_
 refine mG (.i 0) ?_
 refine op0 ?_
 refine awp_block ?_
 refine awp_countI (fun k => ⟨(Z6k ls k), (updO noOb 1 (.live ⟨(enc eLk (ls.take k)), 64, 4⟩))⟩) (fun k => True) (ls.length) ?_ trivial (fun k hk_k hinv => ?_)
 ·skip
  refine (imp_adopt 3 51 64 4 rfl rfl).trans ?_
  exact iI 51 1 (o := ⟨[], 64, 4⟩) rfl
 have htk : (ls.take k).length = k := by rw [List.length_take]; omega
 refine awp_seq ?_
 refine seqR ?_
 refine mG (.i (k : Int)) ?_
 refine mG (.q eLk ls) ?_
 refine oG (qN ut41 ?_)
 refine bG ((.bool (decide ((k : Int) < (ls.length : Int))))) ?_
 refine rU (upd (Z6k ls k) 8 (.b (decide ((k : Int) < (ls.length : Int))))) (updO noOb 1 (.live ⟨(enc eLk (ls.take k)), 64, 4⟩)) ?_
 refine awp_cond (decide ((k : Int) < (ls.length : Int))) rfl rfl (fun hc0 => ?_) (fun hc0 => ?_)
 ·skip
  have hf1 := of_decide_eq_true hc0
  refine awp_skip ?_
  refine awp_seq ?_
  refine awp_block ?_
  refine aD 23 [(33, .ro 1 (Z6f ls k)), (32, .agg (Z6f ls k)), (31, .ro ((ls.getD k dLk).pieces.length) (Z6i ls k)), (30, .rp (([.ro ((ls.getD k dLk).pieces.length) (Z6i ls k)] : List AV) ++ ((enc eLk ls).drop ((k + 1) * 4)))), (29, .rp (((Z6f ls k) : List AV) ++ ((enc eLk ls).drop ((k + 1) * 4)))), (28, .i (k : Int)), (27, .q eLk ls), (26, .i ((ls.getD k dLk).ends)), (25, .rp (([.i ((ls.getD k dLk).ends), .ro ((ls.getD k dLk).pieces.length) (Z6i ls k)] : List AV) ++ ((enc eLk ls).drop ((k + 1) * 4)))), (24, .rp (((Z6f ls k) : List AV) ++ ((enc eLk ls).drop ((k + 1) * 4)))), (23, .i (k : Int)), (22, .q eLk ls), (21, .i ((ls.getD k dLk).train)), (20, .rp (((Z6j ls k) : List AV) ++ ((enc eLk ls).drop ((k + 1) * 4)))), (19, .rp (((Z6f ls k) : List AV) ++ ((enc eLk ls).drop ((k + 1) * 4)))), (18, .i (k : Int)), (17, .q eLk ls), (16, .i ((ls.getD k dLk).route)), (15, .rp (((Z6f ls k) : List AV) ++ ((enc eLk ls).drop ((k + 1) * 4)))), (14, .rp (((Z6f ls k) : List AV) ++ ((enc eLk ls).drop ((k + 1) * 4)))), (13, .i (k : Int)), (12, .q eLk ls), (11, .sl 1 0 ((ls.take k).length))] mixed ?_ ?_
  ·iterate 23 (refine ⟨?_, ?_⟩; rotate_left)
   trivial
   ·exact sMv
   ·exact sMv
   ·exact sMv
   ·exact (sIx dLk ut41 sz58)
   ·exact sF (Z6g ls k) (Z6g ls k) ft58_0 sz3
   ·exact (sLd ag3)
   ·exact sMv
   ·exact sMv
   ·exact (sIx dLk ut41 sz58)
   ·exact sF (Z6g ls k) (.rp (((Z6j ls k) : List AV) ++ ((enc eLk ls).drop ((k + 1) * 4)))) ft58_1 sz3
   ·exact (sLd ag3)
   ·exact sMv
   ·exact sMv
   ·exact (sIx dLk ut41 sz58)
   ·exact sF (Z6g ls k) (.rp (([.i ((ls.getD k dLk).ends), .ro ((ls.getD k dLk).pieces.length) (Z6i ls k)] : List AV) ++ ((enc eLk ls).drop ((k + 1) * 4)))) ft58_2 sz2
   ·exact (sLd ag2)
   ·exact sMv
   ·exact sMv
   ·exact (sIx dLk ut41 sz58)
   ·exact sF (Z6g ls k) (.rp (([.ro ((ls.getD k dLk).pieces.length) (Z6i ls k)] : List AV) ++ ((enc eLk ls).drop ((k + 1) * 4)))) ft58_3 sz27
   ·exact (sLd ag27)
   ·exact dW 32 fun st hob hE => aop_build rfl rfl rfl pl64 (by simp only [partsA, List.map, evA, hE 16 rfl, hE 21 rfl, hE 26 rfl, hE 31 rfl]; rfl) (by rw [hob]; rfl)
   exact dW 33 fun st hob hE => aop_lit rfl rfl rfl ut50 iz64 (by decide) (by decide) (by simp only [partsA, List.map, evA, hE 32 rfl]; rfl) rfl (by rw [hob]; rfl)
  refine oG (aop_app1 (f := eLk) (l := ls.take k) 52 (Z6h ls k) rfl rfl rfl rfl ut50 in64 rfl (by decide) rfl rfl rfl rfl rfl rfl (fun _ => rfl) rfl rfl oo oo rfl ?_)
  refine mG (.sl 52 0 (((ls.take k) ++ [(Z6h ls k)]).length)) ?_
  refine op0 ?_
  refine regR ?_
  refine mG (.i (k : Int)) ?_
  refine oG (qB (.int .i64 ((k + 1 : Nat) : Int)) (addN om) ?_)
  refine mG (.i ((k + 1 : Nat) : Int)) ?_
  refine op0 ?_
  show _ ∧ _
  have hs_ := take_snoc dLk (l := ls) (k := k) om
  refine ⟨by omega, trivial, ?_⟩
  exact iI 52 1 (o := ⟨(enc eLk ((ls.take k) ++ [(Z6h ls k)])), 64, 4⟩) rfl (he := (sS rfl (sM (by exact congrArg (AV.sl 1 0) (congrArg List.length hs_.symm)) (sS rfl (sS rfl sr_none))))) (hoo := (by exact congrArg (fun l_ => LObj.mk (enc eLk l_) 64 4) hs_))
 have hf2 := of_decide_eq_false hc0
 refine awp_exit ?_
 refine seqR ?_
 refine mG (.sl 1 0 ((ls.take k).length)) ?_
 refine mG (.sl 1 0 ((ls.take k).length)) ?_
 refine op0 ?_
 have he : ls.take k = ls := List.take_of_length_le om
 refine awp_imp _ (imp_frozen rfl (fun _ h => h) (lee_lend 2 (.q eLk (ls.take k)) (lend_s (id := 1) (n := (ls.take k).length) (o := ⟨(enc eLk (ls.take k)), 64, 4⟩) rfl (enc_len (fun _ => rfl) (by first | rfl | (simp; done)))) lee_lend0)) ?_
 refine awp_ret ?_
 exact fret (av := .ro ((ls.take k).length) (enc eLk (ls.take k))) rfl rfl (by rw [he])
abbrev Z6p : Nat → AV := (upd (upd (upd none_ 2 (.pt 2 0)) 3 (.pt 3 0)) 4 vN)
abbrev Z6o (a : List Sec) : LObj := ⟨[.one, .q eSec a, .one, .one, .one, .one, .one, .one, .one, .one], 39, 1⟩
abbrev Z6n (x : Act) : LObj := ⟨[.v (.int .u8 x.dw), .v (.int .u8 x.n), .v (.int .u8 x.tr), .q eU8 x.sts, .q eU8 x.ow, .q eB x.rt, .q eU8 x.sp, .v (.int .u8 x.tk)], 30, 1⟩
abbrev Z6m (x : Act) (k : Nat) : Nat → AV := (upd (upd Z6p 5 (.sl 1 0 ((stL x k).length))) 6 (.i (k : Int)))
abbrev Z6l (x : Act) (k : Nat) (a : List Sec) : Nat → OSt := (updO (updO (updO noOb 1 (.live ⟨(enc eU8 (stL x k)), 5, 1⟩)) 2 (.live (Z6o a))) 3 (.live (Z6n x)))
theorem l16_states (a : List Sec) (x : Act) (hs : a.length ≤ 65536) (hx : ActOk x) : Fn Try.prog 19 [.agg [.one, .ro a.length (enc eSec a), .one, .one, .one, .one, .one, .one, .one, .one], .agg [.v (.int .u8 x.dw), .v (.int .u8 x.n), .v (.int .u8 x.tr), .ro x.sts.length (enc eU8 x.sts), .ro x.ow.length (enc eU8 x.ow), .ro x.rt.length (enc eB x.rt), .ro x.sp.length (enc eU8 x.sp), .v (.int .u8 x.tk)]] (.ro ((stL x a.length).length) (enc eU8 (stL x a.length))) := by
 have hx1 := hx.dw
 have hx2 := hx.n
 have hx3 := hx.tr
 have hx4 := hx.tk
 have hx5 := hx.l1
 have hx6 := hx.l2
 have hx7 := hx.l3
 have hx8 := hx.l4
 refine fnE_of_body (N := 39) Try.func19 rfl rfl (resOf1 rfl) (by simp) (fun w0 X hL_ => ?_)
 refine seqR ?_
 refine oG (qW 51 ?_)
 refine oG (qW 52 ?_)
 refine mG vN ?_
 refine op0 ?_
 refine seqR ?_
 refine mG vN ?_
 refine rU (upd (upd (upd (upd none_ 2 (.pt 51 0)) 3 (.pt 52 0)) 4 vN) 5 vN) (updO (updO noOb 51 (.live (Z6o a))) 52 (.live (Z6n x))) ?_
 refine awp_seq ?_
 refine seqR ?_
 refine mG (.i 0) ?_
 refine op0 ?_
 refine awp_block ?_
 refine awp_countI (fun k => ⟨(Z6m x k), (Z6l x k a)⟩) (fun k => True) (a.length) ?_ trivial (fun k hk_k hinv => ?_)
 ·skip
  refine (imp_adopt 5 53 5 1 rfl rfl).trans ?_
  exact iL [(53, 1), (51, 2), (52, 3)] [((53, 1), .live _), ((51, 2), .live _), ((52, 3), .live _)] ⟨row_no (o := ⟨[], 5, 1⟩) rfl rfl, row_no rfl rfl, row_no rfl rfl, trivial⟩
 have hsl := stL_len (x := x) (k := k)
 refine awp_seq ?_
 refine seqR ?_
 refine mG (.i (k : Int)) ?_
 refine fG (.pt 2 1) ft39_1 sz35 ?_
 refine oG (qL (.q eSec a) ag35 ?_)
 refine oG (qN ut35 ?_)
 refine bG ((.bool (decide ((k : Int) < (a.length : Int))))) ?_
 refine rU (upd (Z6m x k) 12 (.b (decide ((k : Int) < (a.length : Int))))) (Z6l x k a) ?_
 refine awp_cond (decide ((k : Int) < (a.length : Int))) rfl rfl (fun hc0 => ?_) (fun hc0 => ?_)
 ·skip
  have hf1 := of_decide_eq_true hc0
  refine awp_skip ?_
  refine awp_seq ?_
  refine awp_block ?_
  refine seqR ?_
  refine mG (.v (.int .u8 0)) ?_
  refine op0 ?_
  refine awp_seq ?_
  refine seqR ?_
  refine mG (.i (k : Int)) ?_
  refine fG (.pt 3 3) ft30_3 sz27 ?_
  refine oG (qL (.q eU8 x.sts) ag27 ?_)
  refine oG (qN ut27 ?_)
  refine bG ((.bool (decide ((k : Int) < (x.sts.length : Int))))) ?_
  refine mG (.b (decide ((k : Int) < (x.sts.length : Int)))) ?_
  refine aops_grp 7 27 (.b ((decide ((k : Int) < (x.sts.length : Int))) && (decide ((x.sts.getD k 0) ≥ 128)))) ?_ ?_
  ·refine (Bool.eq_false_or_eq_true (decide ((k : Int) < (x.sts.length : Int)))).elim (fun hg2 => ?_) (fun hg2 => ?_)
   ·skip
    have hf3 := of_decide_eq_true hg2
    refine oY hg2 (qF (.pt 3 0) (.pt 3 3) ft30_3 sz27 ?_)
    refine oY hg2 (qL (.q eU8 x.sts) ag27 ?_)
    refine oY hg2 (qM (.i (k : Int)) ?_)
    refine oY hg2 (qX (0 : Int) ut27 sz5 ?_)
    refine oY hg2 (qL (.v (.int .u8 (x.sts.getD k 0))) ag5 ?_)
    refine oY hg2 (qB (.bool (decide ((x.sts.getD k 0) ≥ 128))) rfl ?_)
    refine oG (qP (decide ((k : Int) < (x.sts.length : Int))) (.b (decide ((x.sts.getD k 0) ≥ 128))) hg2 ?_)
    refine op0 ?_
    exact imp_env (lee_both 27 _ _ (by rw [hg2] <;> rfl) lO)
   have hf4 := of_decide_eq_false hg2
   refine nG hg2 ?_
   refine nG hg2 ?_
   refine nG hg2 ?_
   refine nG hg2 ?_
   refine nG hg2 ?_
   refine nG hg2 ?_
   refine oG (qP (decide ((k : Int) < (x.sts.length : Int))) (.b false) hg2 ?_)
   refine op0 ?_
   exact imp_env (lee_both 27 _ _ (by rw [hg2] <;> rfl) lO)
  refine op0 ?_
  refine rT (upd (upd (Z6m x k) 7 (.v (.int .u8 0))) 27 (.b ((decide ((k : Int) < (x.sts.length : Int))) && (decide ((x.sts.getD k 0) ≥ 128))))) (Z6l x k a) ?_
  refine cutG ⟨(upd (Z6m x k) 7 (.v (.int .u8 (stA x k)))), (Z6l x k a)⟩ (fun s h => h) ?_ ?_
  ·skip
   refine awp_cond ((decide ((k : Int) < (x.sts.length : Int))) && (decide ((x.sts.getD k 0) ≥ 128))) rfl rfl (fun hc1 => ?_) (fun hc1 => ?_)
   ·skip
    obtain ⟨hf5a, hf5b⟩ := and_t hc1
    have hf6 := of_decide_eq_true hf5a
    have hf7 := of_decide_eq_true hf5b
    have hc_ : k < x.sts.length ∧ x.sts.getD k 0 ≥ 128 := by simp only [Bool.and_eq_true, decide_eq_true_eq] at hc1; exact ⟨by omega, hc1.2⟩
    have hsb := hx.sts _ (getD_mem (l := x.sts) (k := k) 0 hc_.1)
    refine regR ?_
    refine fG (.pt 3 3) ft30_3 sz27 ?_
    refine oG (qL (.q eU8 x.sts) ag27 ?_)
    refine mG (.i (k : Int)) ?_
    refine oG (qX (0 : Int) ut27 sz5 ?_)
    refine oG (qL (.v (.int .u8 (x.sts.getD k 0))) ag5 ?_)
    refine oG (aop_binI (u := (.int .u8 ((x.sts.getD k 0) % 4))) rfl rfl rfl rfl rfl (by show _ ≠ _; decide) (remI om) ?_)
    refine mG (.v (.int .u8 ((x.sts.getD k 0) % 4))) ?_
    refine op0 ?_
    show Imp _ _ _
    exact iL [(1, 1), (2, 2), (3, 3)] [((1, 1), .live _), ((2, 2), .live _), ((3, 3), .live _)] ⟨row_no rfl rfl, row_no rfl rfl, row_no rfl rfl, trivial⟩ (he := (sS (by exact congrArg (fun n_ : Int => AV.v (.int .u8 n_)) (by first | exact stA_t hc_ | exact stA_f hc_)) (sS rfl (sM rfl (sS rfl (sM rfl (sM rfl sr_none)))))))
   have hc_ : ¬ (k < x.sts.length ∧ x.sts.getD k 0 ≥ 128) := fun h => by rw [decide_eq_true (show (k : Int) < (x.sts.length : Int) by omega), decide_eq_true h.2] at hc1; cases hc1
   refine awp_skip ?_
   show Imp _ _ _
   exact iL [(1, 1), (2, 2), (3, 3)] [((1, 1), .live _), ((2, 2), .live _), ((3, 3), .live _)] ⟨row_no rfl rfl, row_no rfl rfl, row_no rfl rfl, trivial⟩ (he := (sS (by exact congrArg (fun n_ : Int => AV.v (.int .u8 n_)) (by first | exact stA_t hc_ | exact stA_f hc_)) (sS rfl (sM rfl (sS rfl (sM rfl (sM rfl sr_none)))))))
  refine regR ?_
  refine mG (.sl 1 0 ((stL x k).length)) ?_
  refine mG (.v (.int .u8 (stA x k))) ?_
  refine oG (aop_lit rfl rfl rfl ut27 iz5 (by decide) (by decide) rfl rfl ?_)
  refine oG (aop_app1 (f := eU8) (l := stL x k) 54 (stA x k : Int) rfl rfl rfl rfl ut27 in5 rfl (by decide) rfl rfl rfl rfl rfl rfl (fun _ => rfl) rfl rfl oo oo rfl ?_)
  refine mG (.sl 54 0 (((stL x k) ++ [(stA x k : Int)]).length)) ?_
  refine op0 ?_
  refine rT (upd (upd (upd Z6p 5 (.sl 54 0 (((stL x k) ++ [(stA x k : Int)]).length))) 6 (.i (k : Int))) 7 (.v (.int .u8 (stA x k)))) (updO (updO (Z6l x k a) 1 .dead) 54 (.live ⟨(enc eU8 ((stL x k) ++ [(stA x k : Int)])), 5, 1⟩)) ?_
  refine regR ?_
  refine mG (.i (k : Int)) ?_
  refine oG (qB (.int .i64 ((k + 1 : Nat) : Int)) (addN om) ?_)
  refine mG (.i ((k + 1 : Nat) : Int)) ?_
  refine op0 ?_
  show _ ∧ _
  have hs_ := stL_step (x := x) (k := k)
  refine ⟨by omega, trivial, ?_⟩
  exact iL [(54, 1), (2, 2), (3, 3)] [((54, 1), .live _), ((2, 2), .live _), ((3, 3), .live _)] ⟨row_no rfl (by exact congrArg (fun l_ => LObj.mk (enc eU8 l_) 5 1) hs_), row_no rfl rfl, row_no rfl rfl, trivial⟩ (he := (sS rfl (sM (by exact congrArg (AV.sl 1 0) (congrArg List.length hs_.symm)) (sS rfl (sM rfl (sM rfl sr_none))))))
 have hf8 := of_decide_eq_false hc0
 refine awp_exit ?_
 refine seqR ?_
 refine mG (.sl 1 0 ((stL x k).length)) ?_
 refine mG (.sl 1 0 ((stL x k).length)) ?_
 refine op0 ?_
 refine awp_imp _ (imp_frozen rfl (fun _ h => h) (lee_lend 4 (.q eU8 (stL x k)) (lend_s (id := 1) (n := (stL x k).length) (o := ⟨(enc eU8 (stL x k)), 5, 1⟩) rfl (enc_len (fun _ => rfl) (by first | rfl | (simp; done)))) lee_lend0)) ?_
 refine awp_ret ?_
 exact fret (av := .ro ((stL x k).length) (enc eU8 (stL x k))) rfl rfl (by rw [show k = a.length by omega])
abbrev Z6u (a : List (List Int)) : LObj := ⟨[.one, .one, .q eIL a, .one, .one, .one, .one, .one, .one, .one], 39, 1⟩
abbrev Z6t : Nat → AV := (upd (upd (upd none_ 2 (.pt 2 0)) 3 (.pt 3 0)) 4 vN)
abbrev Z6s (x : Act) : LObj := ⟨[.v (.int .u8 x.dw), .v (.int .u8 x.n), .v (.int .u8 x.tr), .q eU8 x.sts, .q eU8 x.ow, .q eB x.rt, .q eU8 x.sp, .v (.int .u8 x.tk)], 30, 1⟩
abbrev Z6r (x : Act) (k : Nat) : Nat → AV := (upd (upd Z6t 5 (.sl 1 0 ((owL x k).length))) 6 (.i (k : Int)))
abbrev Z6q (x : Act) (k : Nat) (a : List (List Int)) : Nat → OSt := (updO (updO (updO noOb 1 (.live ⟨(enc eI (owL x k)), 3, 1⟩)) 2 (.live (Z6u a))) 3 (.live (Z6s x)))
theorem l16_owners (a : List (List Int)) (x : Act) (hp : a.length ≤ 65536) (hx : ActOk x) : Fn Try.prog 20 [.agg [.one, .one, .ro a.length (enc eIL a), .one, .one, .one, .one, .one, .one, .one], .agg [.v (.int .u8 x.dw), .v (.int .u8 x.n), .v (.int .u8 x.tr), .ro x.sts.length (enc eU8 x.sts), .ro x.ow.length (enc eU8 x.ow), .ro x.rt.length (enc eB x.rt), .ro x.sp.length (enc eU8 x.sp), .v (.int .u8 x.tk)]] (.ro ((owL x a.length).length) (enc eI (owL x a.length))) := by
 have hx1 := hx.dw
 have hx2 := hx.n
 have hx3 := hx.tr
 have hx4 := hx.tk
 have hx5 := hx.l1
 have hx6 := hx.l2
 have hx7 := hx.l3
 have hx8 := hx.l4
 refine fnE_of_body (N := 33) Try.func20 rfl rfl (resOf1 rfl) (by simp) (fun w0 X hL_ => ?_)
 refine seqR ?_
 refine oG (qW 51 ?_)
 refine oG (qW 52 ?_)
 refine mG vN ?_
 refine op0 ?_
 refine seqR ?_
 refine mG vN ?_
 refine rU (upd (upd (upd (upd none_ 2 (.pt 51 0)) 3 (.pt 52 0)) 4 vN) 5 vN) (updO (updO noOb 51 (.live (Z6u a))) 52 (.live (Z6s x))) ?_
 refine awp_seq ?_
 refine seqR ?_
 refine mG (.i 0) ?_
 refine op0 ?_
 refine awp_block ?_
 refine awp_countI (fun k => ⟨(Z6r x k), (Z6q x k a)⟩) (fun k => True) (a.length) ?_ trivial (fun k hk_k hinv => ?_)
 ·skip
  refine (imp_adopt 5 53 3 1 rfl rfl).trans ?_
  exact iL [(53, 1), (51, 2), (52, 3)] [((53, 1), .live _), ((51, 2), .live _), ((52, 3), .live _)] ⟨row_no (o := ⟨[], 3, 1⟩) rfl rfl, row_no rfl rfl, row_no rfl rfl, trivial⟩
 have hsl := owL_len (x := x) (k := k)
 refine awp_seq ?_
 refine seqR ?_
 refine mG (.i (k : Int)) ?_
 refine fG (.pt 2 2) ft39_2 sz36 ?_
 refine oG (qL (.q eIL a) ag36 ?_)
 refine oG (qN ut36 ?_)
 refine bG ((.bool (decide ((k : Int) < (a.length : Int))))) ?_
 refine rU (upd (Z6r x k) 12 (.b (decide ((k : Int) < (a.length : Int))))) (Z6q x k a) ?_
 refine awp_cond (decide ((k : Int) < (a.length : Int))) rfl rfl (fun hc0 => ?_) (fun hc0 => ?_)
 ·skip
  have hf1 := of_decide_eq_true hc0
  refine awp_skip ?_
  refine awp_seq ?_
  refine awp_block ?_
  refine seqR ?_
  refine mG (.i (-2)) ?_
  refine op0 ?_
  refine awp_seq ?_
  refine seqR ?_
  refine mG (.i (k : Int)) ?_
  refine fG (.pt 3 4) ft30_4 sz27 ?_
  refine oG (qL (.q eU8 x.ow) ag27 ?_)
  refine oG (qN ut27 ?_)
  refine bG ((.bool (decide ((k : Int) < (x.ow.length : Int))))) ?_
  refine rU (upd (upd (Z6r x k) 7 (.i (-2))) 19 (.b (decide ((k : Int) < (x.ow.length : Int))))) (Z6q x k a) ?_
  refine cutG ⟨(upd (Z6r x k) 7 (.i (owA x k))), (Z6q x k a)⟩ (fun s h => h) ?_ ?_
  ·skip
   refine awp_cond (decide ((k : Int) < (x.ow.length : Int))) rfl rfl (fun hc1 => ?_) (fun hc1 => ?_)
   ·skip
    have hf2 := of_decide_eq_true hc1
    have hc_ : k < x.ow.length := by omega
    have hsb := hx.ow _ (getD_mem (l := x.ow) (k := k) 0 hc_)
    refine regR ?_
    refine fG (.pt 3 4) ft30_4 sz27 ?_
    refine oG (qL (.q eU8 x.ow) ag27 ?_)
    refine mG (.i (k : Int)) ?_
    refine oG (qX (0 : Int) ut27 sz5 ?_)
    refine oG (qL (.v (.int .u8 (x.ow.getD k 0))) ag5 ?_)
    refine oG (aop_binI (u := (.int .u8 ((x.ow.getD k 0) % 5))) rfl rfl rfl rfl rfl (by show _ ≠ _; decide) (remI om) ?_)
    refine oG (aop_conv' rfl rfl rfl ut5 ut3 rfl (IntWalk.i64_in _ om) ?_)
    refine oG (qB (.int .i64 (((x.ow.getD k 0) % 5) - 2)) (subI om) ?_)
    refine mG (.i (((x.ow.getD k 0) % 5) - 2)) ?_
    refine op0 ?_
    show Imp _ _ _
    exact iL [(1, 1), (2, 2), (3, 3)] [((1, 1), .live _), ((2, 2), .live _), ((3, 3), .live _)] ⟨row_no rfl rfl, row_no rfl rfl, row_no rfl rfl, trivial⟩ (he := (sS (by exact congrArg (fun n_ : Int => AV.v (.int .i64 n_)) (by first | exact owA_t hc_ | exact owA_f hc_)) (sS rfl (sM rfl (sS rfl (sM rfl (sM rfl sr_none)))))))
   have hf3 := of_decide_eq_false hc1
   have hc_ : ¬ k < x.ow.length := by omega
   refine awp_skip ?_
   show Imp _ _ _
   exact iL [(1, 1), (2, 2), (3, 3)] [((1, 1), .live _), ((2, 2), .live _), ((3, 3), .live _)] ⟨row_no rfl rfl, row_no rfl rfl, row_no rfl rfl, trivial⟩ (he := (sS (by exact congrArg (fun n_ : Int => AV.v (.int .i64 n_)) (by first | exact owA_t hc_ | exact owA_f hc_)) (sS rfl (sM rfl (sS rfl (sM rfl (sM rfl sr_none)))))))
  refine regR ?_
  refine mG (.sl 1 0 ((owL x k).length)) ?_
  refine mG (.i (owA x k)) ?_
  refine oG (aop_lit rfl rfl rfl ut48 iz3 (by decide) (by decide) rfl rfl ?_)
  refine oG (aop_app1 (f := eI) (l := owL x k) 54 (owA x k : Int) rfl rfl rfl rfl ut48 in3 rfl (by decide) rfl rfl rfl rfl rfl rfl (fun _ => rfl) rfl rfl oo oo rfl ?_)
  refine mG (.sl 54 0 (((owL x k) ++ [(owA x k : Int)]).length)) ?_
  refine op0 ?_
  refine rT (upd (upd (upd Z6t 5 (.sl 54 0 (((owL x k) ++ [(owA x k : Int)]).length))) 6 (.i (k : Int))) 7 (.i (owA x k))) (updO (updO (Z6q x k a) 1 .dead) 54 (.live ⟨(enc eI ((owL x k) ++ [(owA x k : Int)])), 3, 1⟩)) ?_
  refine regR ?_
  refine mG (.i (k : Int)) ?_
  refine oG (qB (.int .i64 ((k + 1 : Nat) : Int)) (addN om) ?_)
  refine mG (.i ((k + 1 : Nat) : Int)) ?_
  refine op0 ?_
  show _ ∧ _
  have hs_ := owL_step (x := x) (k := k)
  refine ⟨by omega, trivial, ?_⟩
  exact iL [(54, 1), (2, 2), (3, 3)] [((54, 1), .live _), ((2, 2), .live _), ((3, 3), .live _)] ⟨row_no rfl (by exact congrArg (fun l_ => LObj.mk (enc eI l_) 3 1) hs_), row_no rfl rfl, row_no rfl rfl, trivial⟩ (he := (sS rfl (sM (by exact congrArg (AV.sl 1 0) (congrArg List.length hs_.symm)) (sS rfl (sM rfl (sM rfl sr_none))))))
 have hf4 := of_decide_eq_false hc0
 refine awp_exit ?_
 refine seqR ?_
 refine mG (.sl 1 0 ((owL x k).length)) ?_
 refine mG (.sl 1 0 ((owL x k).length)) ?_
 refine op0 ?_
 refine awp_imp _ (imp_frozen rfl (fun _ h => h) (lee_lend 4 (.q eI (owL x k)) (lend_s (id := 1) (n := (owL x k).length) (o := ⟨(enc eI (owL x k)), 3, 1⟩) rfl (enc_len (fun _ => rfl) (by first | rfl | (simp; done)))) lee_lend0)) ?_
 refine awp_ret ?_
 exact fret (av := .ro ((owL x k).length) (enc eI (owL x k))) rfl rfl (by rw [show k = a.length by omega])
abbrev Z6v (a : List Pnt) (x : Act) : Nat → OSt := (updO (updO noOb 51 (.live ⟨[.one, .one, .one, .q ePnt a, .one, .one, .one, .one, .one, .one], 39, 1⟩)) 52 (.live ⟨[.v (.int .u8 x.dw), .v (.int .u8 x.n), .v (.int .u8 x.tr), .q eU8 x.sts, .q eU8 x.ow, .q eB x.rt, .q eU8 x.sp, .v (.int .u8 x.tk)], 30, 1⟩))
theorem l16_points (a : List Pnt) (x : Act) (hp : a.length ≤ 65536) (hx : ActOk x) : Fn Try.prog 21 [.agg [.one, .one, .one, .ro a.length (enc ePnt a), .one, .one, .one, .one, .one, .one], .agg [.v (.int .u8 x.dw), .v (.int .u8 x.n), .v (.int .u8 x.tr), .ro x.sts.length (enc eU8 x.sts), .ro x.ow.length (enc eU8 x.ow), .ro x.rt.length (enc eB x.rt), .ro x.sp.length (enc eU8 x.sp), .v (.int .u8 x.tk)]] (.ro ((ptL x a.length).length) (enc eB (ptL x a.length))) := by
 have hx1 := hx.dw
 have hx2 := hx.n
 have hx3 := hx.tr
 have hx4 := hx.tk
 have hx5 := hx.l1
 have hx6 := hx.l2
 have hx7 := hx.l3
 have hx8 := hx.l4
 refine fnE_of_body (N := 20) Try.func21 rfl rfl (resOf1 rfl) (by simp) (fun w0 X hL_ => ?_)
 refine seqR ?_
 refine oG (qW 51 ?_)
 refine oG (qW 52 ?_)
 refine mG vN ?_
 refine op0 ?_
 refine awp_seq ?_
 refine seqR ?_
 refine fG (.pt 52 5) ft30_5 sz28 ?_
 refine oG (qL (.q eB x.rt) ag28 ?_)
 refine oG (qN ut28 ?_)
 refine fG (.pt 51 3) ft39_3 sz37 ?_
 refine oG (qL (.q ePnt a) ag37 ?_)
 refine oG (qN ut37 ?_)
 refine bG ((.bool (decide ((x.rt.length : Int) > (a.length : Int))))) ?_
 refine rU (upd (upd (upd (upd none_ 2 (.pt 51 0)) 3 (.pt 52 0)) 4 vN) 11 (.b (decide ((x.rt.length : Int) > (a.length : Int))))) (Z6v a x) ?_
 refine awp_cond (decide ((x.rt.length : Int) > (a.length : Int))) rfl rfl (fun hc0 => ?_) (fun hc0 => ?_)
 ·skip
  have hf1 := of_decide_eq_true hc0
  have hc_ : x.rt.length > a.length := by omega
  refine seqR ?_
  refine fG (.pt 52 5) ft30_5 sz28 ?_
  refine oG (qL (.q eB x.rt) ag28 ?_)
  refine fG (.pt 51 3) ft39_3 sz37 ?_
  refine oG (qL (.q ePnt a) ag37 ?_)
  refine oG (qN ut37 ?_)
  refine oG (aop_sliceRoN (l := 0) (hgh := a.length) (cells' := enc eB (x.rt.take a.length)) ((x.rt.take a.length)).length rfl rfl rfl ut28 sz4 rfl rfl ⟨_, rfl⟩ om oo (sliceE (f := eB) (fun _ => rfl) _ 0 _) (by simp; omega) ?_)
  refine mG (.q eB (x.rt.take a.length)) ?_
  refine rU (upd (upd none_ 3 (.pt 52 0)) 4 (.q eB (x.rt.take a.length))) (Z6v a x) ?_
  refine awp_ret ?_
  exact fret (av := .ro (((x.rt.take a.length)).length) (enc eB (x.rt.take a.length))) rfl rfl (by rw [ptL_t hc_])
 have hf2 := of_decide_eq_false hc0
 have hc_ : ¬ x.rt.length > a.length := by omega
 refine awp_skip ?_
 refine seqR ?_
 refine fG (.pt 52 5) ft30_5 sz28 ?_
 refine oG (qL (.q eB x.rt) ag28 ?_)
 refine mG (.q eB x.rt) ?_
 refine op0 ?_
 refine awp_ret ?_
 exact fret (av := .ro x.rt.length (enc eB x.rt)) rfl rfl (by rw [ptL_f hc_])
abbrev Z76 (p : Nat) : Nat → AV := (upd none_ 2 (.i (p : Int)))
abbrev Z75 (p : Nat) (c : List Int) (e : List Sec) (g : List Pnt) : Nat → AV := (upd (upd (upd (upd (Z76 p) 3 (.pt 1 0)) 6 vN) 7 (.q eI c)) 8 (.q eN (paL e g c)))
abbrev Z74 (g : List Pnt) (j : Nat) : AV := (.rp (([.i ((g.getD j dP).node), .i ((g.getD j dP).stem), .i ((g.getD j dP).left), .i ((g.getD j dP).right)] : List AV) ++ ((enc ePnt g).drop ((j + 1) * 4))))
abbrev Z73 (e : List Sec) (g : List Pnt) (t : List (List Int)) : List AV := [.one, .q eSec e, .one, .q ePnt g, .q eIL t, .one, .one, .one, .one, .one]
abbrev Z72 : LObj := ⟨[.i 0, .i 0, .i 0], 102, 1⟩
abbrev Z70 (e : List Sec) (c : List Int) (k : Nat) : List AV := [.i ((e.getD (c.getD (k + 1) 0).toNat dS).len), .i ((e.getD (c.getD (k + 1) 0).toNat dS).a), .i ((e.getD (c.getD (k + 1) 0).toNat dS).b)]
abbrev Z6z (e : List Sec) (c : List Int) (k : Nat) : List AV := [.i ((e.getD (c.getD k 0).toNat dS).len), .i ((e.getD (c.getD k 0).toNat dS).a), .i ((e.getD (c.getD k 0).toNat dS).b)]
abbrev Z6y (e : List Sec) (g : List Pnt) (t : List (List Int)) : Nat → OSt := (updO noOb 1 (.live ⟨(Z73 e g t), 39, 1⟩))
abbrev Z6x (p : Nat) (c : List Int) (e : List Sec) (g : List Pnt) (k : Nat) : Nat → AV := (upd (upd (upd (Z75 p c e g) 10 (.i (stN e g c p k))) 11 (.i (stM e g c p k))) 12 (.i (k : Int)))
abbrev Z6w (e : List Sec) (g : List Pnt) (t : List (List Int)) (c : List Int) (k : Nat) : Nat → OSt := (updO (updO (Z6y e g t) 2 (.live ⟨(Z6z e c k), 102, 1⟩)) 3 (.live ⟨(Z70 e c k), 102, 1⟩))
abbrev Z71 (p : Nat) (c : List Int) (e : List Sec) (g : List Pnt) (k j : Nat) : Nat → AV := (upd (upd (upd (upd (Z6x p c e g k) 13 (.i (kJ (e.getD (c.getD k 0).toNat dS) (e.getD (c.getD (k + 1) 0).toNat dS) g j))) 14 (.pt 2 0)) 15 (.pt 3 0)) 16 (.i (j : Int)))
theorem r15_Step (e : List Sec) (g : List Pnt) (t : List (List Int)) (r : Int) (c : List Int) (p : Nat) (hs : e.length ≤ 65536) (hp : g.length ≤ 65536) (hro : t.length ≤ 65536) (hr : 0 ≤ r ∧ r < (t.length : Int)) (hpath : t.getD r.toNat [] = c) (hpl : 1 ≤ c.length ∧ c.length ≤ 65536) (u : ∀ s, s ∈ c → 0 ≤ s ∧ s < (e.length : Int)) (hst : p ≤ 65536) : Fn Try.prog 41 [.agg [.one, .ro e.length (enc eSec e), .one, .ro g.length (enc ePnt g), .ro t.length (enc eIL t), .one, .one, .one, .one, .one], .v (.int .i64 r), .v (.int .i64 (p : Int))] (.ro ((stD e g c p).length) (enc eN (stD e g c p))) := by
 refine fnE_of_body (N := 110) Try.func41 rfl rfl (resOf1 rfl) (by simp) (fun w0 X hL_ => ?_)
 refine seqR ?_
 refine oG (qW 51 ?_)
 refine mG vN ?_
 refine op0 ?_
 refine seqR ?_
 refine fG (.pt 51 4) ft39_4 sz36 ?_
 refine oG (qL (.q eIL t) ag36 ?_)
 refine mG (.i r) ?_
 refine oG (aop_ixI [] rfl rfl rfl ut36 sz48 rfl rfl (fun _ => rfl) rfl om oo ?_)
 refine oG (aop_eqv (d := 22) (a := .q eI (t.getD r.toNat [])) (b := .q eI c) (aop_ld (av := .q eI (t.getD r.toNat [])) rfl rfl rfl ag48 rfl rfl rfl) (by rw [hpath]) ?_)
 refine mG (.q eI c) ?_
 refine rU (upd (upd (upd (Z76 p) 3 (.pt 51 0)) 6 vN) 7 (.q eI c)) (updO noOb 51 (.live ⟨(Z73 e g t), 39, 1⟩)) ?_
 refine seqR ?_
 refine oG (qLB (Z73 e g t) ag39 sz39 ?_)
 refine mG (.q eI c) ?_
 refine oG (qC (r05_Path e g c hs hp hpl.2) bd45 ?_)
 refine mG (.tup [.q eN (paL e g c), .b (paB e g c)]) ?_
 refine oG (qE ?_)
 refine oG (qE ?_)
 refine mG (.q eN (paL e g c)) ?_
 refine mG (.b (paB e g c)) ?_
 refine rU (upd (upd (upd (upd (Z76 p) 3 (.pt 51 0)) 6 vN) 7 (.q eI c)) 8 (.q eN (paL e g c))) (updO noOb 51 (.live ⟨(Z73 e g t), 39, 1⟩)) ?_
 refine seqR ?_
 refine mG (.i 0) ?_
 refine mG (.i 0) ?_
 refine op0 ?_
 refine awp_seq ?_
 refine seqR ?_
 refine mG (.i 0) ?_
 refine op0 ?_
 refine awp_block ?_
 refine awp_countI (fun k => ⟨(Z6x p c e g k), (Z6y e g t)⟩) (fun k => k ≤ c.length - 1) ((c.length - 1)) ?_ (Nat.zero_le _) (fun k hk_k hinv => ?_)
 ·skip
  exact iI 51 1 rfl
 have hnr := stN_r (secs := e) (pts := g) (path := c) (step := p) k
 have hmr := stM_r (secs := e) (pts := g) (path := c) (step := p) k
 refine awp_seq ?_
 refine seqR ?_
 refine mG (.i (k : Int)) ?_
 refine mG (.q eI c) ?_
 refine oG (qN ut48 ?_)
 refine oG (qB (.int .i64 ((c.length : Int) - 1)) (subI om) ?_)
 refine bG ((.bool (decide ((k : Int) < ((c.length : Int) - 1))))) ?_
 refine rU (upd (Z6x p c e g k) 33 (.b (decide ((k : Int) < ((c.length : Int) - 1))))) (Z6y e g t) ?_
 refine awp_cond (decide ((k : Int) < ((c.length : Int) - 1))) rfl rfl (fun hc0 => ?_) (fun hc0 => ?_)
 ·skip
  have hf1 := of_decide_eq_true hc0
  have hk1 : k + 1 < c.length := by omega
  have hs0 := u _ (getD_mem (l := c) (k := k) 0 om)
  have hs1 := u _ (getD_mem (l := c) (k := k + 1) 0 om)
  refine awp_skip ?_
  refine awp_seq ?_
  refine awp_block ?_
  refine seqR ?_
  refine mG (.i 0) ?_
  refine op0 ?_
  refine awp_seq ?_
  refine awp_drawZ (m := 20) (fun b => (updO (updO (Z6y e g t) 52 (cond (b 19) (.live ⟨(Z6z e c k), 102, 1⟩) (cond (b 17) (.live Z72) .free))) 53 (cond (b 18) (.live Z72) .free))) (updO (updO (Z6y e g t) 52 (.live ⟨(Z6z e c k), 102, 1⟩)) 53 (.live Z72)) [17, 18, 19] (funext fun id_ => by by_cases e0_ : id_ = 52 <;> by_cases e1_ : id_ = 53 <;> first | (subst e0_; rfl) | (subst e1_; rfl) | simp only [addO, updO, nbeq_ne e0_, nbeq_ne e1_, cond_false]) (fun b b' h => by simp only [h 17 (by decide), h 18 (by decide), h 19 (by decide)]) (fun b h => by simp only [h 17 (by decide), h 18 (by decide), h 19 (by decide), cond_true]) [(15, .pt 53 0), (14, .pt 52 0), (52, .agg (Z70 e c k)), (51, .rp (((Z70 e c k) : List AV) ++ ((enc eSec e).drop (((c.getD (k + 1) 0).toNat + 1) * 3)))), (50, .i (c.getD (k + 1) 0)), (49, .rp (([.i (c.getD (k + 1) 0)] : List AV) ++ ((enc eI c).drop (((k + 1) + 1) * 1)))), (48, .i ((k + 1 : Nat) : Int)), (47, .i (k : Int)), (46, .q eI c), (45, .q eSec e), (44, .pt 1 1), (43, .agg (Z6z e c k)), (42, .rp (((Z6z e c k) : List AV) ++ ((enc eSec e).drop (((c.getD k 0).toNat + 1) * 3)))), (41, .i (c.getD k 0)), (40, .rp (([.i (c.getD k 0)] : List AV) ++ ((enc eI c).drop ((k + 1) * 1)))), (39, .i (k : Int)), (38, .q eI c), (37, .q eSec e), (36, .pt 1 1)] mixed (by kernel_rfl) ?_ ?_
  ·iterate 20 (refine ⟨?_, ?_⟩; rotate_left)
   trivial
   ·exact sy_pure (by decide) (fun b => sF (.pt 1 0) (.pt 1 1) ft39_1 sz35)
   ·exact sy_pure (by decide) (fun b => sL ag35)
   ·exact sy_pure (by decide) (fun b => dW 38 fun st hob hE => aop_move (av := .q eI c) (.inl rfl) rfl rfl (hE 7 rfl) (by rw [hob]; rfl))
   ·exact sy_pure (by decide) (fun b => dW 39 fun st hob hE => aop_move (av := .i (k : Int)) (.inl rfl) rfl rfl (hE 12 rfl) (by rw [hob]; rfl))
   ·exact sy_pure (by decide) (fun b => dW 40 fun st hob hE => aop_ixE 0 rfl rfl rfl ut48 sz3 (hE 38 rfl) (hE 39 rfl) (fun _ => rfl) rfl oo (by rw [hob]; rfl))
   ·exact sy_pure (by decide) (fun b => dW 41 fun st hob hE => aop_ld (av := .i (c.getD k 0)) rfl rfl rfl ag3 (hE 40 rfl) rfl (by rw [hob]; rfl))
   ·exact sy_pure (by decide) (fun b => dW 42 fun st hob hE => aop_ixI dS rfl rfl rfl ut35 sz102 (hE 37 rfl) (hE 41 rfl) (fun _ => rfl) rfl om oo (by rw [hob]; rfl))
   ·exact sy_pure (by decide) (fun b => dW 43 fun st hob hE => aop_ldB (cells' := (Z6z e c k)) rfl rfl rfl ag102 sz102 (hE 42 rfl) rfl rfl rfl (by rw [hob]; rfl))
   ·exact sy_pure (by decide) (fun b => sF (.pt 1 0) (.pt 1 1) ft39_1 sz35)
   ·exact sy_pure (by decide) (fun b => sL ag35)
   ·exact sy_pure (by decide) (fun b => dW 46 fun st hob hE => aop_move (av := .q eI c) (.inl rfl) rfl rfl (hE 7 rfl) (by rw [hob]; rfl))
   ·exact sy_pure (by decide) (fun b => dW 47 fun st hob hE => aop_move (av := .i (k : Int)) (.inl rfl) rfl rfl (hE 12 rfl) (by rw [hob]; rfl))
   ·exact sy_pure (by decide) (fun b => sB (.int .i64 ((k + 1 : Nat) : Int)) (addN om))
   ·exact sy_pure (by decide) (fun b => dW 49 fun st hob hE => aop_ixE 0 rfl rfl rfl ut48 sz3 (hE 46 rfl) (hE 48 rfl) (fun _ => rfl) rfl oo (by rw [hob]; rfl))
   ·exact sy_pure (by decide) (fun b => dW 50 fun st hob hE => aop_ld (av := .i (c.getD (k + 1) 0)) rfl rfl rfl ag3 (hE 49 rfl) rfl (by rw [hob]; rfl))
   ·exact sy_pure (by decide) (fun b => dW 51 fun st hob hE => aop_ixI dS rfl rfl rfl ut35 sz102 (hE 45 rfl) (hE 50 rfl) (fun _ => rfl) rfl om oo (by rw [hob]; rfl))
   ·exact sy_pure (by decide) (fun b => dW 52 fun st hob hE => aop_ldB (cells' := (Z70 e c k)) rfl rfl rfl ag102 sz102 (hE 51 rfl) rfl rfl rfl (by rw [hob]; rfl))
   ·exact sy_fx (by decide) ⟨rfl, (fun d_ h_ => by cases h_ <;> exact blt_lt rfl), fun b hb_ hdep_ hcl_ st hob hE => by have hn19_ := not_yet (j := 19) (by kernel_rfl) hcl_ hb_; obtain ⟨en_, ob_⟩ := st; have hob_ : ob_ = (updO (updO (Z6y e g t) 52 .free) 53 (cond (b 18) (.live Z72) .free)) := Eq.trans hob (by simp only [hb_, hn19_, cond_false, cond_true]); subst hob_; exact aop_alloc 52 rfl rfl rfl rfl ze102 rfl ⟨rfl, fun id_ => by by_cases e0_ : id_ = 52 <;> by_cases e1_ : id_ = 53 <;> first | (subst e0_; first | rfl | (simp only [hn19_]; rfl)) | (subst e1_; first | rfl | (simp only [hn19_]; rfl)) | simp only [addO, updO, nbeq_ne e0_, nbeq_ne e1_, cond_false]⟩⟩
   ·exact sy_fx (by decide) ⟨rfl, (fun d_ h_ => by cases h_ <;> exact blt_lt rfl), fun b hb_ hdep_ hcl_ st hob hE => by obtain ⟨en_, ob_⟩ := st; have hob_ : ob_ = (updO (updO (Z6y e g t) 52 (cond (b 19) (.live ⟨(Z6z e c k), 102, 1⟩) (cond (b 17) (.live Z72) .free))) 53 .free) := Eq.trans hob (by simp only [hb_, cond_false, cond_true]); subst hob_; exact aop_alloc 53 rfl rfl rfl rfl ze102 rfl ⟨rfl, fun id_ => by by_cases e0_ : id_ = 52 <;> by_cases e1_ : id_ = 53 <;> first | (subst e0_; rfl) | (subst e1_; rfl) | simp only [addO, updO, nbeq_ne e0_, nbeq_ne e1_, cond_false]⟩⟩
   exact sy_fx (by decide) ⟨rfl, (fun d_ h_ => by cases h_ <;> exact blt_lt rfl), fun b hb_ hdep_ hcl_ st hob hE => by have hd17_ := dep_of (j := 17) (by kernel_rfl) hdep_; obtain ⟨en_, ob_⟩ := st; have hob_ : ob_ = (updO (updO (Z6y e g t) 52 (.live Z72)) 53 (cond (b 18) (.live Z72) .free)) := Eq.trans hob (by simp only [hb_, hd17_, cond_false, cond_true]); subst hob_; exact aop_store rfl rfl rfl sz102 (hE 14 rfl) rfl (hE 43 rfl) rfl rfl (Nat.le_of_ble_eq_true rfl) rfl rfl ⟨rfl, fun id_ => by by_cases e0_ : id_ = 52 <;> by_cases e1_ : id_ = 53 <;> first | (subst e0_; rfl) | (subst e1_; rfl) | simp only [addO, updO, nbeq_ne e0_, nbeq_ne e1_, cond_false]⟩⟩
  refine oG (qS sz102 ?_)
  refine op0 ?_
  refine awp_seq ?_
  refine seqR ?_
  refine mG (.i 0) ?_
  refine op0 ?_
  refine awp_block ?_
  refine awp_countI (fun j => ⟨(Z71 p c e g k j), (Z6w e g t c k)⟩) (fun j => True) (g.length) ?_ trivial (fun j hk_j hinv => ?_)
  ·skip
   exact iL [(1, 1), (52, 2), (53, 3)] [((1, 1), .live _), ((52, 2), .live _), ((53, 3), .live _)] ⟨row_no rfl rfl, row_no (o := ⟨(Z6z e c k), 102, 1⟩) rfl rfl, row_no (o := ⟨(Z70 e c k), 102, 1⟩) rfl rfl, trivial⟩
  have hkj := kJ_r (A := (e.getD (c.getD k 0).toNat dS)) (B := (e.getD (c.getD (k + 1) 0).toNat dS)) (pts := g) (j := j)
  refine awp_seq ?_
  refine seqR ?_
  refine mG (.i (j : Int)) ?_
  refine fG (.pt 1 3) ft39_3 sz37 ?_
  refine oG (qL (.q ePnt g) ag37 ?_)
  refine oG (qN ut37 ?_)
  refine bG ((.bool (decide ((j : Int) < (g.length : Int))))) ?_
  refine rU (upd (Z71 p c e g k j) 57 (.b (decide ((j : Int) < (g.length : Int))))) (Z6w e g t c k) ?_
  refine awp_cond (decide ((j : Int) < (g.length : Int))) rfl rfl (fun hc1 => ?_) (fun hc1 => ?_)
  ·skip
   have hf2 := of_decide_eq_true hc1
   refine awp_skip ?_
   refine awp_seq ?_
   refine awp_block ?_
   refine seqR ?_
   refine fG (.pt 1 3) ft39_3 sz37 ?_
   refine oG (qL (.q ePnt g) ag37 ?_)
   refine mG (.i (j : Int)) ?_
   refine oG (qX dP ut37 sz100 ?_)
   refine oG (qF (Z74 g j) (Z74 g j) ft100_0 sz3 ?_)
   refine oG (qL (.i ((g.getD j dP).node)) ag3 ?_)
   refine mG (.i ((g.getD j dP).node)) ?_
   refine rU (upd (Z71 p c e g k j) 17 (.i ((g.getD j dP).node))) (Z6w e g t c k) ?_
   refine seqR ?_
   refine fG (.pt 2 1) ft102_1 sz3 ?_
   refine oG (qL (.i ((e.getD (c.getD k 0).toNat dS).a)) ag3 ?_)
   refine mG (.i ((g.getD j dP).node)) ?_
   refine bG ((.bool (((e.getD (c.getD k 0).toNat dS).a) == ((g.getD j dP).node)))) ?_
   refine mG (.b (((e.getD (c.getD k 0).toNat dS).a) == ((g.getD j dP).node))) ?_
   refine aops_grp 5 75 (.b ((((e.getD (c.getD k 0).toNat dS).a) == ((g.getD j dP).node)) || (((e.getD (c.getD k 0).toNat dS).b) == ((g.getD j dP).node)))) ?_ ?_
   ·refine (Bool.eq_false_or_eq_true (((e.getD (c.getD k 0).toNat dS).a) == ((g.getD j dP).node))).elim (fun hg3 => ?_) (fun hg3 => ?_)
    ·skip
     have hf4 := (beq_iff_eq).1 hg3
     refine nG hg3 ?_
     refine nG hg3 ?_
     refine nG hg3 ?_
     refine nG hg3 ?_
     refine oG (qP (((e.getD (c.getD k 0).toNat dS).a) == ((g.getD j dP).node)) (.b true) hg3 ?_)
     refine op0 ?_
     exact imp_env (lee_both 75 _ _ (by rw [hg3] <;> rfl) lO)
    have hf5 := (beq_eq_false_iff_ne).1 hg3
    refine oY hg3 (qF (.pt 2 0) (.pt 2 2) ft102_2 sz3 ?_)
    refine oY hg3 (qL (.i ((e.getD (c.getD k 0).toNat dS).b)) ag3 ?_)
    refine oY hg3 (qM (.i ((g.getD j dP).node)) ?_)
    refine oY hg3 (qB (.bool (((e.getD (c.getD k 0).toNat dS).b) == ((g.getD j dP).node))) rfl ?_)
    refine oG (qP (((e.getD (c.getD k 0).toNat dS).a) == ((g.getD j dP).node)) (.b (((e.getD (c.getD k 0).toNat dS).b) == ((g.getD j dP).node))) hg3 ?_)
    refine op0 ?_
    exact imp_env (lee_both 75 _ _ (by rw [hg3] <;> rfl) lO)
   refine mG (.b ((((e.getD (c.getD k 0).toNat dS).a) == ((g.getD j dP).node)) || (((e.getD (c.getD k 0).toNat dS).b) == ((g.getD j dP).node)))) ?_
   refine aops_grp 11 87 (.b (((((e.getD (c.getD k 0).toNat dS).a) == ((g.getD j dP).node)) || (((e.getD (c.getD k 0).toNat dS).b) == ((g.getD j dP).node))) && ((((e.getD (c.getD (k + 1) 0).toNat dS).a) == ((g.getD j dP).node)) || (((e.getD (c.getD (k + 1) 0).toNat dS).b) == ((g.getD j dP).node))))) ?_ ?_
   ·refine (Bool.eq_false_or_eq_true ((((e.getD (c.getD k 0).toNat dS).a) == ((g.getD j dP).node)) || (((e.getD (c.getD k 0).toNat dS).b) == ((g.getD j dP).node)))).elim (fun hg6 => ?_) (fun hg6 => ?_)
    ·skip
     refine oY hg6 (qF (.pt 3 0) (.pt 3 1) ft102_1 sz3 ?_)
     refine oY hg6 (qL (.i ((e.getD (c.getD (k + 1) 0).toNat dS).a)) ag3 ?_)
     refine oY hg6 (qM (.i ((g.getD j dP).node)) ?_)
     refine oY hg6 (qB (.bool (((e.getD (c.getD (k + 1) 0).toNat dS).a) == ((g.getD j dP).node))) rfl ?_)
     refine oY hg6 (qM (.b (((e.getD (c.getD (k + 1) 0).toNat dS).a) == ((g.getD j dP).node))) ?_)
     refine aops_grp 5 86 (.b ((((e.getD (c.getD (k + 1) 0).toNat dS).a) == ((g.getD j dP).node)) || (((e.getD (c.getD (k + 1) 0).toNat dS).b) == ((g.getD j dP).node)))) ?_ ?_
     ·refine (Bool.eq_false_or_eq_true (((e.getD (c.getD (k + 1) 0).toNat dS).a) == ((g.getD j dP).node))).elim (fun hg7 => ?_) (fun hg7 => ?_)
      ·skip
       have hf8 := (beq_iff_eq).1 hg7
       refine nG hg7 ?_
       refine nG hg7 ?_
       refine nG hg7 ?_
       refine nG hg7 ?_
       refine oY hg6 (qP (((e.getD (c.getD (k + 1) 0).toNat dS).a) == ((g.getD j dP).node)) (.b true) hg7 ?_)
       refine op0 ?_
       exact imp_env (lee_both 86 _ _ (by rw [hg7] <;> rfl) lO)
      have hf9 := (beq_eq_false_iff_ne).1 hg7
      refine oY hg7 (qF (.pt 3 0) (.pt 3 2) ft102_2 sz3 ?_)
      refine oY hg7 (qL (.i ((e.getD (c.getD (k + 1) 0).toNat dS).b)) ag3 ?_)
      refine oY hg7 (qM (.i ((g.getD j dP).node)) ?_)
      refine oY hg7 (qB (.bool (((e.getD (c.getD (k + 1) 0).toNat dS).b) == ((g.getD j dP).node))) rfl ?_)
      refine oY hg6 (qP (((e.getD (c.getD (k + 1) 0).toNat dS).a) == ((g.getD j dP).node)) (.b (((e.getD (c.getD (k + 1) 0).toNat dS).b) == ((g.getD j dP).node))) hg7 ?_)
      refine op0 ?_
      exact imp_env (lee_both 86 _ _ (by rw [hg7] <;> rfl) lO)
     refine oG (qP ((((e.getD (c.getD k 0).toNat dS).a) == ((g.getD j dP).node)) || (((e.getD (c.getD k 0).toNat dS).b) == ((g.getD j dP).node))) (.b ((((e.getD (c.getD (k + 1) 0).toNat dS).a) == ((g.getD j dP).node)) || (((e.getD (c.getD (k + 1) 0).toNat dS).b) == ((g.getD j dP).node)))) hg6 ?_)
     refine op0 ?_
     exact imp_env (lee_both 87 _ _ (by rw [hg6] <;> rfl) lO)
    obtain ⟨hf10a, hf10b⟩ := or_f hg6
    have hf11 := (beq_eq_false_iff_ne).1 hf10a
    have hf12 := (beq_eq_false_iff_ne).1 hf10b
    refine nG hg6 ?_
    refine nG hg6 ?_
    refine nG hg6 ?_
    refine nG hg6 ?_
    refine nG hg6 ?_
    refine opN rfl rfl rfl rfl (by intro h; cases h) rfl rfl ?_
    refine opN rfl rfl rfl rfl (by intro h; cases h) rfl rfl ?_
    refine opN rfl rfl rfl rfl (by intro h; cases h) rfl rfl ?_
    refine opN rfl rfl rfl rfl (by intro h; cases h) rfl rfl ?_
    refine nG hg6 ?_
    refine oG (qP ((((e.getD (c.getD k 0).toNat dS).a) == ((g.getD j dP).node)) || (((e.getD (c.getD k 0).toNat dS).b) == ((g.getD j dP).node))) (.b false) hg6 ?_)
    refine op0 ?_
    exact imp_env (lee_both 87 _ _ (by rw [hg6] <;> rfl) lO)
   refine op0 ?_
   refine rT (upd (upd (Z71 p c e g k j) 17 (.i ((g.getD j dP).node))) 87 (.b (((((e.getD (c.getD k 0).toNat dS).a) == ((g.getD j dP).node)) || (((e.getD (c.getD k 0).toNat dS).b) == ((g.getD j dP).node))) && ((((e.getD (c.getD (k + 1) 0).toNat dS).a) == ((g.getD j dP).node)) || (((e.getD (c.getD (k + 1) 0).toNat dS).b) == ((g.getD j dP).node)))))) (Z6w e g t c k) ?_
   refine cutG ⟨(upd (upd (upd (upd (upd (Z6x p c e g k) 13 (.i (kJ (e.getD (c.getD k 0).toNat dS) (e.getD (c.getD (k + 1) 0).toNat dS) g (j + 1)))) 14 (.pt 2 0)) 15 (.pt 3 0)) 16 (.i (j : Int))) 17 (.i ((g.getD j dP).node))), (Z6w e g t c k)⟩ (fun s h => h) ?_ ?_
   ·skip
    refine awp_cond (((((e.getD (c.getD k 0).toNat dS).a) == ((g.getD j dP).node)) || (((e.getD (c.getD k 0).toNat dS).b) == ((g.getD j dP).node))) && ((((e.getD (c.getD (k + 1) 0).toNat dS).a) == ((g.getD j dP).node)) || (((e.getD (c.getD (k + 1) 0).toNat dS).b) == ((g.getD j dP).node)))) rfl rfl (fun hc2 => ?_) (fun hc2 => ?_)
    ·skip
     obtain ⟨hf13a, hf13b⟩ := and_t hc2
     have htw : twF (e.getD (c.getD k 0).toNat dS) (e.getD (c.getD (k + 1) 0).toNat dS) (g.getD j dP) = true := hc2
     refine regR ?_
     refine mG (.i 1) ?_
     refine op0 ?_
     show Imp _ _ _
     exact iL [(1, 1), (2, 2), (3, 3)] [((1, 1), .live _), ((2, 2), .live _), ((3, 3), .live _)] ⟨row_no rfl rfl, row_no rfl rfl, row_no rfl rfl, trivial⟩ (he := (sS rfl (sS rfl (sM rfl (sM rfl (sS (by exact congrArg (fun n_ : Int => AV.v (.int .i64 n_)) (by first | exact kJ_t om htw | exact kJ_f om htw)) (sS rfl (sS rfl (sS rfl (sS rfl (sS rfl (sS rfl (sM rfl (sS rfl sr_none))))))))))))))
    have htw : twF (e.getD (c.getD k 0).toNat dS) (e.getD (c.getD (k + 1) 0).toNat dS) (g.getD j dP) = false := hc2
    refine awp_skip ?_
    show Imp _ _ _
    exact iL [(1, 1), (2, 2), (3, 3)] [((1, 1), .live _), ((2, 2), .live _), ((3, 3), .live _)] ⟨row_no rfl rfl, row_no rfl rfl, row_no rfl rfl, trivial⟩ (he := (sS rfl (sS rfl (sM rfl (sM rfl (sS (by exact congrArg (fun n_ : Int => AV.v (.int .i64 n_)) (by first | exact kJ_t om htw | exact kJ_f om htw)) (sS rfl (sS rfl (sS rfl (sS rfl (sS rfl (sS rfl (sM rfl (sS rfl sr_none))))))))))))))
   refine regR ?_
   refine mG (.i (j : Int)) ?_
   refine oG (qB (.int .i64 ((j + 1 : Nat) : Int)) (addN om) ?_)
   refine mG (.i ((j + 1 : Nat) : Int)) ?_
   refine op0 ?_
   show _ ∧ _
   refine ⟨by omega, trivial, ?_⟩
   exact iL [(1, 1), (2, 2), (3, 3)] [((1, 1), .live _), ((2, 2), .live _), ((3, 3), .live _)] ⟨row_no rfl rfl, row_no rfl rfl, row_no rfl rfl, trivial⟩
  have hf14 := of_decide_eq_false hc1
  have hjk : (kJ (e.getD (c.getD k 0).toNat dS) (e.getD (c.getD (k + 1) 0).toNat dS) g j) = (kV e g c k) := by unfold kV; rw [show j = g.length by omega]
  refine awp_exit ?_
  refine awp_seq ?_
  refine seqR ?_
  refine mG (.i (k : Int)) ?_
  refine mG (.i (p : Int)) ?_
  refine bG ((.bool (decide ((k : Int) < (p : Int))))) ?_
  refine op0 ?_
  refine cutG ⟨(upd (upd (upd (upd (upd (Z75 p c e g) 10 (.i (stN e g c p (k + 1)))) 11 (.i (stM e g c p k))) 12 (.i (k : Int))) 13 (.i (kV e g c k))) 16 (.i (j : Int))), (Z6y e g t)⟩ (fun s h => h) ?_ ?_
  ·skip
   refine awp_cond (decide ((k : Int) < (p : Int))) rfl rfl (fun hc3 => ?_) (fun hc3 => ?_)
   ·skip
    have hf15 := of_decide_eq_true hc3
    refine regR ?_
    refine mG (.i (stN e g c p k)) ?_
    refine mG (.i (kJ (e.getD (c.getD k 0).toNat dS) (e.getD (c.getD (k + 1) 0).toNat dS) g j)) ?_
    refine oG (qB (.int .i64 ((stN e g c p k) + (kJ (e.getD (c.getD k 0).toNat dS) (e.getD (c.getD (k + 1) 0).toNat dS) g j))) (addI om) ?_)
    refine mG (.i ((stN e g c p k) + (kJ (e.getD (c.getD k 0).toNat dS) (e.getD (c.getD (k + 1) 0).toNat dS) g j))) ?_
    refine op0 ?_
    show Imp _ _ _
    exact iI 1 1 rfl (he := (sS rfl (sS (by exact congrArg (fun n_ : Int => AV.v (.int .i64 n_)) hjk) (sS rfl (sS rfl (sS (by exact congrArg (fun n_ : Int => AV.v (.int .i64 n_)) (by first | (rw [hjk]; exact stN_t om) | exact stN_f om)) (sS rfl (sS rfl (sS rfl (sM rfl (sS rfl sr_none)))))))))))
   have hf16 := of_decide_eq_false hc3
   refine awp_skip ?_
   show Imp _ _ _
   exact iI 1 1 rfl (he := (sS rfl (sS (by exact congrArg (fun n_ : Int => AV.v (.int .i64 n_)) hjk) (sS rfl (sS rfl (sS (by exact congrArg (fun n_ : Int => AV.v (.int .i64 n_)) (by first | (rw [hjk]; exact stN_t om) | exact stN_f om)) (sS rfl (sS rfl (sS rfl (sM rfl (sS rfl sr_none)))))))))))
  refine seqR ?_
  refine mG (.i (k : Int)) ?_
  refine mG (.i (p : Int)) ?_
  refine bG ((.bool ((k : Int) == (p : Int)))) ?_
  refine op0 ?_
  refine cutG ⟨(upd (upd (upd (upd (upd (Z75 p c e g) 10 (.i (stN e g c p (k + 1)))) 11 (.i (stM e g c p (k + 1)))) 12 (.i (k : Int))) 13 (.i (kV e g c k))) 16 (.i (j : Int))), (Z6y e g t)⟩ (fun s h => h) ?_ ?_
  ·skip
   refine awp_cond ((k : Int) == (p : Int)) rfl rfl (fun hc4 => ?_) (fun hc4 => ?_)
   ·skip
    have hf17 := (beq_iff_eq).1 hc4
    refine regR ?_
    refine mG (.i (kV e g c k)) ?_
    refine mG (.i (kV e g c k)) ?_
    refine op0 ?_
    show Imp _ _ _
    exact iI 1 1 rfl (he := (sS rfl (sS rfl (sS rfl (sS (by exact congrArg (fun n_ : Int => AV.v (.int .i64 n_)) (by first | exact stM_t om | exact stM_f om)) (sS rfl (sS rfl (sS rfl (sS rfl (sM rfl (sS rfl sr_none)))))))))))
   have hf18 := (beq_eq_false_iff_ne).1 hc4
   refine awp_skip ?_
   show Imp _ _ _
   exact iI 1 1 rfl (he := (sS rfl (sS rfl (sS rfl (sS (by exact congrArg (fun n_ : Int => AV.v (.int .i64 n_)) (by first | exact stM_t om | exact stM_f om)) (sS rfl (sS rfl (sS rfl (sS rfl (sM rfl (sS rfl sr_none)))))))))))
  refine regR ?_
  refine mG (.i (k : Int)) ?_
  refine oG (qB (.int .i64 ((k + 1 : Nat) : Int)) (addN om) ?_)
  refine mG (.i ((k + 1 : Nat) : Int)) ?_
  refine op0 ?_
  show _ ∧ _
  refine ⟨by omega, om, ?_⟩
  exact iI 1 1 rfl
 have hf19 := of_decide_eq_false hc0
 have hke : k = c.length - 1 := by omega
 obtain ⟨N_, hN⟩ : ∃ n : Nat, (n : Int) = (stN e g c p k) := ⟨_, Int.toNat_of_nonneg hnr.1⟩
 obtain ⟨M_, hM⟩ : ∃ n : Nat, (n : Int) = (stM e g c p k) := ⟨_, Int.toNat_of_nonneg hmr.1⟩
 refine awp_exit ?_
 refine awp_seq ?_
 refine awp_imp ⟨(upd (upd (upd (upd (upd (upd (upd (Z76 p) 6 vN) 7 (.q eI c)) 8 (.q eN (paL e g c))) 10 (.i (N_ : Int))) 11 (.i (M_ : Int))) 12 (.i (k : Int))) 33 (.b (decide ((k : Int) < ((c.length : Int) - 1))))), noOb⟩ ?_ ?_
 ·skip
  refine (frz_ [] [] rfl (fun _ h => h) trivial (fz_same 33 (.b (decide ((k : Int) < ((c.length : Int) - 1)))) rfl (fz_same 12 (.i (k : Int)) rfl (fz_same 11 (.i (stM e g c p k)) rfl (fz_same 10 (.i (stN e g c p k)) rfl (fz_same 8 (.q eN (paL e g c)) rfl (fz_same 7 (.q eI c) rfl (fz_same 6 vN rfl (fz_same 2 (.i (p : Int)) rfl fz_none))))))))).trans ?_
  exact iN (he := (sS rfl (sS rfl (sS (by exact congrArg (fun n_ : Int => AV.v (.int .i64 n_)) hM.symm) (sS (by exact congrArg (fun n_ : Int => AV.v (.int .i64 n_)) hN.symm) (sS rfl (sS rfl (sS rfl (sS rfl sr_none)))))))))
 refine seqR ?_
 refine mG (.i (N_ : Int)) ?_
 refine mG (.i (M_ : Int)) ?_
 refine oG (qB (.int .i64 ((N_ : Int) + (M_ : Int))) (addI om) ?_)
 refine mG (.q eN (paL e g c)) ?_
 refine oG (qN ut91 ?_)
 refine bG ((.bool (decide (((N_ : Int) + (M_ : Int)) > ((paL e g c).length : Int))))) ?_
 refine rU (upd (upd (upd (upd (upd none_ 6 vN) 8 (.q eN (paL e g c))) 10 (.i (N_ : Int))) 11 (.i (M_ : Int))) 103 (.b (decide (((N_ : Int) + (M_ : Int)) > ((paL e g c).length : Int))))) noOb ?_
 refine awp_cond (decide (((N_ : Int) + (M_ : Int)) > ((paL e g c).length : Int))) rfl rfl (fun hc5 => ?_) (fun hc5 => ?_)
 ·skip
  have hf20 := of_decide_eq_true hc5
  refine seqR ?_
  refine mG vN ?_
  refine op0 ?_
  refine awp_imp _ (imp_frozen rfl (fun _ h => h) (lee_lend 6 (.ro 0 []) .nil lee_lend0)) ?_
  refine awp_ret ?_
  exact fret (av := .ro 0 []) rfl rfl (by unfold stD; rw [if_pos (by rw [← hke]; omega)]; rfl)
 have hf21 := of_decide_eq_false hc5
 refine awp_skip ?_
 refine seqR ?_
 refine mG (.q eN (paL e g c)) ?_
 refine mG (.i (N_ : Int)) ?_
 refine mG (.i (N_ : Int)) ?_
 refine mG (.i (M_ : Int)) ?_
 refine oG (qB (.int .i64 ((N_ + M_ : Nat) : Int)) (addNN om) ?_)
 refine oG (aop_sliceRo (l := N_) (hgh := N_ + M_) (cells' := enc eN (((paL e g c).take (N_ + M_)).drop N_)) rfl rfl rfl ut91 sz110 rfl ⟨_, rfl⟩ ⟨_, rfl⟩ oo oo (sliceE (f := eN) (fun _ => rfl) _ _ _) ?_)
 refine mG (.ro ((N_ + M_) - N_) (enc eN (((paL e g c).take (N_ + M_)).drop N_))) ?_
 refine rU (upd none_ 6 (.ro ((N_ + M_) - N_) (enc eN (((paL e g c).take (N_ + M_)).drop N_)))) noOb ?_
 refine awp_ret ?_
 have e_ : stD e g c p = ((paL e g c).take (N_ + M_)).drop N_ := by unfold stD; rw [if_neg (by rw [← hke]; omega), ← hke, ← hN, ← hM, show ((N_ : Int) + (M_ : Int)).toNat = N_ + M_ by omega, show ((N_ : Int)).toNat = N_ by omega]
 have l_ : (stD e g c p).length = N_ + M_ - N_ := by rw [e_, List.length_drop, List.length_take]; omega
 exact fret (av := .ro ((N_ + M_) - N_) (enc eN (((paL e g c).take (N_ + M_)).drop N_))) rfl rfl (by rw [l_, e_])
theorem ag58 : aggT Try.prog 58 = some true := by kernel_rfl
theorem bd41 : bodied Try.prog 41 = true := by kernel_rfl
theorem bd44 : bodied Try.prog 44 = true := by kernel_rfl
theorem ft69_2 : fieldT Try.prog 69 2 = some (48, 2) := by kernel_rfl
theorem in58 : (Try.prog.info? 58).map (fun i => (i.zero, i.size, i.bytes)) = some (some (.agg #[(.int .i64 0), (.int .i64 0), (.int .i64 0), (.slice none 0 0)]), 4, 48) := by kernel_rfl
theorem iz4 : (Try.prog.info? 4).map (fun i => (i.zero, i.size)) = some (some (.bool false), 1) := by kernel_rfl
theorem iz58 : (Try.prog.info? 58).map (fun i => (i.zero, i.size)) = some (some (.agg #[(.int .i64 0), (.int .i64 0), (.int .i64 0), (.slice none 0 0)]), 4) := by kernel_rfl
theorem ze58 : (Try.prog.info? 58).bind (·.zero) = some (.agg #[(.int .i64 0), (.int .i64 0), (.int .i64 0), (.slice none 0 0)]) := by kernel_rfl
abbrev Z79 (ls : List Lk) : Nat → AV := (upd (upd (upd none_ 1 (.q eLk ls)) 2 (.pt 2 0)) 4 vN)
abbrev Z78 (c : List Sec) (a : List (List Int)) : List AV := [.one, .q eSec c, .one, .one, .q eIL a, .one, .one, .one, .one, .one]
abbrev Z77 (a : List (List Int)) (ls : List Lk) (k : Nat) (c : List Sec) : Nat → OSt := (updO (updO noOb 1 (.live ⟨(enc eB (secL a ls k)), 4, 1⟩)) 2 (.live ⟨(Z78 c a), 39, 1⟩))
theorem r15_Sections (c : List Sec) (a : List (List Int)) (ls : List Lk) (hs : c.length ≤ 65536) (hro : a.length ≤ 65536) (hll : ls.length ≤ 65536) (hlk : ∀ x, x ∈ ls → LkR a x) : Fn Try.prog 47 [.agg [.one, .ro c.length (enc eSec c), .one, .one, .ro a.length (enc eIL a), .one, .one, .one, .one, .one], .ro ls.length (enc eLk ls)] (.ro ((secL a ls c.length).length) (enc eB (secL a ls c.length))) := by
 refine fnE_of_body (N := 23) Try.func47 rfl rfl (resOf1 rfl) (by simp) (fun w0 X hL_ => ?_)
 refine seqR ?_
 refine oG (qW 51 ?_)
 refine mG vN ?_
 refine op0 ?_
 refine seqR ?_
 refine mG vN ?_
 refine op0 ?_
 refine awp_seq ?_
 refine seqR ?_
 refine mG (.i 0) ?_
 refine rU (upd (upd (upd (upd (upd none_ 1 (.q eLk ls)) 2 (.pt 51 0)) 4 vN) 5 vN) 6 (.i 0)) (updO noOb 51 (.live ⟨(Z78 c a), 39, 1⟩)) ?_
 refine awp_block ?_
 refine awp_countI (fun k => ⟨(upd (upd (Z79 ls) 5 (.sl 1 0 ((secL a ls k).length))) 6 (.i (k : Int))), (Z77 a ls k c)⟩) (fun k => True) (c.length) ?_ trivial (fun k hk_k hinv => ?_)
 ·skip
  refine (imp_adopt 5 52 4 1 rfl rfl).trans ?_
  exact iL [(52, 1), (51, 2)] [((52, 1), .live _), ((51, 2), .live _)] ⟨row_no (o := ⟨[], 4, 1⟩) rfl rfl, row_no rfl rfl, trivial⟩
 have hsl := secL_len (routes := a) (ls := ls) (n := k)
 refine awp_seq ?_
 refine seqR ?_
 refine mG (.i (k : Int)) ?_
 refine fG (.pt 2 1) ft39_1 sz35 ?_
 refine oG (qL (.q eSec c) ag35 ?_)
 refine oG (qN ut35 ?_)
 refine bG ((.bool (decide ((k : Int) < (c.length : Int))))) ?_
 refine rU (upd (upd (upd (Z79 ls) 5 (.sl 1 0 ((secL a ls k).length))) 6 (.i (k : Int))) 11 (.b (decide ((k : Int) < (c.length : Int))))) (Z77 a ls k c) ?_
 refine awp_cond (decide ((k : Int) < (c.length : Int))) rfl rfl (fun hc0 => ?_) (fun hc0 => ?_)
 ·skip
  have hf1 := of_decide_eq_true hc0
  refine awp_skip ?_
  refine awp_seq ?_
  refine awp_block ?_
  refine regR ?_
  refine mG (.sl 1 0 ((secL a ls k).length)) ?_
  refine oG (qLB (Z78 c a) ag39 sz39 ?_)
  refine mG (.q eLk ls) ?_
  refine mG (.i (k : Int)) ?_
  refine oG (qC (r15_Whose a ls (k : Int) oo oo oo) bd44 ?_)
  refine bG ((.bool (decide ((whoseL a ls (k : Int)) ≥ 0)))) ?_
  refine oG (aop_lit rfl rfl rfl ut28 iz4 (by decide) (by decide) rfl rfl ?_)
  refine oG (aop_app1 (f := eB) (l := secL a ls k) 53 (decide ((whoseL a ls (k : Int)) ≥ 0) : Bool) rfl rfl rfl rfl ut28 in4 rfl (by decide) rfl rfl rfl rfl rfl rfl (fun _ => rfl) rfl rfl oo oo rfl ?_)
  refine mG (.sl 53 0 (((secL a ls k) ++ [(decide ((whoseL a ls (k : Int)) ≥ 0) : Bool)]).length)) ?_
  refine op0 ?_
  refine rT (upd (upd (Z79 ls) 5 (.sl 53 0 (((secL a ls k) ++ [(decide ((whoseL a ls (k : Int)) ≥ 0) : Bool)]).length))) 6 (.i (k : Int))) (updO (updO (Z77 a ls k c) 1 .dead) 53 (.live ⟨(enc eB ((secL a ls k) ++ [(decide ((whoseL a ls (k : Int)) ≥ 0) : Bool)])), 4, 1⟩)) ?_
  refine regR ?_
  refine mG (.i (k : Int)) ?_
  refine oG (qB (.int .i64 ((k + 1 : Nat) : Int)) (addN om) ?_)
  refine mG (.i ((k + 1 : Nat) : Int)) ?_
  refine op0 ?_
  show _ ∧ _
  have hs_ := secL_step (routes := a) (ls := ls) (n := k)
  refine ⟨by omega, trivial, ?_⟩
  exact iL [(53, 1), (2, 2)] [((53, 1), .live _), ((2, 2), .live _)] ⟨row_no rfl (by exact congrArg (fun l_ => LObj.mk (enc eB l_) 4 1) hs_), row_no rfl rfl, trivial⟩ (he := (sS rfl (sM (by exact congrArg (AV.sl 1 0) (congrArg List.length hs_.symm)) (sS rfl (sM rfl (sS rfl sr_none))))))
 have hf2 := of_decide_eq_false hc0
 refine awp_exit ?_
 refine seqR ?_
 refine mG (.sl 1 0 ((secL a ls k).length)) ?_
 refine mG (.sl 1 0 ((secL a ls k).length)) ?_
 refine op0 ?_
 refine awp_imp _ (imp_frozen rfl (fun _ h => h) (lee_lend 4 (.q eB (secL a ls k)) (lend_s (id := 1) (n := (secL a ls k).length) (o := ⟨(enc eB (secL a ls k)), 4, 1⟩) rfl (enc_len (fun _ => rfl) (by first | rfl | (simp; done)))) lee_lend0)) ?_
 refine awp_ret ?_
 exact fret (av := .ro ((secL a ls k).length) (enc eB (secL a ls k))) rfl rfl (by rw [show k = c.length by omega])
abbrev Z7k (ls : List Lk) (i : Nat) : AV := (.ro ((ls.getD i dLk).pieces.length) (enc eU8 ((ls.getD i dLk).pieces)))
abbrev Z7j (ls : List Lk) : Nat → AV := (upd (upd (upd none_ 1 (.q eLk ls)) 2 (.pt 2 0)) 4 vN)
abbrev Z7i (c : List Sec) (a : List Pnt) (d : List (List Int)) (ls : List Lk) (i k j : Nat) : AV := (.rp (([.i (((stD c a (d.getD (ls.getD i dLk).route.toNat []) k).getD j dN).point), .b (((stD c a (d.getD (ls.getD i dLk).route.toNat []) k).getD j dN).right)] : List AV) ++ ((enc eN (stD c a (d.getD (ls.getD i dLk).route.toNat []) k)).drop ((j + 1) * 2))))
abbrev Z7f (ls : List Lk) (i : Nat) : AV := (.rp (([.ro ((ls.getD i dLk).pieces.length) (enc eU8 ((ls.getD i dLk).pieces))] : List AV) ++ ((enc eLk ls).drop ((i + 1) * 4))))
abbrev Z7e (ls : List Lk) (c : List Sec) (a : List Pnt) (d : List (List Int)) (i k : Nat) : Nat → AV := (upd (upd (upd (Z7j ls) 5 (.sl 1 0 ((hK c a (d.getD (ls.getD i dLk).route.toNat []) (ls.getD i dLk).pieces (hI c a d ls i) k).length))) 6 (.i (i : Int))) 7 (.i (k : Int)))
abbrev Z7c (c : List Sec) (a : List Pnt) (d : List (List Int)) : List AV := [.one, .q eSec c, .one, .q ePnt a, .q eIL d, .one, .one, .one, .one, .one]
abbrev Z7b (ls : List Lk) (c : List Sec) (a : List Pnt) (d : List (List Int)) (i k j : Nat) : Nat → AV := (upd (upd (upd (upd (upd (Z7j ls) 5 (.sl 1 0 ((hN (stD c a (d.getD (ls.getD i dLk).route.toNat []) k) (hK c a (d.getD (ls.getD i dLk).route.toNat []) (ls.getD i dLk).pieces (hI c a d ls i) k) j).length))) 6 (.i (i : Int))) 7 (.i (k : Int))) 8 (.q eN (stD c a (d.getD (ls.getD i dLk).route.toNat []) k))) 9 (.i (j : Int)))
abbrev Z7a (ls : List Lk) (i : Nat) : List AV := [.i ((ls.getD i dLk).route), .i ((ls.getD i dLk).train), .i ((ls.getD i dLk).ends), .ro ((ls.getD i dLk).pieces.length) (enc eU8 ((ls.getD i dLk).pieces))]
abbrev Z7h (ls : List Lk) (i : Nat) : AV := (.rp (((Z7a ls i) : List AV) ++ ((enc eLk ls).drop ((i + 1) * 4))))
abbrev Z7g (c : List Sec) (a : List Pnt) (d : List (List Int)) (ls : List Lk) (i k : Nat) : Nat → OSt := (updO (updO noOb 1 (.live ⟨(enc eB (hK c a (d.getD (ls.getD i dLk).route.toNat []) (ls.getD i dLk).pieces (hI c a d ls i) k)), 4, 1⟩)) 2 (.live ⟨(Z7c c a d), 39, 1⟩))
abbrev Z7d (c : List Sec) (a : List Pnt) (d : List (List Int)) (ls : List Lk) (i k j : Nat) : Nat → OSt := (updO (updO noOb 1 (.live ⟨(enc eB (hN (stD c a (d.getD (ls.getD i dLk).route.toNat []) k) (hK c a (d.getD (ls.getD i dLk).route.toNat []) (ls.getD i dLk).pieces (hI c a d ls i) k) j)), 4, 1⟩)) 2 (.live ⟨(Z7c c a d), 39, 1⟩))
theorem r15_Held (c : List Sec) (a : List Pnt) (d : List (List Int)) (ls : List Lk) (hs : c.length ≤ 65536) (hp : a.length ≤ 65536) (hro : d.length ≤ 65536) (hll : ls.length ≤ 65536) (hlk : ∀ x, x ∈ ls → LkR d x) (hin : ∀ x, x ∈ ls → ∀ s, s ∈ (d.getD x.route.toNat []) → 0 ≤ s ∧ s < (c.length : Int)) : Fn Try.prog 48 [.agg [.one, .ro c.length (enc eSec c), .one, .ro a.length (enc ePnt a), .ro d.length (enc eIL d), .one, .one, .one, .one, .one], .ro ls.length (enc eLk ls)] (.ro ((heldL c a d ls).length) (enc eB (heldL c a d ls))) := by
 refine fnE_of_body (N := 77) Try.func48 rfl rfl (resOf1 rfl) (by simp) (fun w0 X hL_ => ?_)
 refine seqR ?_
 refine oG (qW 51 ?_)
 refine mG vN ?_
 refine op0 ?_
 refine seqR ?_
 refine fG (.pt 51 3) ft39_3 sz37 ?_
 refine oG (qL (.q ePnt a) ag37 ?_)
 refine oG (qN ut37 ?_)
 refine oG (aop_makeE (n := a.length) (f := eB) 52 (false : Bool) rfl rfl rfl ut28 in4 rfl rfl rfl rfl om om rfl rfl ?_)
 refine mG (.sl 52 0 ((List.replicate a.length (false : Bool)).length)) ?_
 refine rU (upd (upd (upd (upd none_ 1 (.q eLk ls)) 2 (.pt 51 0)) 4 vN) 5 (.sl 52 0 ((List.replicate a.length (false : Bool)).length))) (updO (updO noOb 51 (.live ⟨(Z7c c a d), 39, 1⟩)) 52 (.live ⟨(enc eB (List.replicate a.length (false : Bool))), 4, 1⟩)) ?_
 refine awp_seq ?_
 refine seqR ?_
 refine mG (.i 0) ?_
 refine op0 ?_
 refine awp_block ?_
 refine awp_countI (fun i => ⟨(upd (upd (Z7j ls) 5 (.sl 1 0 ((hI c a d ls i).length))) 6 (.i (i : Int))), (updO (updO noOb 1 (.live ⟨(enc eB (hI c a d ls i)), 4, 1⟩)) 2 (.live ⟨(Z7c c a d), 39, 1⟩))⟩) (fun i => True) (ls.length) ?_ trivial (fun i hk_i hinv => ?_)
 ·skip
  exact iL [(52, 1), (51, 2)] [((52, 1), .live _), ((51, 2), .live _)] ⟨row_no rfl rfl, row_no rfl rfl, trivial⟩
 have hil := hI_len (secs := c) (pts := a) (routes := d) (ls := ls) i
 refine awp_seq ?_
 refine seqR ?_
 refine mG (.i (i : Int)) ?_
 refine mG (.q eLk ls) ?_
 refine oG (qN ut41 ?_)
 refine bG ((.bool (decide ((i : Int) < (ls.length : Int))))) ?_
 refine rU (upd (upd (upd (Z7j ls) 5 (.sl 1 0 ((hI c a d ls i).length))) 6 (.i (i : Int))) 17 (.b (decide ((i : Int) < (ls.length : Int))))) (updO (updO noOb 1 (.live ⟨(enc eB (hI c a d ls i)), 4, 1⟩)) 2 (.live ⟨(Z7c c a d), 39, 1⟩)) ?_
 refine awp_cond (decide ((i : Int) < (ls.length : Int))) rfl rfl (fun hc0 => ?_) (fun hc0 => ?_)
 ·skip
  have hf1 := of_decide_eq_true hc0
  have hxk := hlk _ (getD_mem (l := ls) (k := i) dLk om)
  have hxr := hxk.r
  have hxp := hxk.ps
  have hxl := hxk.ln
  have hxs := hin _ (getD_mem (l := ls) (k := i) dLk om)
  refine awp_skip ?_
  refine awp_seq ?_
  refine awp_block ?_
  refine seqR ?_
  refine mG (.i 0) ?_
  refine op0 ?_
  refine awp_block ?_
  refine awp_countI (fun k => ⟨(Z7e ls c a d i k), (Z7g c a d ls i k)⟩) (fun k => True) ((ls.getD i dLk).pieces.length) ?_ trivial (fun k hk_k hinv => ?_)
  ·skip
   exact iL [(1, 1), (2, 2)] [((1, 1), .live _), ((2, 2), .live _)] ⟨row_no rfl rfl, row_no rfl rfl, trivial⟩
  have hkl := hK_len (secs := c) (pts := a) (path := (d.getD (ls.getD i dLk).route.toNat [])) (ps := (ls.getD i dLk).pieces) (out := hI c a d ls i) k
  refine awp_seq ?_
  refine seqR ?_
  refine mG (.i (k : Int)) ?_
  refine mG (.q eLk ls) ?_
  refine mG (.i (i : Int)) ?_
  refine oG (qX dLk ut41 sz58 ?_)
  refine oG (qF (Z7h ls i) (Z7f ls i) ft58_3 sz27 ?_)
  refine oG (qL (Z7k ls i) ag27 ?_)
  refine oG (qN ut27 ?_)
  refine bG ((.bool (decide ((k : Int) < ((ls.getD i dLk).pieces.length : Int))))) ?_
  refine rU (upd (Z7e ls c a d i k) 27 (.b (decide ((k : Int) < ((ls.getD i dLk).pieces.length : Int))))) (Z7g c a d ls i k) ?_
  refine awp_cond (decide ((k : Int) < ((ls.getD i dLk).pieces.length : Int))) rfl rfl (fun hc1 => ?_) (fun hc1 => ?_)
  ·skip
   have hf2 := of_decide_eq_true hc1
   refine awp_skip ?_
   refine awp_seq ?_
   refine awp_block ?_
   refine awp_seq ?_
   refine seqR ?_
   refine mG (.q eLk ls) ?_
   refine mG (.i (i : Int)) ?_
   refine oG (qX dLk ut41 sz58 ?_)
   refine oG (qF (Z7h ls i) (Z7f ls i) ft58_3 sz27 ?_)
   refine oG (qL (Z7k ls i) ag27 ?_)
   refine mG (.i (k : Int)) ?_
   refine oG (qX (0 : Int) ut27 sz5 ?_)
   refine oG (qL (.v (.int .u8 (((ls.getD i dLk).pieces).getD k 0))) ag5 ?_)
   refine bG ((.bool ((((ls.getD i dLk).pieces).getD k 0) == 0))) ?_
   refine mG (.b ((((ls.getD i dLk).pieces).getD k 0) == 0)) ?_
   refine aops_grp 15 54 (.b (((((ls.getD i dLk).pieces).getD k 0) == 0) && (((k : Int) == 0) || ((((ls.getD i dLk).pieces).getD ((k : Int) - 1).toNat 0) == 0)))) ?_ ?_
   ·refine (Bool.eq_false_or_eq_true ((((ls.getD i dLk).pieces).getD k 0) == 0)).elim (fun hg3 => ?_) (fun hg3 => ?_)
    ·skip
     have hf4 := (beq_iff_eq).1 hg3
     refine oY hg3 (qM (.i (k : Int)) ?_)
     refine oY hg3 (qB (.bool ((k : Int) == 0)) rfl ?_)
     refine oY hg3 (qM (.b ((k : Int) == 0)) ?_)
     refine aops_grp 11 53 (.b (((k : Int) == 0) || ((((ls.getD i dLk).pieces).getD ((k : Int) - 1).toNat 0) == 0))) ?_ ?_
     ·refine (Bool.eq_false_or_eq_true ((k : Int) == 0)).elim (fun hg5 => ?_) (fun hg5 => ?_)
      ·skip
       have hf6 := (beq_iff_eq).1 hg5
       refine nG hg5 ?_
       refine nG hg5 ?_
       refine nG hg5 ?_
       refine nG hg5 ?_
       refine nG hg5 ?_
       refine nG hg5 ?_
       refine nG hg5 ?_
       refine nG hg5 ?_
       refine nG hg5 ?_
       refine nG hg5 ?_
       refine oY hg3 (qP ((k : Int) == 0) (.b true) hg5 ?_)
       refine op0 ?_
       exact imp_env (lee_both 53 _ _ (by rw [hg5] <;> rfl) lO)
      have hf7 := (beq_eq_false_iff_ne).1 hg5
      refine oY hg5 (qM (.q eLk ls) ?_)
      refine oY hg5 (qM (.i (i : Int)) ?_)
      refine oY hg5 (qX dLk ut41 sz58 ?_)
      refine oY hg5 (qF (Z7h ls i) (Z7f ls i) ft58_3 sz27 ?_)
      refine oY hg5 (qL (Z7k ls i) ag27 ?_)
      refine oY hg5 (qM (.i (k : Int)) ?_)
      refine oY hg5 (qB (.int .i64 ((k : Int) - 1)) (subI om) ?_)
      refine oY hg5 (aop_ixI 0 rfl rfl rfl ut27 sz5 rfl rfl (fun _ => rfl) rfl om oo ?_)
      refine oY hg5 (qL (.v (.int .u8 (((ls.getD i dLk).pieces).getD ((k : Int) - 1).toNat 0))) ag5 ?_)
      refine oY hg5 (qB (.bool ((((ls.getD i dLk).pieces).getD ((k : Int) - 1).toNat 0) == 0)) rfl ?_)
      refine oY hg3 (qP ((k : Int) == 0) (.b ((((ls.getD i dLk).pieces).getD ((k : Int) - 1).toNat 0) == 0)) hg5 ?_)
      refine op0 ?_
      exact imp_env (lee_both 53 _ _ (by rw [hg5] <;> rfl) lO)
     refine oG (qP ((((ls.getD i dLk).pieces).getD k 0) == 0) (.b (((k : Int) == 0) || ((((ls.getD i dLk).pieces).getD ((k : Int) - 1).toNat 0) == 0))) hg3 ?_)
     refine op0 ?_
     exact imp_env (lee_both 54 _ _ (by rw [hg3] <;> rfl) lO)
    have hf8 := (beq_eq_false_iff_ne).1 hg3
    refine nG hg3 ?_
    refine nG hg3 ?_
    refine nG hg3 ?_
    refine opN rfl rfl rfl rfl (by intro h; cases h) rfl rfl ?_
    refine opN rfl rfl rfl rfl (by intro h; cases h) rfl rfl ?_
    refine opN rfl rfl rfl rfl (by intro h; cases h) rfl rfl ?_
    refine opN rfl rfl rfl rfl (by intro h; cases h) rfl rfl ?_
    refine opN rfl rfl rfl rfl (by intro h; cases h) rfl rfl ?_
    refine opN rfl rfl rfl rfl (by intro h; cases h) rfl rfl ?_
    refine opN rfl rfl rfl rfl (by intro h; cases h) rfl rfl ?_
    refine opN rfl rfl rfl rfl (by intro h; cases h) rfl rfl ?_
    refine opN rfl rfl rfl rfl (by intro h; cases h) rfl rfl ?_
    refine opN rfl rfl rfl rfl (by intro h; cases h) rfl rfl ?_
    refine nG hg3 ?_
    refine oG (qP ((((ls.getD i dLk).pieces).getD k 0) == 0) (.b false) hg3 ?_)
    refine op0 ?_
    exact imp_env (lee_both 54 _ _ (by rw [hg3] <;> rfl) lO)
   refine op0 ?_
   refine rT (upd (Z7e ls c a d i k) 54 (.b (((((ls.getD i dLk).pieces).getD k 0) == 0) && (((k : Int) == 0) || ((((ls.getD i dLk).pieces).getD ((k : Int) - 1).toNat 0) == 0))))) (Z7g c a d ls i k) ?_
   refine awp_cond (((((ls.getD i dLk).pieces).getD k 0) == 0) && (((k : Int) == 0) || ((((ls.getD i dLk).pieces).getD ((k : Int) - 1).toNat 0) == 0))) rfl rfl (fun hc2 => ?_) (fun hc2 => ?_)
   ·skip
    obtain ⟨hf9a, hf9b⟩ := and_t hc2
    have hf10 := (beq_iff_eq).1 hf9a
    refine awp_exit ?_
    refine regR ?_
    refine mG (.i (k : Int)) ?_
    refine oG (qB (.int .i64 ((k + 1 : Nat) : Int)) (addN om) ?_)
    refine mG (.i ((k + 1 : Nat) : Int)) ?_
    refine op0 ?_
    show _ ∧ _
    have hsk := hK_t (secs := c) (pts := a) (path := (d.getD (ls.getD i dLk).route.toNat [])) (out := hI c a d ls i) (show skB (ls.getD i dLk).pieces k = true from hc2)
    refine ⟨by omega, trivial, ?_⟩
    exact iL [(1, 1), (2, 2)] [((1, 1), .live _), ((2, 2), .live _)] ⟨row_no rfl (by exact congrArg (fun l_ => LObj.mk (enc eB l_) 4 1) hsk), row_no rfl rfl, trivial⟩ (he := (sS rfl (sS rfl (sM (by exact congrArg (AV.sl 1 0) (congrArg List.length hsk.symm)) (sS rfl (sM rfl (sS rfl sr_none)))))))
   refine awp_skip ?_
   refine awp_seq ?_
   refine aD 8 [(62, .q eN (stD c a (d.getD (ls.getD i dLk).route.toNat []) k)), (61, .i (k : Int)), (60, .i ((ls.getD i dLk).route)), (59, .rp (((Z7a ls i) : List AV) ++ ((enc eLk ls).drop ((i + 1) * 4)))), (58, .rp (((Z7a ls i) : List AV) ++ ((enc eLk ls).drop ((i + 1) * 4)))), (57, .i (i : Int)), (56, .q eLk ls), (55, .agg (Z7c c a d))] mixed ?_ ?_
   ·refine ⟨?_, ?_, ?_, ?_, ?_, ?_, ?_, ?_, trivial⟩
    ·exact sLB (Z7c c a d) ag39 sz39
    ·exact sMv
    ·exact sMv
    ·exact (sIx dLk ut41 sz58)
    ·exact sF (Z7h ls i) (Z7h ls i) ft58_0 sz3
    ·exact (sLd ag3)
    ·exact sMv
    exact dW 62 fun st hob hE => call_ (r15_Step c a d (ls.getD i dLk).route (d.getD (ls.getD i dLk).route.toNat []) k hs hp hro hxr rfl ⟨by omega, hxl⟩ hxs om) rfl rfl rfl rfl rfl bd41 (by show [st.env 55, st.env 60, st.env 61] ++ _ = _; rw [hE 55 rfl, hE 60 rfl, hE 61 rfl]; rfl) (by rw [hob]; rfl)
   refine mG (.q eN (stD c a (d.getD (ls.getD i dLk).route.toNat []) k)) ?_
   refine op0 ?_
   refine seqR ?_
   refine mG (.i 0) ?_
   refine op0 ?_
   refine awp_block ?_
   refine awp_countI (fun j => ⟨(Z7b ls c a d i k j), (Z7d c a d ls i k j)⟩) (fun j => True) ((stD c a (d.getD (ls.getD i dLk).route.toNat []) k).length) ?_ trivial (fun j hk_j hinv => ?_)
   ·skip
    exact iL [(1, 1), (2, 2)] [((1, 1), .live _), ((2, 2), .live _)] ⟨row_no rfl rfl, row_no rfl rfl, trivial⟩
   have hjl := hN_len (needs := (stD c a (d.getD (ls.getD i dLk).route.toNat []) k)) (out := (hK c a (d.getD (ls.getD i dLk).route.toNat []) (ls.getD i dLk).pieces (hI c a d ls i) k)) j
   have hjs := stD_len (secs := c) (pts := a) (path := (d.getD (ls.getD i dLk).route.toNat [])) (k := k)
   refine awp_seq ?_
   refine seqR ?_
   refine mG (.i (j : Int)) ?_
   refine mG (.q eN (stD c a (d.getD (ls.getD i dLk).route.toNat []) k)) ?_
   refine oG (qN ut91 ?_)
   refine bG ((.bool (decide ((j : Int) < ((stD c a (d.getD (ls.getD i dLk).route.toNat []) k).length : Int))))) ?_
   refine rU (upd (Z7b ls c a d i k j) 66 (.b (decide ((j : Int) < ((stD c a (d.getD (ls.getD i dLk).route.toNat []) k).length : Int))))) (Z7d c a d ls i k j) ?_
   refine awp_cond (decide ((j : Int) < ((stD c a (d.getD (ls.getD i dLk).route.toNat []) k).length : Int))) rfl rfl (fun hc3 => ?_) (fun hc3 => ?_)
   ·skip
    have hf11 := of_decide_eq_true hc3
    have hpr := stD_rng (getD_mem (l := (stD c a (d.getD (ls.getD i dLk).route.toNat []) k)) (k := j) dN om)
    refine awp_skip ?_
    refine awp_seq ?_
    refine awp_block ?_
    refine regR ?_
    refine mG (.sl 1 0 ((hN (stD c a (d.getD (ls.getD i dLk).route.toNat []) k) (hK c a (d.getD (ls.getD i dLk).route.toNat []) (ls.getD i dLk).pieces (hI c a d ls i) k) j).length)) ?_
    refine mG (.q eN (stD c a (d.getD (ls.getD i dLk).route.toNat []) k)) ?_
    refine mG (.i (j : Int)) ?_
    refine oG (qX dN ut91 sz110 ?_)
    refine oG (qF (Z7i c a d ls i k j) (Z7i c a d ls i k j) ft110_0 sz3 ?_)
    refine oG (qL (.i (((stD c a (d.getD (ls.getD i dLk).route.toNat []) k).getD j dN).point)) ag3 ?_)
    refine oG (aop_ixOI rfl rfl rfl ut28 sz4 rfl rfl om oo ?_)
    refine oG (aop_storeE (f := eB) (l := hN (stD c a (d.getD (ls.getD i dLk).route.toNat []) k) (hK c a (d.getD (ls.getD i dLk).route.toNat []) (ls.getD i dLk).pieces (hI c a d ls i) k) j) (l' := (hN (stD c a (d.getD (ls.getD i dLk).route.toNat []) k) (hK c a (d.getD (ls.getD i dLk).route.toNat []) (ls.getD i dLk).pieces (hI c a d ls i) k) j).set ((((stD c a (d.getD (ls.getD i dLk).route.toNat []) k).getD j dN).point).toNat) (true : Bool)) (true : Bool) rfl rfl rfl sz4 rfl rfl rfl rfl rfl (fun _ => rfl) oo rfl rfl ?_)
    refine op0 ?_
    refine rT (Z7b ls c a d i k j) (updO (Z7d c a d ls i k j) 1 (.live ⟨(enc eB ((hN (stD c a (d.getD (ls.getD i dLk).route.toNat []) k) (hK c a (d.getD (ls.getD i dLk).route.toNat []) (ls.getD i dLk).pieces (hI c a d ls i) k) j).set ((((stD c a (d.getD (ls.getD i dLk).route.toNat []) k).getD j dN).point).toNat) (true : Bool))), 4, 1⟩)) ?_
    refine regR ?_
    refine mG (.i (j : Int)) ?_
    refine oG (qB (.int .i64 ((j + 1 : Nat) : Int)) (addN om) ?_)
    refine mG (.i ((j + 1 : Nat) : Int)) ?_
    refine op0 ?_
    show _ ∧ _
    refine ⟨by omega, trivial, ?_⟩
    exact iL [(1, 1), (2, 2)] [((1, 1), .live _), ((2, 2), .live _)] ⟨row_no rfl rfl, row_no rfl rfl, trivial⟩ (he := (sS rfl (sS rfl (sS rfl (sS rfl (sM (by exact congrArg (AV.sl 1 0) (by rw [hN_len, hN_len])) (sS rfl (sM rfl (sS rfl sr_none)))))))))
   have hf12 := of_decide_eq_false hc3
   refine awp_exit ?_
   refine regR ?_
   refine mG (.i (k : Int)) ?_
   refine oG (qB (.int .i64 ((k + 1 : Nat) : Int)) (addN om) ?_)
   refine mG (.i ((k + 1 : Nat) : Int)) ?_
   refine op0 ?_
   show _ ∧ _
   have hsk := hK_f (secs := c) (pts := a) (path := (d.getD (ls.getD i dLk).route.toNat [])) (out := hI c a d ls i) (show skB (ls.getD i dLk).pieces k = false from hc2)
   have hje : j = (stD c a (d.getD (ls.getD i dLk).route.toNat []) k).length := by omega
   rw [← hje] at hsk
   refine ⟨by omega, trivial, ?_⟩
   exact iL [(1, 1), (2, 2)] [((1, 1), .live _), ((2, 2), .live _)] ⟨row_no rfl (by exact congrArg (fun l_ => LObj.mk (enc eB l_) 4 1) hsk), row_no rfl rfl, trivial⟩ (he := (sS rfl (sS rfl (sM (by exact congrArg (AV.sl 1 0) (congrArg List.length hsk.symm)) (sS rfl (sM rfl (sS rfl sr_none)))))))
  have hf13 := of_decide_eq_false hc1
  refine awp_exit ?_
  refine regR ?_
  refine mG (.i (i : Int)) ?_
  refine oG (qB (.int .i64 ((i + 1 : Nat) : Int)) (addN om) ?_)
  refine mG (.i ((i + 1 : Nat) : Int)) ?_
  refine op0 ?_
  show _ ∧ _
  have hke : k = (ls.getD i dLk).pieces.length := by omega
  have hik : hI c a d ls (i + 1) = (hK c a (d.getD (ls.getD i dLk).route.toNat []) (ls.getD i dLk).pieces (hI c a d ls i) k) := (congrArg (fun n_ => hK c a (d.getD (ls.getD i dLk).route.toNat []) (ls.getD i dLk).pieces (hI c a d ls i) n_) hke.symm)
  refine ⟨by omega, trivial, ?_⟩
  exact iL [(1, 1), (2, 2)] [((1, 1), .live _), ((2, 2), .live _)] ⟨row_no rfl (by exact congrArg (fun l_ => LObj.mk (enc eB l_) 4 1) hik), row_no rfl rfl, trivial⟩ (he := (sS rfl (sM (by exact congrArg (AV.sl 1 0) (congrArg List.length hik.symm)) (sS rfl (sM rfl (sS rfl sr_none))))))
 have hf14 := of_decide_eq_false hc0
 refine awp_exit ?_
 refine seqR ?_
 refine mG (.sl 1 0 ((hI c a d ls i).length)) ?_
 refine mG (.sl 1 0 ((hI c a d ls i).length)) ?_
 refine op0 ?_
 refine awp_imp _ (imp_frozen rfl (fun _ h => h) (lee_lend 4 (.q eB (hI c a d ls i)) (lend_s (id := 1) (n := (hI c a d ls i).length) (o := ⟨(enc eB (hI c a d ls i)), 4, 1⟩) rfl (enc_len (fun _ => rfl) (by first | rfl | (simp; done)))) lee_lend0)) ?_
 refine awp_ret ?_
 exact fret (av := .ro ((hI c a d ls i).length) (enc eB (hI c a d ls i))) rfl rfl (by rw [show i = ls.length by omega] <;> rfl)
abbrev Z7r (ls : List Lk) (k : Nat) : List AV := (enc eU8 ((ls.getD k dLk).pieces))
abbrev Z7p (ls : List Lk) (k : Nat) : List AV := [.i ((ls.getD k dLk).route), .i ((ls.getD k dLk).train), .i ((ls.getD k dLk).ends), .sl 53 0 ((ls.getD k dLk).pieces.length)]
abbrev Z7o (ls : List Lk) (k : Nat) : Nat → OSt := (updO noOb 1 (.live ⟨(enc eLk (ls.take k)), 58, 4⟩))
abbrev Z7n (ls : List Lk) (k : Nat) : Lk := (⟨(ls.getD k dLk).route, (ls.getD k dLk).train, (ls.getD k dLk).ends, (ls.getD k dLk).pieces⟩ : Lk)
abbrev Z7m (ls : List Lk) (k : Nat) : Nat → AV := (upd (upd (upd (upd none_ 0 (.q eLk ls)) 2 vN) 3 (.sl 1 0 ((ls.take k).length))) 4 (.i (k : Int)))
abbrev Z7l (ls : List Lk) (k : Nat) : List AV := [.i ((ls.getD k dLk).route), .i ((ls.getD k dLk).train), .i ((ls.getD k dLk).ends), .ro ((ls.getD k dLk).pieces.length) (Z7r ls k)]
abbrev Z7q (ls : List Lk) (k : Nat) : Nat → OSt := (updO (updO (Z7o ls k) 52 (.live ⟨[.i 0, .i 0, .i 0, vN], 58, 1⟩)) 52 (.live ⟨(Z7l ls k), 58, 1⟩))
theorem r15_copied (ls : List Lk) (hll : ls.length ≤ 65536) (hpl : ∀ x, x ∈ ls → x.pieces.length ≤ 65536) : FnO Try.prog 49 [.ro ls.length (enc eLk ls)] (.sl 0 0 ls.length) [⟨(enc eLk ls), 58, 4⟩] := by
 refine fnE_of_body (N := 25) Try.func49 rfl rfl (resOf1 rfl) (by simp) (fun w0 X hL_ => ?_)
 refine seqR ?_
 refine mG vN ?_
 refine op0 ?_
 refine seqR ?_
 refine mG vN ?_
 refine op0 ?_
 refine awp_seq ?_
 refine seqR ?_
 refine mG (.i 0) ?_
 refine op0 ?_
 refine awp_block ?_
 refine awp_countI (fun k => ⟨(Z7m ls k), (Z7o ls k)⟩) (fun k => True) (ls.length) ?_ trivial (fun k hk_k hinv => ?_)
 ·skip
  refine (imp_adopt 3 51 58 4 rfl rfl).trans ?_
  exact iI 51 1 (o := ⟨[], 58, 4⟩) rfl
 have htk : (ls.take k).length = k := by rw [List.length_take]; omega
 refine awp_seq ?_
 refine seqR ?_
 refine mG (.i (k : Int)) ?_
 refine mG (.q eLk ls) ?_
 refine oG (qN ut41 ?_)
 refine bG ((.bool (decide ((k : Int) < (ls.length : Int))))) ?_
 refine rU (upd (Z7m ls k) 9 (.b (decide ((k : Int) < (ls.length : Int))))) (Z7o ls k) ?_
 refine awp_cond (decide ((k : Int) < (ls.length : Int))) rfl rfl (fun hc0 => ?_) (fun hc0 => ?_)
 ·skip
  have hf1 := of_decide_eq_true hc0
  have hxl := hpl _ (getD_mem (l := ls) (k := k) dLk om)
  refine awp_skip ?_
  refine awp_seq ?_
  refine awp_block ?_
  refine seqR ?_
  refine mG (.q eLk ls) ?_
  refine mG (.i (k : Int)) ?_
  refine oG (qX dLk ut41 sz58 ?_)
  refine oG (qLB (Z7l ls k) ag58 sz58 ?_)
  refine oG (aop_alloc 52 rfl rfl rfl rfl ze58 rfl ?_)
  refine oG (qS sz58 ?_)
  refine rU (upd (Z7m ls k) 5 (.pt 52 0)) (Z7q ls k) ?_
  refine seqR ?_
  refine fG (.pt 52 3) ft58_3 sz27 ?_
  refine oG (qL (.ro ((ls.getD k dLk).pieces.length) (Z7r ls k)) ag27 ?_)
  refine oG (aop_appNil 53 rfl rfl rfl rfl ut27 in5 rfl (by decide) rfl rfl (enc_len (fun _ => rfl) rfl) om om rfl ?_)
  refine fG (.pt 52 3) ft58_3 sz27 ?_
  refine oG (qS sz27 ?_)
  refine rU (upd (Z7m ls k) 5 (.pt 52 0)) (updO (updO (Z7q ls k) 53 (.live ⟨(Z7r ls k), 5, 1⟩)) 52 (.live ⟨(Z7p ls k), 58, 1⟩)) ?_
  refine awp_imp ⟨(upd (Z7m ls k) 5 (.pt 52 0)), (updO (Z7o ls k) 52 (.live ⟨(Z7l ls k), 58, 1⟩))⟩ ?_ ?_
  ·skip
   refine (frz_ [1, 52] [(1, ⟨(enc eLk (ls.take k)), 58, 4⟩), (52, ⟨(Z7l ls k), 58, 1⟩)] rfl (fun _ h => h) ⟨keep_same (by simp) rfl, keep_cells (cs := (Z7p ls k)) (by simp) rfl rfl (frzs_cons (.inl rfl) (frzs_cons (.inl rfl) (frzs_cons (.inl rfl) (frzs_cons (.inr (lend_s (id := 53) (n := (ls.getD k dLk).pieces.length) (o := ⟨(Z7r ls k), 5, 1⟩) rfl (enc_len (fun _ => rfl) (by first | rfl | (simp; done))))) frzs_nil)))), trivial⟩ (fz_same 5 (.pt 52 0) rfl (fz_same 4 (.i (k : Int)) rfl (fz_same 3 (.sl 1 0 ((ls.take k).length)) rfl (fz_same 2 vN rfl (fz_same 0 (.q eLk ls) rfl fz_none)))))).trans ?_
   exact iJ 1 1 52 52 (o := ⟨(enc eLk (ls.take k)), 58, 4⟩) (o2 := ⟨(Z7l ls k), 58, 1⟩) rfl rfl
  refine regR ?_
  refine mG (.sl 1 0 ((ls.take k).length)) ?_
  refine oG (qLB (Z7l ls k) ag58 sz58 ?_)
  refine oG (aop_lit rfl rfl rfl ut41 iz58 (by decide) (by decide) rfl rfl ?_)
  refine oG (aop_app1 (f := eLk) (l := ls.take k) 54 (Z7n ls k) rfl rfl rfl rfl ut41 in58 rfl (by decide) rfl rfl rfl rfl rfl rfl (fun _ => rfl) rfl rfl oo oo rfl ?_)
  refine mG (.sl 54 0 (((ls.take k) ++ [(Z7n ls k)]).length)) ?_
  refine op0 ?_
  refine rT (upd (upd (upd (upd (upd none_ 0 (.q eLk ls)) 2 vN) 3 (.sl 54 0 (((ls.take k) ++ [(Z7n ls k)]).length))) 4 (.i (k : Int))) 5 (.pt 52 0)) (updO (updO (updO (Z7o ls k) 52 (.live ⟨(Z7l ls k), 58, 1⟩)) 1 .dead) 54 (.live ⟨(enc eLk ((ls.take k) ++ [(Z7n ls k)])), 58, 4⟩)) ?_
  refine regR ?_
  refine mG (.i (k : Int)) ?_
  refine oG (qB (.int .i64 ((k + 1 : Nat) : Int)) (addN om) ?_)
  refine mG (.i ((k + 1 : Nat) : Int)) ?_
  refine op0 ?_
  show _ ∧ _
  have hs_ := take_snoc dLk (l := ls) (k := k) om
  refine ⟨by omega, trivial, ?_⟩
  exact iI 54 1 rfl (he := (sS rfl (sM (by exact congrArg (AV.sl 1 0) (congrArg List.length hs_.symm)) (sS rfl (sS rfl sr_none))))) (hoo := (by exact congrArg (fun l_ => LObj.mk (enc eLk l_) 58 4) hs_))
 have hf2 := of_decide_eq_false hc0
 refine awp_exit ?_
 refine seqR ?_
 refine mG (.sl 1 0 ((ls.take k).length)) ?_
 refine mG (.sl 1 0 ((ls.take k).length)) ?_
 refine op0 ?_
 refine awp_ret ?_
 have he : ls.take k = ls := List.take_of_length_le om
 exact fretO 1 rfl rfl rfl (congrArg List.length he) (congrArg (fun l_ => LObj.mk (enc eLk l_) 58 4) he)
abbrev Z7t (a : List Pnt) : Nat → OSt := (updO noOb 51 (.live ⟨[.one, .one, .one, .q ePnt a, .one, .one, .one, .one, .one, .one], 39, 1⟩))
abbrev Z7s (c : List Int) (d : List View) (e : List Bool) (a : List Pnt) (p : Int) : Nat → AV := (upd (upd (upd (upd (upd none_ 1 (.q eU8 c)) 2 (.q eV d)) 3 (.q eB e)) 12 (.b false)) 13 (.i ((a.getD p.toNat dP).stem)))
theorem r14_May (a : List Pnt) (c : List Int) (d : List View) (e f : List Bool) (p : Int) (hp : a.length ≤ 65536) (hs : c.length ≤ 65536) (hn : d.length ≤ 65536) (hlk : e.length ≤ 65536) (hh : f.length ≤ 65536) (hv : ∀ v, v ∈ d → v.span.length ≤ 65536) : Fn Try.prog 46 [.agg [.one, .one, .one, .ro a.length (enc ePnt a), .one, .one, .one, .one, .one, .one], .ro c.length (enc eU8 c), .ro d.length (enc eV d), .ro e.length (enc eB e), .ro f.length (enc eB f), .v (.int .i64 p)] (.v (.bool (mayB a c d e f p))) := by
 refine fnE_of_body (N := 69) Try.func46 rfl rfl (resOf1 rfl) (by simp) (fun w0 X hL_ => ?_)
 refine seqR ?_
 refine oG (qW 51 ?_)
 refine mG (.b false) ?_
 refine op0 ?_
 refine awp_seq ?_
 refine seqR ?_
 refine mG (.i p) ?_
 refine bG ((.bool (decide (p < 0)))) ?_
 refine mG (.b (decide (p < 0))) ?_
 refine aops_grp 6 23 (.b ((decide (p < 0)) || (decide (p ≥ (a.length : Int))))) ?_ ?_
 ·refine (Bool.eq_false_or_eq_true (decide (p < 0))).elim (fun hg1 => ?_) (fun hg1 => ?_)
  ·skip
   have hf2 := of_decide_eq_true hg1
   refine nG hg1 ?_
   refine nG hg1 ?_
   refine nG hg1 ?_
   refine nG hg1 ?_
   refine nG hg1 ?_
   refine oG (qP (decide (p < 0)) (.b true) hg1 ?_)
   refine op0 ?_
   exact imp_env (lee_both 23 _ _ (by rw [hg1] <;> rfl) lO)
  have hf3 := of_decide_eq_false hg1
  refine oY hg1 (qM (.i p) ?_)
  refine oY hg1 (qF (.pt 51 0) (.pt 51 3) ft39_3 sz37 ?_)
  refine oY hg1 (qL (.q ePnt a) ag37 ?_)
  refine oY hg1 (qN ut37 ?_)
  refine oY hg1 (qB (.bool (decide (p ≥ (a.length : Int)))) rfl ?_)
  refine oG (qP (decide (p < 0)) (.b (decide (p ≥ (a.length : Int)))) hg1 ?_)
  refine op0 ?_
  exact imp_env (lee_both 23 _ _ (by rw [hg1] <;> rfl) lO)
 refine mG (.b ((decide (p < 0)) || (decide (p ≥ (a.length : Int))))) ?_
 refine aops_grp 4 28 (.b (((decide (p < 0)) || (decide (p ≥ (a.length : Int)))) || (hasB f p))) ?_ ?_
 ·refine (Bool.eq_false_or_eq_true ((decide (p < 0)) || (decide (p ≥ (a.length : Int))))).elim (fun hg4 => ?_) (fun hg4 => ?_)
  ·skip
   refine nG hg4 ?_
   refine nG hg4 ?_
   refine nG hg4 ?_
   refine oG (qP ((decide (p < 0)) || (decide (p ≥ (a.length : Int)))) (.b true) hg4 ?_)
   refine op0 ?_
   exact imp_env (lee_both 28 _ _ (by rw [hg4] <;> rfl) lO)
  obtain ⟨hf5a, hf5b⟩ := or_f hg4
  have hf6 := of_decide_eq_false hf5a
  have hf7 := of_decide_eq_false hf5b
  refine oY hg4 (qM (.q eB f) ?_)
  refine oY hg4 (qM (.i p) ?_)
  refine oY hg4 (qJ (r14_stands f p oo) bd59 ?_)
  refine oG (qP ((decide (p < 0)) || (decide (p ≥ (a.length : Int)))) (.b (hasB f p)) hg4 ?_)
  refine op0 ?_
  exact imp_env (lee_both 28 _ _ (by rw [hg4] <;> rfl) lO)
 refine op0 ?_
 refine rT (upd (upd (upd (upd (upd (upd (upd none_ 1 (.q eU8 c)) 2 (.q eV d)) 3 (.q eB e)) 5 (.i p)) 6 (.pt 51 0)) 12 (.b false)) 28 (.b (((decide (p < 0)) || (decide (p ≥ (a.length : Int)))) || (hasB f p)))) (Z7t a) ?_
 refine awp_cond (((decide (p < 0)) || (decide (p ≥ (a.length : Int)))) || (hasB f p)) rfl rfl (fun hc0 => ?_) (fun hc0 => ?_)
 ·skip
  refine seqR ?_
  refine mG (.b false) ?_
  refine op0 ?_
  refine awp_ret ?_
  exact fret (av := .v (.bool false)) rfl rfl (by rw [may_no hc0])
 obtain ⟨hf8a, hf8b⟩ := or_f hc0
 obtain ⟨hf9a, hf9b⟩ := or_f hf8a
 have hf10 := of_decide_eq_false hf9a
 have hf11 := of_decide_eq_false hf9b
 have hno : (decide (p < 0) || decide (p ≥ (a.length : Int)) || hasB f p) = false := hc0
 have hpr : 0 ≤ p ∧ p < (a.length : Int) := by simp only [Bool.or_eq_false_iff, decide_eq_false_iff_not] at hno; omega
 refine awp_skip ?_
 refine seqR ?_
 refine fG (.pt 51 3) ft39_3 sz37 ?_
 refine oG (qL (.q ePnt a) ag37 ?_)
 refine mG (.i p) ?_
 refine oG (aop_ixI dP rfl rfl rfl ut37 sz100 rfl rfl (fun _ => rfl) rfl om oo ?_)
 refine oG (qF (.rp (([.i ((a.getD p.toNat dP).node), .i ((a.getD p.toNat dP).stem), .i ((a.getD p.toNat dP).left), .i ((a.getD p.toNat dP).right)] : List AV) ++ ((enc ePnt a).drop ((p.toNat + 1) * 4)))) (.rp (([.i ((a.getD p.toNat dP).stem), .i ((a.getD p.toNat dP).left), .i ((a.getD p.toNat dP).right)] : List AV) ++ ((enc ePnt a).drop ((p.toNat + 1) * 4)))) ft100_1 sz3 ?_)
 refine oG (qL (.i ((a.getD p.toNat dP).stem)) ag3 ?_)
 refine mG (.i ((a.getD p.toNat dP).stem)) ?_
 refine rU (Z7s c d e a p) (Z7t a) ?_
 refine awp_seq ?_
 refine seqR ?_
 refine mG (.i 0) ?_
 refine op0 ?_
 refine awp_block ?_
 refine awp_countI (fun k => ⟨(upd (Z7s c d e a p) 14 (.i (k : Int))), noOb⟩) (fun k => (d.take k).any (hasV (a.getD p.toNat dP).stem) = false) (d.length) ?_ (by simp) (fun k hk_k hinv => ?_)
 ·skip
  exact iN
 refine awp_seq ?_
 refine seqR ?_
 refine mG (.i (k : Int)) ?_
 refine mG (.q eV d) ?_
 refine oG (qN ut44 ?_)
 refine bG ((.bool (decide ((k : Int) < (d.length : Int))))) ?_
 refine rU (upd (upd (Z7s c d e a p) 14 (.i (k : Int))) 38 (.b (decide ((k : Int) < (d.length : Int))))) noOb ?_
 refine awp_cond (decide ((k : Int) < (d.length : Int))) rfl rfl (fun hc1 => ?_) (fun hc1 => ?_)
 ·skip
  have hf12 := of_decide_eq_true hc1
  have hvk := hv _ (getD_mem (l := d) (k := k) dV om)
  refine awp_skip ?_
  refine awp_seq ?_
  refine awp_block ?_
  refine seqR ?_
  refine mG (.q eV d) ?_
  refine mG (.i (k : Int)) ?_
  refine oG (qX dV ut44 sz69 ?_)
  refine oG (qF (.rp (([.i ((d.getD k dV).id), .b ((d.getD k dV).sure), .ro ((d.getD k dV).span.length) (enc eI ((d.getD k dV).span))] : List AV) ++ ((enc eV d).drop ((k + 1) * 3)))) (.rp (([.ro ((d.getD k dV).span.length) (enc eI ((d.getD k dV).span))] : List AV) ++ ((enc eV d).drop ((k + 1) * 3)))) ft69_2 sz48 ?_)
  refine oG (qL (.ro ((d.getD k dV).span.length) (enc eI ((d.getD k dV).span))) ag48 ?_)
  refine mG (.i ((a.getD p.toNat dP).stem)) ?_
  refine oG (qJ (r01_Has ((d.getD k dV).span) ((a.getD p.toNat dP).stem) oo) bd52 ?_)
  refine rU (upd (upd (Z7s c d e a p) 14 (.i (k : Int))) 47 (.b (decide (((a.getD p.toNat dP).stem) ∈ ((d.getD k dV).span))))) noOb ?_
  refine awp_cond (decide (((a.getD p.toNat dP).stem) ∈ ((d.getD k dV).span))) rfl rfl (fun hc2 => ?_) (fun hc2 => ?_)
  ·skip
   refine seqR ?_
   refine mG (.b false) ?_
   refine op0 ?_
   refine awp_ret ?_
   exact fret (av := .v (.bool false)) rfl rfl (by rw [may_in hno (List.any_eq_true.2 ⟨_, getD_mem (l := d) (k := k) dV om, hc2⟩)])
  refine awp_skip ?_
  refine regR ?_
  refine mG (.i (k : Int)) ?_
  refine oG (qB (.int .i64 ((k + 1 : Nat) : Int)) (addN om) ?_)
  refine mG (.i ((k + 1 : Nat) : Int)) ?_
  refine op0 ?_
  show _ ∧ _
  refine ⟨by omega, (any_step dV om hinv hc2), ?_⟩
  exact iN
 have hf13 := of_decide_eq_false hc1
 refine awp_exit ?_
 refine seqR ?_
 refine mG (.i ((a.getD p.toNat dP).stem)) ?_
 refine bG ((.bool (decide (((a.getD p.toNat dP).stem) ≥ 0)))) ?_
 refine mG (.b (decide (((a.getD p.toNat dP).stem) ≥ 0))) ?_
 refine aops_grp 5 55 (.b ((decide (((a.getD p.toNat dP).stem) ≥ 0)) && (decide (((a.getD p.toNat dP).stem) < (c.length : Int))))) ?_ ?_
 ·refine (Bool.eq_false_or_eq_true (decide (((a.getD p.toNat dP).stem) ≥ 0))).elim (fun hg14 => ?_) (fun hg14 => ?_)
  ·skip
   have hf15 := of_decide_eq_true hg14
   refine oY hg14 (qM (.i ((a.getD p.toNat dP).stem)) ?_)
   refine oY hg14 (qM (.q eU8 c) ?_)
   refine oY hg14 (qN ut27 ?_)
   refine oY hg14 (qB (.bool (decide (((a.getD p.toNat dP).stem) < (c.length : Int)))) rfl ?_)
   refine oG (qP (decide (((a.getD p.toNat dP).stem) ≥ 0)) (.b (decide (((a.getD p.toNat dP).stem) < (c.length : Int)))) hg14 ?_)
   refine op0 ?_
   exact imp_env (lee_both 55 _ _ (by rw [hg14] <;> rfl) lO)
  have hf16 := of_decide_eq_false hg14
  refine nG hg14 ?_
  refine nG hg14 ?_
  refine nG hg14 ?_
  refine nG hg14 ?_
  refine oG (qP (decide (((a.getD p.toNat dP).stem) ≥ 0)) (.b false) hg14 ?_)
  refine op0 ?_
  exact imp_env (lee_both 55 _ _ (by rw [hg14] <;> rfl) lO)
 refine mG (.b ((decide (((a.getD p.toNat dP).stem) ≥ 0)) && (decide (((a.getD p.toNat dP).stem) < (c.length : Int))))) ?_
 refine aops_grp 6 62 (.b (((decide (((a.getD p.toNat dP).stem) ≥ 0)) && (decide (((a.getD p.toNat dP).stem) < (c.length : Int)))) && ((c.getD ((a.getD p.toNat dP).stem).toNat 0) == 0))) ?_ ?_
 ·refine (Bool.eq_false_or_eq_true ((decide (((a.getD p.toNat dP).stem) ≥ 0)) && (decide (((a.getD p.toNat dP).stem) < (c.length : Int))))).elim (fun hg17 => ?_) (fun hg17 => ?_)
  ·skip
   obtain ⟨hf18a, hf18b⟩ := and_t hg17
   have hf19 := of_decide_eq_true hf18a
   have hf20 := of_decide_eq_true hf18b
   refine oY hg17 (qM (.q eU8 c) ?_)
   refine oY hg17 (qM (.i ((a.getD p.toNat dP).stem)) ?_)
   refine oY hg17 (aop_ixI 0 rfl rfl rfl ut27 sz5 rfl rfl (fun _ => rfl) rfl om oo ?_)
   refine oY hg17 (qL (.v (.int .u8 (c.getD ((a.getD p.toNat dP).stem).toNat 0))) ag5 ?_)
   refine oY hg17 (qB (.bool ((c.getD ((a.getD p.toNat dP).stem).toNat 0) == 0)) rfl ?_)
   refine oG (qP ((decide (((a.getD p.toNat dP).stem) ≥ 0)) && (decide (((a.getD p.toNat dP).stem) < (c.length : Int)))) (.b ((c.getD ((a.getD p.toNat dP).stem).toNat 0) == 0)) hg17 ?_)
   refine op0 ?_
   exact imp_env (lee_both 62 _ _ (by rw [hg17] <;> rfl) lO)
  refine nG hg17 ?_
  refine nG hg17 ?_
  refine nG hg17 ?_
  refine nG hg17 ?_
  refine nG hg17 ?_
  refine oG (qP ((decide (((a.getD p.toNat dP).stem) ≥ 0)) && (decide (((a.getD p.toNat dP).stem) < (c.length : Int)))) (.b false) hg17 ?_)
  refine op0 ?_
  exact imp_env (lee_both 62 _ _ (by rw [hg17] <;> rfl) lO)
 refine mG (.b (((decide (((a.getD p.toNat dP).stem) ≥ 0)) && (decide (((a.getD p.toNat dP).stem) < (c.length : Int)))) && ((c.getD ((a.getD p.toNat dP).stem).toNat 0) == 0))) ?_
 refine aops_grp 5 68 (.b ((((decide (((a.getD p.toNat dP).stem) ≥ 0)) && (decide (((a.getD p.toNat dP).stem) < (c.length : Int)))) && ((c.getD ((a.getD p.toNat dP).stem).toNat 0) == 0)) && (!(hasB e ((a.getD p.toNat dP).stem))))) ?_ ?_
 ·refine (Bool.eq_false_or_eq_true (((decide (((a.getD p.toNat dP).stem) ≥ 0)) && (decide (((a.getD p.toNat dP).stem) < (c.length : Int)))) && ((c.getD ((a.getD p.toNat dP).stem).toNat 0) == 0))).elim (fun hg21 => ?_) (fun hg21 => ?_)
  ·skip
   obtain ⟨hf22a, hf22b⟩ := and_t hg21
   obtain ⟨hf23a, hf23b⟩ := and_t hf22a
   have hf24 := of_decide_eq_true hf23a
   have hf25 := of_decide_eq_true hf23b
   have hf26 := (beq_iff_eq).1 hf22b
   refine oY hg21 (qM (.q eB e) ?_)
   refine oY hg21 (qM (.i ((a.getD p.toNat dP).stem)) ?_)
   refine oY hg21 (qJ (r14_stands e ((a.getD p.toNat dP).stem) oo) bd59 ?_)
   refine oY hg21 (aop_not rfl rfl rfl rfl ?_)
   refine oG (qP (((decide (((a.getD p.toNat dP).stem) ≥ 0)) && (decide (((a.getD p.toNat dP).stem) < (c.length : Int)))) && ((c.getD ((a.getD p.toNat dP).stem).toNat 0) == 0)) (.b (!(hasB e ((a.getD p.toNat dP).stem)))) hg21 ?_)
   refine op0 ?_
   exact imp_env (lee_both 68 _ _ (by rw [hg21] <;> rfl) lO)
  refine nG hg21 ?_
  refine nG hg21 ?_
  refine nG hg21 ?_
  refine nG hg21 ?_
  refine oG (qP (((decide (((a.getD p.toNat dP).stem) ≥ 0)) && (decide (((a.getD p.toNat dP).stem) < (c.length : Int)))) && ((c.getD ((a.getD p.toNat dP).stem).toNat 0) == 0)) (.b false) hg21 ?_)
  refine op0 ?_
  exact imp_env (lee_both 68 _ _ (by rw [hg21] <;> rfl) lO)
 refine mG (.b ((((decide (((a.getD p.toNat dP).stem) ≥ 0)) && (decide (((a.getD p.toNat dP).stem) < (c.length : Int)))) && ((c.getD ((a.getD p.toNat dP).stem).toNat 0) == 0)) && (!(hasB e ((a.getD p.toNat dP).stem))))) ?_
 refine op0 ?_
 refine rT (upd none_ 12 (.b ((((decide (((a.getD p.toNat dP).stem) ≥ 0)) && (decide (((a.getD p.toNat dP).stem) < (c.length : Int)))) && ((c.getD ((a.getD p.toNat dP).stem).toNat 0) == 0)) && (!(hasB e ((a.getD p.toNat dP).stem)))))) noOb ?_
 refine awp_ret ?_
 exact fret (av := .v (.bool ((((decide (((a.getD p.toNat dP).stem) ≥ 0)) && (decide (((a.getD p.toNat dP).stem) < (c.length : Int)))) && ((c.getD ((a.getD p.toNat dP).stem).toNat 0) == 0)) && (!(hasB e ((a.getD p.toNat dP).stem)))))) rfl rfl (by rw [may_end hno (by rw [List.take_of_length_le om] at hinv; exact hinv)])
theorem bd40 : bodied Try.prog 40 = true := by kernel_rfl
theorem bd43 : bodied Try.prog 43 = true := by kernel_rfl
theorem bd46 : bodied Try.prog 46 = true := by kernel_rfl
theorem bd47 : bodied Try.prog 47 = true := by kernel_rfl
theorem bd48 : bodied Try.prog 48 = true := by kernel_rfl
theorem bd49 : bodied Try.prog 49 = true := by kernel_rfl
theorem bd50 : bodied Try.prog 50 = true := by kernel_rfl
theorem pl58 : placesOf Try.prog 58 = some ((.agg #[(.int .i64 0), (.int .i64 0), (.int .i64 0), (.slice none 0 0)]), fun i => ([(0, 1), (1, 1), (2, 1), (3, 1)] : List (Nat × Nat)).toArray[i]?) := by kernel_rfl
abbrev Z8a (k : Nat) : List AV := (enc eU8 (List.replicate k (1 : Int)))
abbrev Z89 (a : List (List Int)) (r : Int) : List AV := (enc eI (a.getD r.toNat []))
abbrev Z88 (c : List Sec) (e : List Pnt) (a : List (List Int)) (r : Int) (d : List Bool) : List AV := (enc eN (movesL (paL c e (a.getD r.toNat [])) d))
abbrev Z86 (a : List (List Int)) (r : Int) (k : Nat) : List AV := [.i ((a.getD r.toNat []).getD (k + 1) 0)]
abbrev Z85 (c : List Sec) (e : List Pnt) (a : List (List Int)) (r : Int) (d : List Bool) : AV := (.q eN (movesL (paL c e (a.getD r.toNat [])) d))
abbrev Z84 (ls : List Lk) (d : List Bool) : List AV := [.ro ls.length (enc eLk ls), .ro d.length (enc eB d), .v (.int .i64 9)]
abbrev Z83 (a : List (List Int)) (r : Int) : AV := (.q eI (a.getD r.toNat []))
abbrev Z81 (c : List Sec) (e : List Pnt) (a : List (List Int)) (r : Int) (d : List Bool) (q : Nat) : List AV := [.i (((movesL (paL c e (a.getD r.toNat [])) d).getD q dN).point), .b (((movesL (paL c e (a.getD r.toNat [])) d).getD q dN).right)]
abbrev Z7x (a : List (List Int)) (r : Int) : AV := (.q eU8 (List.replicate ((a.getD r.toNat []).length - 1) (1 : Int)))
abbrev Z7w (r tr : Int) (a : List (List Int)) : Lk := (⟨r, tr, -1, List.replicate ((a.getD r.toNat []).length - 1) (1 : Int)⟩ : Lk)
abbrev Z7v (ls : List Lk) (r tr : Int) (g : List Int) (j : List View) (d : List Bool) : Nat → AV := (upd (upd (upd (upd (upd (upd none_ 1 (.q eLk ls)) 2 (.i r)) 3 (.i tr)) 4 (.q eU8 g)) 5 (.q eV j)) 6 (.q eB d))
abbrev Z7u (c : List Sec) (e : List Pnt) (a : List (List Int)) : List AV := [.one, .q eSec c, .one, .q ePnt e, .q eIL a, .one, .one, .one, .one, .one]
abbrev Z87 (c : List Sec) (e : List Pnt) (a : List (List Int)) : Nat → OSt := (updO noOb 51 (.live ⟨(Z7u c e a), 39, 1⟩))
abbrev Z82 (c : List Sec) (e : List Pnt) (a : List (List Int)) : Nat → OSt := (updO noOb 2 (.live ⟨(Z7u c e a), 39, 1⟩))
abbrev Z80 (ls : List Lk) (r tr : Int) (g : List Int) (j : List View) (d : List Bool) (a : List (List Int)) (k : Nat) : Nat → AV := (upd (upd (upd (upd (upd (upd (upd (Z7v ls r tr g j d) 7 (.pt 2 0)) 14 (.q eLk ls)) 15 (.q eB d)) 16 (.i 9)) 17 (Z83 a r)) 18 (.sl 1 0 ((List.replicate k (1 : Int)).length))) 19 (.i ((k + 1 : Nat) : Int)))
abbrev Z7z (ls : List Lk) (r tr : Int) (g : List Int) (j : List View) (d : List Bool) : Nat → AV := (upd (upd (upd (upd (Z7v ls r tr g j d) 7 (.pt 2 0)) 14 vN) 15 vN) 16 (.i 0))
abbrev Z7y (k : Nat) (c : List Sec) (e : List Pnt) (a : List (List Int)) : Nat → OSt := (updO (updO noOb 1 (.live ⟨(Z8a k), 5, 1⟩)) 2 (.live ⟨(Z7u c e a), 39, 1⟩))
theorem r15_Set (c : List Sec) (e : List Pnt) (a : List (List Int)) (ls : List Lk) (r tr : Int) (g : List Int) (j : List View) (d : List Bool) (hs : c.length ≤ 65536) (hp : e.length ≤ 65536) (hro : a.length ≤ 65536) (hll : ls.length ≤ 65536) (m : ∀ x, x ∈ ls → LkR a x) (hrl : ∀ x, x ∈ a → 1 ≤ x.length ∧ x.length ≤ 65536) (p : ∀ x, x ∈ a → ∀ s, s ∈ x → 0 ≤ s ∧ s < (c.length : Int)) (hst : g.length ≤ 65536) (hn : j.length ≤ 65536) (hv : ∀ v, v ∈ j → v.span.length ≤ 65536) (hr : d.length ≤ 65536) : Fn Try.prog 26 [.agg [.one, .ro c.length (enc eSec c), .one, .ro e.length (enc ePnt e), .ro a.length (enc eIL a), .one, .one, .one, .one, .one], .ro ls.length (enc eLk ls), .v (.int .i64 r), .v (.int .i64 tr), .ro g.length (enc eU8 g), .ro j.length (enc eV j), .ro d.length (enc eB d)] (.tup [.ro ((setL c e a ls r tr g j d).length) (enc eLk (setL c e a ls r tr g j d)), .ro ((setR c e a ls r g j d).length) (enc eB (setR c e a ls r g j d)), .v (.int .i64 (setE c e a ls r g j d))]) := by
 have hin : ∀ x, x ∈ ls → ∀ s, s ∈ (a.getD x.route.toNat []) → 0 ≤ s ∧ s < (c.length : Int) := fun x hx s hs_ => p _ (getD_mem (l := a) (k := x.route.toNat) [] (by have := (m x hx).r; omega)) s hs_
 refine fnE_of_body (N := 128) Try.func26 rfl rfl (resOf3 rfl) (by simp) (fun w0 X hL_ => ?_)
 refine seqR ?_
 refine oG (qW 51 ?_)
 refine mG vN ?_
 refine mG vN ?_
 refine mG (.i 0) ?_
 refine rU (upd (upd (upd (upd (Z7v ls r tr g j d) 7 (.pt 51 0)) 14 vN) 15 vN) 16 (.i 0)) (Z87 c e a) ?_
 refine awp_seq ?_
 refine seqR ?_
 refine mG (.i r) ?_
 refine bG ((.bool (decide (r < 0)))) ?_
 refine mG (.b (decide (r < 0))) ?_
 refine aops_grp 6 32 (.b ((decide (r < 0)) || (decide (r ≥ (a.length : Int))))) ?_ ?_
 ·refine (Bool.eq_false_or_eq_true (decide (r < 0))).elim (fun hg1 => ?_) (fun hg1 => ?_)
  ·skip
   have hf2 := of_decide_eq_true hg1
   refine nG hg1 ?_
   refine nG hg1 ?_
   refine nG hg1 ?_
   refine nG hg1 ?_
   refine nG hg1 ?_
   refine oG (qP (decide (r < 0)) (.b true) hg1 ?_)
   refine op0 ?_
   exact imp_env (lee_both 32 _ _ (by rw [hg1] <;> rfl) lO)
  have hf3 := of_decide_eq_false hg1
  refine oY hg1 (qM (.i r) ?_)
  refine oY hg1 (qF (.pt 51 0) (.pt 51 4) ft39_4 sz36 ?_)
  refine oY hg1 (qL (.q eIL a) ag36 ?_)
  refine oY hg1 (qN ut36 ?_)
  refine oY hg1 (qB (.bool (decide (r ≥ (a.length : Int)))) rfl ?_)
  refine oG (qP (decide (r < 0)) (.b (decide (r ≥ (a.length : Int)))) hg1 ?_)
  refine op0 ?_
  exact imp_env (lee_both 32 _ _ (by rw [hg1] <;> rfl) lO)
 refine op0 ?_
 refine awp_cond ((decide (r < 0)) || (decide (r ≥ (a.length : Int)))) rfl rfl (fun hc0 => ?_) (fun hc0 => ?_)
 ·skip
  refine seqR ?_
  refine mG (.q eLk ls) ?_
  refine mG (.q eB d) ?_
  refine mG (.q eLk ls) ?_
  refine mG (.q eB d) ?_
  refine mG (.i 7) ?_
  refine rU (upd (upd (upd (upd (Z7v ls r tr g j d) 7 (.pt 51 0)) 14 (.q eLk ls)) 15 (.q eB d)) 16 (.i 7)) (Z87 c e a) ?_
  refine awp_ret ?_
  have he_ := set_7 (secs := c) (pts := e) (routes := a) (ls := ls) (r := r) (states := g) (views := j) (right := d) hc0
  obtain ⟨hl_, hr_⟩ := set_no (tr := tr) (by decide) he_
  exact fret (av := .tup [.ro ls.length (enc eLk ls), .ro d.length (enc eB d), .v (.int .i64 7)]) rfl rfl (by rw [he_, hl_, hr_])
 obtain ⟨hf4a, hf4b⟩ := or_f hc0
 have hf5 := of_decide_eq_false hf4a
 have hf6 := of_decide_eq_false hf4b
 have hrr := set_in hc0
 obtain ⟨hp1, hp2⟩ := hrl _ (getD_mem (l := a) (k := r.toNat) [] om)
 have hps := p _ (getD_mem (l := a) (k := r.toNat) [] om)
 have hpa := paL_len (secs := c) (pts := e) (path := (a.getD r.toNat []))
 have hmv := movesL_len (paL c e (a.getD r.toNat [])) d
 have hsl := secL_len (routes := a) (ls := ls) (n := c.length)
 have hhl := held_len (secs := c) (pts := e) (routes := a) (ls := ls)
 refine awp_skip ?_
 refine awp_seq ?_
 refine seqR ?_
 refine mG (.q eLk ls) ?_
 refine mG (.i r) ?_
 refine oG (qJ (r15_find ls r oo) bd43 ?_)
 refine bG ((.bool (decide ((findL ls r) ≥ 0)))) ?_
 refine rU (upd (upd (upd (upd (upd (Z7v ls r tr g j d) 7 (.pt 51 0)) 14 vN) 15 vN) 16 (.i 0)) 38 (.b (decide ((findL ls r) ≥ 0)))) (Z87 c e a) ?_
 refine awp_cond (decide ((findL ls r) ≥ 0)) rfl rfl (fun hc1 => ?_) (fun hc1 => ?_)
 ·skip
  have hf7 := of_decide_eq_true hc1
  refine seqR ?_
  refine mG (.q eLk ls) ?_
  refine mG (.q eB d) ?_
  refine mG (.q eLk ls) ?_
  refine mG (.q eB d) ?_
  refine mG (.i 8) ?_
  refine rU (upd (upd (upd (upd (Z7v ls r tr g j d) 7 (.pt 51 0)) 14 (.q eLk ls)) 15 (.q eB d)) 16 (.i 8)) (Z87 c e a) ?_
  refine awp_ret ?_
  have he_ := set_8 (secs := c) (pts := e) (routes := a) (ls := ls) (r := r) (states := g) (views := j) (right := d) hrr (of_decide_eq_true hc1)
  obtain ⟨hl_, hr_⟩ := set_no (tr := tr) (by decide) he_
  exact fret (av := .tup [.ro ls.length (enc eLk ls), .ro d.length (enc eB d), .v (.int .i64 8)]) rfl rfl (by rw [he_, hl_, hr_])
 have hf8 := of_decide_eq_false hc1
 refine awp_skip ?_
 refine seqR ?_
 refine fG (.pt 51 4) ft39_4 sz36 ?_
 refine oG (qL (.q eIL a) ag36 ?_)
 refine mG (.i r) ?_
 refine oG (aop_ixI [] rfl rfl rfl ut36 sz48 rfl rfl (fun _ => rfl) rfl om oo ?_)
 refine oG (qL (Z83 a r) ag48 ?_)
 refine mG (Z83 a r) ?_
 refine rU (upd (upd (upd (upd (upd (Z7v ls r tr g j d) 7 (.pt 51 0)) 14 vN) 15 vN) 16 (.i 0)) 17 (Z83 a r)) (Z87 c e a) ?_
 refine seqR ?_
 refine mG vN ?_
 refine op0 ?_
 refine awp_seq ?_
 refine seqR ?_
 refine mG (.i 1) ?_
 refine op0 ?_
 refine awp_block ?_
 refine awp_countI (fun k => ⟨(upd (upd (upd (Z7z ls r tr g j d) 17 (Z83 a r)) 18 (.sl 1 0 ((List.replicate k (1 : Int)).length))) 19 (.i ((k + 1 : Nat) : Int))), (Z7y k c e a)⟩) (fun k => busyK a ls g (a.getD r.toNat []) k = false) (((a.getD r.toNat []).length - 1)) ?_ rfl (fun k hk_k hinv => ?_)
 ·skip
  refine (imp_adopt 18 52 5 1 rfl rfl).trans ?_
  exact iL [(52, 1), (51, 2)] [((52, 1), .live _), ((51, 2), .live _)] ⟨row_no (o := ⟨[], 5, 1⟩) rfl rfl, row_no rfl rfl, trivial⟩
 have hkl : (List.replicate k (1 : Int)).length = k := List.length_replicate
 refine awp_seq ?_
 refine seqR ?_
 refine mG (.i ((k + 1 : Nat) : Int)) ?_
 refine mG (Z83 a r) ?_
 refine oG (qN ut48 ?_)
 refine bG ((.bool (decide (((k + 1 : Nat) : Int) < ((a.getD r.toNat []).length : Int))))) ?_
 refine rU (upd (upd (upd (upd (Z7z ls r tr g j d) 17 (Z83 a r)) 18 (.sl 1 0 ((List.replicate k (1 : Int)).length))) 19 (.i ((k + 1 : Nat) : Int))) 49 (.b (decide (((k + 1 : Nat) : Int) < ((a.getD r.toNat []).length : Int))))) (Z7y k c e a) ?_
 refine awp_cond (decide (((k + 1 : Nat) : Int) < ((a.getD r.toNat []).length : Int))) rfl rfl (fun hc2 => ?_) (fun hc2 => ?_)
 ·skip
  have hf9 := of_decide_eq_true hc2
  have hs1 := hps _ (getD_mem (l := (a.getD r.toNat [])) (k := k + 1) 0 om)
  refine awp_skip ?_
  refine awp_seq ?_
  refine awp_block ?_
  refine awp_seq ?_
  refine awp_seq ?_
  refine (Bool.eq_false_or_eq_true (decide (((a.getD r.toNat []).getD (k + 1) 0) ≥ (g.length : Int)))).elim (fun hq0 => ?_) (fun hq0 => ?_)
  ·skip
   have hf11 := of_decide_eq_true hq0
   have hbz : busyB a ls g (a.getD r.toNat []) k = true := by first | exact busy_t0 hq0 | exact busy_t1 hq1
   refine aD 27 [(78, .b true), (77, .v undef), (76, .v undef), (75, .v undef), (74, .v undef), (73, .v undef), (72, .v undef), (71, .v undef), (70, .v undef), (69, .b true), (68, .b true), (67, .v undef), (66, .v undef), (65, .v undef), (64, .v undef), (63, .v undef), (62, .v undef), (61, .v undef), (60, .v undef), (59, .b (decide (((a.getD r.toNat []).getD (k + 1) 0) ≥ (g.length : Int)))), (58, .b (decide (((a.getD r.toNat []).getD (k + 1) 0) ≥ (g.length : Int)))), (57, .i (g.length : Int)), (56, .q eU8 g), (55, .i ((a.getD r.toNat []).getD (k + 1) 0)), (54, .rp (((Z86 a r k) : List AV) ++ ((Z89 a r).drop (((k + 1) + 1) * 1)))), (53, .i ((k + 1 : Nat) : Int)), (52, .q eI (a.getD r.toNat []))] mixed ?_ ?_
   ·iterate 27 (refine ⟨?_, ?_⟩; rotate_left)
    trivial
    ·exact sMv
    ·exact sMv
    ·exact (sIx (0 : Int) ut48 sz3)
    ·exact (sLd ag3)
    ·exact sMv
    ·exact dW 57 fun st hob hE => aop_len rfl rfl rfl rfl ut27 (len_ro (hE 56 rfl)) (by rw [hob]; rfl)
    ·exact sB (.bool (decide (((a.getD r.toNat []).getD (k + 1) 0) ≥ (g.length : Int)))) rfl
    ·exact sMv
    ·exact gn0 hq0
    ·exact gn0 hq0
    ·exact gn0 hq0
    ·exact gn0 hq0
    ·exact gn0 hq0
    ·exact gn0 hq0
    ·exact gn0 hq0
    ·exact gn0 hq0
    ·exact sPk (decide (((a.getD r.toNat []).getD (k + 1) 0) ≥ (g.length : Int))) (.b true) hq0
    ·exact sMv
    ·exact gn0 rfl
    ·exact gn0 rfl
    ·exact gn0 rfl
    ·exact gn0 rfl
    ·exact gn0 rfl
    ·exact gn0 rfl
    ·exact gn0 rfl
    ·exact gn0 rfl
    exact dW 78 fun st hob hE => aop_pick (b := true) (av := .b true) rfl rfl rfl (hE 69 rfl) rfl (by rw [hob]; rfl)
   refine op0 ?_
   refine awp_cond true rfl rfl (fun _ => ?_) (fun h => by cases h)
   refine seqR ?_
   refine mG (.q eLk ls) ?_
   refine mG (.q eB d) ?_
   refine mG (.q eLk ls) ?_
   refine mG (.q eB d) ?_
   refine mG (.i 9) ?_
   refine rU (Z80 ls r tr g j d a k) (Z7y k c e a) ?_
   refine awp_ret ?_
   have he_ := set_9 (secs := c) (pts := e) (routes := a) (ls := ls) (r := r) (states := g) (views := j) (right := d) hrr (of_decide_eq_false hc1) (busy_on (k := k) om (by first | exact hbz | exact busy_t2 hc3))
   obtain ⟨hl_, hr_⟩ := set_no (tr := tr) (by decide) he_
   exact fret (av := .tup (Z84 ls d)) rfl rfl (by rw [he_, hl_, hr_])
  have hf12 := of_decide_eq_false hq0
  refine (Bool.eq_false_or_eq_true ((g.getD ((a.getD r.toNat []).getD (k + 1) 0).toNat 0) != 0)).elim (fun hq1 => ?_) (fun hq1 => ?_)
  ·skip
   have hf14 := (bne_iff_ne).1 hq1
   have hbz : busyB a ls g (a.getD r.toNat []) k = true := by first | exact busy_t0 hq0 | exact busy_t1 hq1
   refine aD 27 [(78, .b true), (77, .v undef), (76, .v undef), (75, .v undef), (74, .v undef), (73, .v undef), (72, .v undef), (71, .v undef), (70, .v undef), (69, .b ((g.getD ((a.getD r.toNat []).getD (k + 1) 0).toNat 0) != 0)), (68, .b ((g.getD ((a.getD r.toNat []).getD (k + 1) 0).toNat 0) != 0)), (67, .b ((g.getD ((a.getD r.toNat []).getD (k + 1) 0).toNat 0) != 0)), (66, .v (.int .u8 (g.getD ((a.getD r.toNat []).getD (k + 1) 0).toNat 0))), (65, .rp (([.v (.int .u8 (g.getD ((a.getD r.toNat []).getD (k + 1) 0).toNat 0))] : List AV) ++ ((enc eU8 g).drop ((((a.getD r.toNat []).getD (k + 1) 0).toNat + 1) * 1)))), (64, .i ((a.getD r.toNat []).getD (k + 1) 0)), (63, .rp (((Z86 a r k) : List AV) ++ ((Z89 a r).drop (((k + 1) + 1) * 1)))), (62, .i ((k + 1 : Nat) : Int)), (61, .q eI (a.getD r.toNat [])), (60, .q eU8 g), (59, .b (decide (((a.getD r.toNat []).getD (k + 1) 0) ≥ (g.length : Int)))), (58, .b (decide (((a.getD r.toNat []).getD (k + 1) 0) ≥ (g.length : Int)))), (57, .i (g.length : Int)), (56, .q eU8 g), (55, .i ((a.getD r.toNat []).getD (k + 1) 0)), (54, .rp (((Z86 a r k) : List AV) ++ ((Z89 a r).drop (((k + 1) + 1) * 1)))), (53, .i ((k + 1 : Nat) : Int)), (52, .q eI (a.getD r.toNat []))] mixed ?_ ?_
   ·iterate 27 (refine ⟨?_, ?_⟩; rotate_left)
    trivial
    ·exact sMv
    ·exact sMv
    ·exact (sIx (0 : Int) ut48 sz3)
    ·exact (sLd ag3)
    ·exact sMv
    ·exact dW 57 fun st hob hE => aop_len rfl rfl rfl rfl ut27 (len_ro (hE 56 rfl)) (by rw [hob]; rfl)
    ·exact sB (.bool (decide (((a.getD r.toNat []).getD (k + 1) 0) ≥ (g.length : Int)))) rfl
    ·exact sMv
    ·exact gy0 hq0 sMv
    ·exact gy0 hq0 sMv
    ·exact gy0 hq0 sMv
    ·exact gy0 hq0 (sIx (0 : Int) ut48 sz3)
    ·exact gy0 hq0 (sLd ag3)
    ·exact gy0 hq0 (dW 65 fun st hob hE => aop_ixI 0 rfl rfl rfl ut27 sz5 (hE 60 rfl) (hE 64 rfl) (fun _ => rfl) rfl om oo (by rw [hob]; rfl))
    ·exact gy0 hq0 (sLd ag5)
    ·exact gy0 hq0 (sB (.bool ((g.getD ((a.getD r.toNat []).getD (k + 1) 0).toNat 0) != 0)) rfl)
    ·exact dW 68 fun st hob hE => aop_pick (b := (decide (((a.getD r.toNat []).getD (k + 1) 0) ≥ (g.length : Int)))) (av := .b ((g.getD ((a.getD r.toNat []).getD (k + 1) 0).toNat 0) != 0)) rfl rfl rfl (hE 59 rfl) (by rw [hq0]; exact hE 67 rfl) (by rw [hob]; rfl)
    ·exact sMv
    ·exact gn0 hq1
    ·exact gn0 hq1
    ·exact gn0 hq1
    ·exact gn0 hq1
    ·exact gn0 hq1
    ·exact gn0 hq1
    ·exact gn0 hq1
    ·exact gn0 hq1
    exact sPk ((g.getD ((a.getD r.toNat []).getD (k + 1) 0).toNat 0) != 0) (.b true) hq1
   refine op0 ?_
   refine awp_cond true rfl rfl (fun _ => ?_) (fun h => by cases h)
   refine seqR ?_
   refine mG (.q eLk ls) ?_
   refine mG (.q eB d) ?_
   refine mG (.q eLk ls) ?_
   refine mG (.q eB d) ?_
   refine mG (.i 9) ?_
   refine rU (Z80 ls r tr g j d a k) (Z7y k c e a) ?_
   refine awp_ret ?_
   have he_ := set_9 (secs := c) (pts := e) (routes := a) (ls := ls) (r := r) (states := g) (views := j) (right := d) hrr (of_decide_eq_false hc1) (busy_on (k := k) om (by first | exact hbz | exact busy_t2 hc3))
   obtain ⟨hl_, hr_⟩ := set_no (tr := tr) (by decide) he_
   exact fret (av := .tup (Z84 ls d)) rfl rfl (by rw [he_, hl_, hr_])
  have hf15 := (bne_eq_false_iff_eq).1 hq1
  refine aD 27 [(78, .b (decide ((whoseL a ls ((a.getD r.toNat []).getD (k + 1) 0)) ≥ 0))), (77, .b (decide ((whoseL a ls ((a.getD r.toNat []).getD (k + 1) 0)) ≥ 0))), (76, .i (whoseL a ls ((a.getD r.toNat []).getD (k + 1) 0))), (75, .i ((a.getD r.toNat []).getD (k + 1) 0)), (74, .rp (((Z86 a r k) : List AV) ++ ((Z89 a r).drop (((k + 1) + 1) * 1)))), (73, .i ((k + 1 : Nat) : Int)), (72, .q eI (a.getD r.toNat [])), (71, .q eLk ls), (70, .agg (Z7u c e a)), (69, .b ((g.getD ((a.getD r.toNat []).getD (k + 1) 0).toNat 0) != 0)), (68, .b ((g.getD ((a.getD r.toNat []).getD (k + 1) 0).toNat 0) != 0)), (67, .b ((g.getD ((a.getD r.toNat []).getD (k + 1) 0).toNat 0) != 0)), (66, .v (.int .u8 (g.getD ((a.getD r.toNat []).getD (k + 1) 0).toNat 0))), (65, .rp (([.v (.int .u8 (g.getD ((a.getD r.toNat []).getD (k + 1) 0).toNat 0))] : List AV) ++ ((enc eU8 g).drop ((((a.getD r.toNat []).getD (k + 1) 0).toNat + 1) * 1)))), (64, .i ((a.getD r.toNat []).getD (k + 1) 0)), (63, .rp (((Z86 a r k) : List AV) ++ ((Z89 a r).drop (((k + 1) + 1) * 1)))), (62, .i ((k + 1 : Nat) : Int)), (61, .q eI (a.getD r.toNat [])), (60, .q eU8 g), (59, .b (decide (((a.getD r.toNat []).getD (k + 1) 0) ≥ (g.length : Int)))), (58, .b (decide (((a.getD r.toNat []).getD (k + 1) 0) ≥ (g.length : Int)))), (57, .i (g.length : Int)), (56, .q eU8 g), (55, .i ((a.getD r.toNat []).getD (k + 1) 0)), (54, .rp (((Z86 a r k) : List AV) ++ ((Z89 a r).drop (((k + 1) + 1) * 1)))), (53, .i ((k + 1 : Nat) : Int)), (52, .q eI (a.getD r.toNat []))] mixed ?_ ?_
  ·iterate 27 (refine ⟨?_, ?_⟩; rotate_left)
   trivial
   ·exact sMv
   ·exact sMv
   ·exact (sIx (0 : Int) ut48 sz3)
   ·exact (sLd ag3)
   ·exact sMv
   ·exact dW 57 fun st hob hE => aop_len rfl rfl rfl rfl ut27 (len_ro (hE 56 rfl)) (by rw [hob]; rfl)
   ·exact sB (.bool (decide (((a.getD r.toNat []).getD (k + 1) 0) ≥ (g.length : Int)))) rfl
   ·exact sMv
   ·exact gy0 hq0 sMv
   ·exact gy0 hq0 sMv
   ·exact gy0 hq0 sMv
   ·exact gy0 hq0 (sIx (0 : Int) ut48 sz3)
   ·exact gy0 hq0 (sLd ag3)
   ·exact gy0 hq0 (dW 65 fun st hob hE => aop_ixI 0 rfl rfl rfl ut27 sz5 (hE 60 rfl) (hE 64 rfl) (fun _ => rfl) rfl om oo (by rw [hob]; rfl))
   ·exact gy0 hq0 (sLd ag5)
   ·exact gy0 hq0 (sB (.bool ((g.getD ((a.getD r.toNat []).getD (k + 1) 0).toNat 0) != 0)) rfl)
   ·exact dW 68 fun st hob hE => aop_pick (b := (decide (((a.getD r.toNat []).getD (k + 1) 0) ≥ (g.length : Int)))) (av := .b ((g.getD ((a.getD r.toNat []).getD (k + 1) 0).toNat 0) != 0)) rfl rfl rfl (hE 59 rfl) (by rw [hq0]; exact hE 67 rfl) (by rw [hob]; rfl)
   ·exact sMv
   ·exact gy0 hq1 (sLB (Z7u c e a) ag39 sz39)
   ·exact gy0 hq1 sMv
   ·exact gy0 hq1 sMv
   ·exact gy0 hq1 sMv
   ·exact gy0 hq1 (sIx (0 : Int) ut48 sz3)
   ·exact gy0 hq1 (sLd ag3)
   ·exact gy0 hq1 (sC (r15_Whose a ls ((a.getD r.toNat []).getD (k + 1) 0) oo oo oo) bd44)
   ·exact gy0 hq1 (sB (.bool (decide ((whoseL a ls ((a.getD r.toNat []).getD (k + 1) 0)) ≥ 0))) rfl)
   exact dW 78 fun st hob hE => aop_pick (b := ((g.getD ((a.getD r.toNat []).getD (k + 1) 0).toNat 0) != 0)) (av := .b (decide ((whoseL a ls ((a.getD r.toNat []).getD (k + 1) 0)) ≥ 0))) rfl rfl rfl (hE 69 rfl) (by rw [hq1]; exact hE 77 rfl) (by rw [hob]; rfl)
  refine op0 ?_
  refine awp_cond (decide ((whoseL a ls ((a.getD r.toNat []).getD (k + 1) 0)) ≥ 0)) rfl rfl (fun hc3 => ?_) (fun hc3 => ?_)
  ·skip
   have hf16 := of_decide_eq_true hc3
   refine seqR ?_
   refine mG (.q eLk ls) ?_
   refine mG (.q eB d) ?_
   refine mG (.q eLk ls) ?_
   refine mG (.q eB d) ?_
   refine mG (.i 9) ?_
   refine rU (Z80 ls r tr g j d a k) (Z7y k c e a) ?_
   refine awp_ret ?_
   have he_ := set_9 (secs := c) (pts := e) (routes := a) (ls := ls) (r := r) (states := g) (views := j) (right := d) hrr (of_decide_eq_false hc1) (busy_on (k := k) om (by first | exact hbz | exact busy_t2 hc3))
   obtain ⟨hl_, hr_⟩ := set_no (tr := tr) (by decide) he_
   exact fret (av := .tup (Z84 ls d)) rfl rfl (by rw [he_, hl_, hr_])
  have hf17 := of_decide_eq_false hc3
  refine awp_skip ?_
  refine regR ?_
  refine mG (.sl 1 0 ((List.replicate k (1 : Int)).length)) ?_
  refine oG (aop_lit rfl rfl rfl ut27 iz5 (by decide) (by decide) rfl rfl ?_)
  refine oG (aop_app1 (f := eU8) (l := List.replicate k (1 : Int)) 53 (1 : Int) rfl rfl rfl rfl ut27 in5 rfl (by decide) rfl rfl rfl rfl rfl rfl (fun _ => rfl) rfl rfl oo oo rfl ?_)
  refine mG (.sl 53 0 (((List.replicate k (1 : Int)) ++ [(1 : Int)]).length)) ?_
  refine op0 ?_
  refine rT (upd (upd (upd (Z7z ls r tr g j d) 17 (Z83 a r)) 18 (.sl 53 0 (((List.replicate k (1 : Int)) ++ [(1 : Int)]).length))) 19 (.i ((k + 1 : Nat) : Int))) (updO (updO (Z7y k c e a) 1 .dead) 53 (.live ⟨(enc eU8 ((List.replicate k (1 : Int)) ++ [(1 : Int)])), 5, 1⟩)) ?_
  refine regR ?_
  refine mG (.i ((k + 1 : Nat) : Int)) ?_
  refine oG (qB (.int .i64 ((k + 1 + 1 : Nat) : Int)) (addN om) ?_)
  refine mG (.i ((k + 1 + 1 : Nat) : Int)) ?_
  refine op0 ?_
  show _ ∧ _
  have hs_ : List.replicate (k + 1) (1 : Int) = List.replicate k 1 ++ [1] := List.replicate_succ'
  refine ⟨by omega, (busy_step hinv (busy_f hq0 hq1 hc3)), ?_⟩
  exact iL [(53, 1), (2, 2)] [((53, 1), .live _), ((2, 2), .live _)] ⟨row_no rfl (by exact congrArg (fun l_ => LObj.mk (enc eU8 l_) 5 1) hs_), row_no rfl rfl, trivial⟩ (he := (sS (by exact congrArg (fun n_ : Int => AV.v (.int .i64 n_)) om) (sM (by exact congrArg (AV.sl 1 0) (congrArg List.length hs_.symm)) (sS rfl (sS rfl (sS rfl (sS rfl (sM rfl (sS rfl (sS rfl (sS rfl (sS rfl (sS rfl (sS rfl sr_none))))))))))))))
 have hf18 := of_decide_eq_false hc2
 have hke : k = (a.getD r.toNat []).length - 1 := by omega
 have hbk := hinv
 rw [hke] at hbk
 refine awp_exit ?_
 refine awp_imp ⟨(upd (upd (upd (upd (Z7z ls r tr g j d) 17 (Z83 a r)) 18 (Z7x a r)) 19 (.i ((k + 1 : Nat) : Int))) 49 (.b (decide (((k + 1 : Nat) : Int) < ((a.getD r.toNat []).length : Int))))), (Z82 c e a)⟩ ?_ ?_
 ·skip
  refine (frz_ [2] [(2, ⟨(Z7u c e a), 39, 1⟩)] rfl (fun _ h => h) ⟨keep_cells (cs := (Z7u c e a)) (by simp) rfl rfl fzA, trivial⟩ (fz_same 49 (.b (decide (((k + 1 : Nat) : Int) < ((a.getD r.toNat []).length : Int)))) rfl (fz_same 19 (.i ((k + 1 : Nat) : Int)) rfl (fz_lend 18 (.q eU8 (List.replicate k (1 : Int))) (lend_s (id := 1) (n := (List.replicate k (1 : Int)).length) (o := ⟨(Z8a k), 5, 1⟩) rfl (enc_len (fun _ => rfl) (by first | rfl | (simp; done)))) (fz_same 17 (Z83 a r) rfl (fz_same 16 (.i 0) rfl (fz_same 15 vN rfl (fz_same 14 vN rfl (fz_same 7 (.pt 2 0) rfl (fz_same 6 (.q eB d) rfl (fz_same 5 (.q eV j) rfl (fz_same 4 (.q eU8 g) rfl (fz_same 3 (.i tr) rfl (fz_same 2 (.i r) rfl (fz_same 1 (.q eLk ls) rfl fz_none))))))))))))))).trans ?_
  exact iI 2 2 (o := ⟨(Z7u c e a), 39, 1⟩) rfl (he := (sS rfl (sS rfl (sS (by show AV.ro (List.replicate k (1 : Int)).length (Z8a k) = _; rw [hke]) (sS rfl (sS rfl (sS rfl (sS rfl (sM rfl (sS rfl (sS rfl (sS rfl (sS rfl (sS rfl (sS rfl sr_none)))))))))))))))
 refine seqR ?_
 refine oG (qLB (Z7u c e a) ag39 sz39 ?_)
 refine mG (Z83 a r) ?_
 refine oG (qC (r05_Path c e (a.getD r.toNat []) oo oo oo) bd45 ?_)
 refine mG (.tup [.q eN (paL c e (a.getD r.toNat [])), .b (paB c e (a.getD r.toNat []))]) ?_
 refine oG (qE ?_)
 refine oG (qE ?_)
 refine mG (.q eN (paL c e (a.getD r.toNat []))) ?_
 refine mG (.b (paB c e (a.getD r.toNat []))) ?_
 refine rU (upd (upd (Z7z ls r tr g j d) 18 (Z7x a r)) 20 (.q eN (paL c e (a.getD r.toNat [])))) (Z82 c e a) ?_
 refine seqR ?_
 refine mG (.q eN (paL c e (a.getD r.toNat []))) ?_
 refine mG (.q eB d) ?_
 refine oG (callO_ 54 (r14_Moves (paL c e (a.getD r.toNat [])) d oo oo) rfl rfl rfl rfl rfl bd40 lS (.sl _ _ _ trivial) (news1 news0) (free1 rfl) rfl rfl ?_)
 refine mG (.sl 54 0 ((movesL (paL c e (a.getD r.toNat [])) d).length)) ?_
 refine rU (upd (upd (Z7z ls r tr g j d) 18 (Z7x a r)) 22 (.sl 54 0 ((movesL (paL c e (a.getD r.toNat [])) d).length))) (updO (Z82 c e a) 54 (.live ⟨(Z88 c e a r d), 110, 2⟩)) ?_
 refine awp_seq ?_
 refine awp_imp ⟨(upd (upd (Z7z ls r tr g j d) 18 (Z7x a r)) 22 (Z85 c e a r d)), (Z82 c e a)⟩ ?_ ?_
 ·skip
  refine (frz_ [2] [(2, ⟨(Z7u c e a), 39, 1⟩)] rfl (fun _ h => h) ⟨keep_cells (cs := (Z7u c e a)) (by simp) rfl rfl fzA, trivial⟩ (fz_lend 22 (Z85 c e a r d) (lend_s (id := 54) (n := (movesL (paL c e (a.getD r.toNat [])) d).length) (o := ⟨(Z88 c e a r d), 110, 2⟩) rfl (enc_len (fun _ => rfl) (by first | rfl | (simp; done)))) (fz_same 18 (Z7x a r) rfl (fz_same 16 (.i 0) rfl (fz_same 15 vN rfl (fz_same 14 vN rfl (fz_same 7 (.pt 2 0) rfl (fz_same 6 (.q eB d) rfl (fz_same 5 (.q eV j) rfl (fz_same 4 (.q eU8 g) rfl (fz_same 3 (.i tr) rfl (fz_same 2 (.i r) rfl (fz_same 1 (.q eLk ls) rfl fz_none))))))))))))).trans ?_
  exact iI 2 2 (o := ⟨(Z7u c e a), 39, 1⟩) rfl
 refine seqR ?_
 refine mG (.i 0) ?_
 refine op0 ?_
 refine awp_block ?_
 refine awp_countI (fun q => ⟨(upd (upd (upd (Z7z ls r tr g j d) 18 (Z7x a r)) 22 (Z85 c e a r d)) 23 (.i (q : Int))), (Z82 c e a)⟩) (fun q => ((movesL (paL c e (a.getD r.toNat [])) d).take q).any (noMay c e a ls g j) = false) ((movesL (paL c e (a.getD r.toNat [])) d).length) ?_ rfl (fun q hk_q hinv => ?_)
 ·skip
  exact iI 2 2 rfl
 refine awp_seq ?_
 refine seqR ?_
 refine mG (.i (q : Int)) ?_
 refine mG (Z85 c e a r d) ?_
 refine oG (qN ut91 ?_)
 refine bG ((.bool (decide ((q : Int) < ((movesL (paL c e (a.getD r.toNat [])) d).length : Int))))) ?_
 refine rU (upd (upd (upd (upd (Z7z ls r tr g j d) 18 (Z7x a r)) 22 (Z85 c e a r d)) 23 (.i (q : Int))) 96 (.b (decide ((q : Int) < ((movesL (paL c e (a.getD r.toNat [])) d).length : Int))))) (Z82 c e a) ?_
 refine awp_cond (decide ((q : Int) < ((movesL (paL c e (a.getD r.toNat [])) d).length : Int))) rfl rfl (fun hc4 => ?_) (fun hc4 => ?_)
 ·skip
  have hf19 := of_decide_eq_true hc4
  refine awp_skip ?_
  refine awp_seq ?_
  refine awp_block ?_
  refine awp_seq ?_
  refine aD 16 [(114, .b (!(mayB e g j (secL a ls c.length) (heldL c e a ls) (((movesL (paL c e (a.getD r.toNat [])) d).getD q dN).point)))), (113, .b (mayB e g j (secL a ls c.length) (heldL c e a ls) (((movesL (paL c e (a.getD r.toNat [])) d).getD q dN).point))), (112, .i (((movesL (paL c e (a.getD r.toNat [])) d).getD q dN).point)), (111, .rp (((Z81 c e a r d q) : List AV) ++ ((Z88 c e a r d).drop ((q + 1) * 2)))), (110, .rp (((Z81 c e a r d q) : List AV) ++ ((Z88 c e a r d).drop ((q + 1) * 2)))), (109, .i (q : Int)), (108, .q eN (movesL (paL c e (a.getD r.toNat [])) d)), (107, .q eB (heldL c e a ls)), (106, .q eLk ls), (105, .agg (Z7u c e a)), (104, .q eB (secL a ls c.length)), (103, .q eLk ls), (102, .agg (Z7u c e a)), (101, .q eV j), (100, .q eU8 g), (99, .agg (Z7u c e a))] mixed ?_ ?_
  ·iterate 16 (refine ⟨?_, ?_⟩; rotate_left)
   trivial
   ·exact sLB (Z7u c e a) ag39 sz39
   ·exact sMv
   ·exact sMv
   ·exact sLB (Z7u c e a) ag39 sz39
   ·exact sMv
   ·exact sC (r15_Sections c a ls oo oo oo oo) bd47
   ·exact sLB (Z7u c e a) ag39 sz39
   ·exact sMv
   ·exact dW 107 fun st hob hE => call_ (r15_Held c e a ls oo oo oo oo oo oo) rfl rfl rfl rfl rfl bd48 (by show [st.env 105, st.env 106] ++ _ = _; rw [hE 105 rfl, hE 106 rfl]; rfl) (by rw [hob]; rfl)
   ·exact sMv
   ·exact sMv
   ·exact (sIx dN ut91 sz110)
   ·exact sF (.rp (((Z81 c e a r d q) : List AV) ++ ((Z88 c e a r d).drop ((q + 1) * 2)))) (.rp (((Z81 c e a r d q) : List AV) ++ ((Z88 c e a r d).drop ((q + 1) * 2)))) ft110_0 sz3
   ·exact (sLd ag3)
   ·exact sC (r14_May e g j (secL a ls c.length) (heldL c e a ls) (((movesL (paL c e (a.getD r.toNat [])) d).getD q dN).point) oo oo oo oo oo oo) bd46
   exact dW 114 fun st hob hE => aop_not rfl rfl rfl (hE 113 rfl) (by rw [hob]; rfl)
  refine op0 ?_
  refine awp_cond (!(mayB e g j (secL a ls c.length) (heldL c e a ls) (((movesL (paL c e (a.getD r.toNat [])) d).getD q dN).point))) rfl rfl (fun hc5 => ?_) (fun hc5 => ?_)
  ·skip
   have hf20 := not_t hc5
   refine seqR ?_
   refine mG (.q eLk ls) ?_
   refine mG (.q eB d) ?_
   refine mG (.q eLk ls) ?_
   refine mG (.q eB d) ?_
   refine mG (.i 9) ?_
   refine rU (upd (upd (upd (upd (upd (upd (upd (Z7v ls r tr g j d) 7 (.pt 2 0)) 14 (.q eLk ls)) 15 (.q eB d)) 16 (.i 9)) 18 (Z7x a r)) 22 (Z85 c e a r d)) 23 (.i (q : Int))) (Z82 c e a) ?_
   refine awp_ret ?_
   have he_ := set_9m (secs := c) (pts := e) (routes := a) (ls := ls) (r := r) (states := g) (views := j) (right := d) hrr (of_decide_eq_false hc1) hbk (List.any_eq_true.2 ⟨_, getD_mem (l := (movesL (paL c e (a.getD r.toNat [])) d)) (k := q) dN om, by simpa [noMay] using hc5⟩)
   obtain ⟨hl_, hr_⟩ := set_no (tr := tr) (by decide) he_
   exact fret (av := .tup (Z84 ls d)) rfl rfl (by rw [he_, hl_, hr_])
  have hf21 := not_f hc5
  refine awp_skip ?_
  refine regR ?_
  refine mG (.i (q : Int)) ?_
  refine oG (qB (.int .i64 ((q + 1 : Nat) : Int)) (addN om) ?_)
  refine mG (.i ((q + 1 : Nat) : Int)) ?_
  refine op0 ?_
  show _ ∧ _
  refine ⟨by omega, (any_step dN om hinv (by simpa [noMay] using hc5)), ?_⟩
  exact iI 2 2 rfl
 have hf22 := of_decide_eq_false hc4
 refine awp_exit ?_
 refine seqR ?_
 refine mG (.q eLk ls) ?_
 refine oG (callN_ 55 (r15_copied ls hll (fun x hx => by have h9 := m x hx; have := h9.ps; have := h9.ln; omega)) rfl rfl rfl rfl rfl bd49 (fun _ => lS) newsN1 (free1 rfl) rfl rfl ?_)
 refine mG (.i r) ?_
 refine mG (.i tr) ?_
 refine mG (Z7x a r) ?_
 refine oG (qD pl58 ?_)
 refine oG (aop_lit rfl rfl rfl ut41 iz58 (by decide) (by decide) rfl rfl ?_)
 refine oG (aop_app1 (f := eLk) (l := ls) 56 (Z7w r tr a) rfl rfl rfl rfl ut41 in58 rfl (by decide) rfl rfl rfl rfl rfl rfl (fun _ => rfl) rfl rfl oo oo rfl ?_)
 refine mG (.q eB d) ?_
 refine mG (Z85 c e a r d) ?_
 refine oG (callO_ 57 (r14_Move d (movesL (paL c e (a.getD r.toNat [])) d) oo oo) rfl rfl rfl rfl rfl bd50 lS (.sl _ _ _ trivial) (news1 news0) (free1 rfl) rfl rfl ?_)
 refine mG (.sl 56 0 ((ls ++ [(Z7w r tr a)]).length)) ?_
 refine mG (.sl 57 0 ((moveL d (movesL (paL c e (a.getD r.toNat [])) d)).length)) ?_
 refine mG (.i 0) ?_
 refine rU (upd (upd (upd none_ 14 (.sl 56 0 ((ls ++ [(Z7w r tr a)]).length))) 15 (.sl 57 0 ((moveL d (movesL (paL c e (a.getD r.toNat [])) d)).length))) 16 (.i 0)) (updO (updO (updO (updO (Z82 c e a) 55 (.live ⟨(enc eLk ls), 58, 4⟩)) 55 .dead) 56 (.live ⟨(enc eLk (ls ++ [(Z7w r tr a)])), 58, 4⟩)) 57 (.live ⟨(enc eB (moveL d (movesL (paL c e (a.getD r.toNat [])) d))), 4, 1⟩)) ?_
 have he_ := set_0 (secs := c) (pts := e) (routes := a) (ls := ls) (r := r) (states := g) (views := j) (right := d) hrr (of_decide_eq_false hc1) hbk (by rw [List.take_of_length_le om] at hinv; exact hinv)
 obtain ⟨hl_, hr_⟩ := set_yes (tr := tr) he_
 refine awp_imp _ (imp_frozen rfl (fun _ h => h) (lee_lend 16 (.i 0) (lend_n (av := .i 0)) (lee_lend 15 (.q eB (moveL d (movesL (paL c e (a.getD r.toNat [])) d))) (lend_s (id := 57) (n := (moveL d (movesL (paL c e (a.getD r.toNat [])) d)).length) (o := ⟨(enc eB (moveL d (movesL (paL c e (a.getD r.toNat [])) d))), 4, 1⟩) rfl (enc_len (fun _ => rfl) (by first | rfl | (simp; done)))) (lee_lend 14 (.q eLk (ls ++ [(Z7w r tr a)])) (lend_s (id := 56) (n := (ls ++ [(Z7w r tr a)]).length) (o := ⟨(enc eLk (ls ++ [(Z7w r tr a)])), 58, 4⟩) rfl (enc_len (fun _ => rfl) (by first | rfl | (simp; done)))) lee_lend0)))) ?_
 refine awp_ret ?_
 exact fret (av := .tup [.ro ((ls ++ [(Z7w r tr a)]).length) (enc eLk (ls ++ [(Z7w r tr a)])), .ro ((moveL d (movesL (paL c e (a.getD r.toNat [])) d)).length) (enc eB (moveL d (movesL (paL c e (a.getD r.toNat [])) d))), .v (.int .i64 0)]) rfl rfl (by rw [he_, hl_, hr_])
theorem bd39 : bodied Try.prog 39 = true := by kernel_rfl
theorem ag30 : aggT Try.prog 30 = some true := by kernel_rfl
theorem bd19 : bodied Try.prog 19 = true := by kernel_rfl
theorem bd20 : bodied Try.prog 20 = true := by kernel_rfl
theorem bd26 : bodied Try.prog 26 = true := by kernel_rfl
theorem iz69 : (Try.prog.info? 69).map (fun i => (i.zero, i.size)) = some (some (.agg #[(.int .i64 0), (.bool false), (.slice none 0 0)]), 3) := by kernel_rfl
theorem ze30 : (Try.prog.info? 30).bind (·.zero) = some (.agg #[(.int .u8 0), (.int .u8 0), (.int .u8 0), (.slice none 0 0), (.slice none 0 0), (.slice none 0 0), (.slice none 0 0), (.int .u8 0)]) := by kernel_rfl
theorem bd10 : bodied Try.prog 10 = true := by kernel_rfl
theorem bd11 : bodied Try.prog 11 = true := by kernel_rfl
theorem bd13 : bodied Try.prog 13 = true := by kernel_rfl
theorem bd18 : bodied Try.prog 18 = true := by kernel_rfl
theorem bd21 : bodied Try.prog 21 = true := by kernel_rfl
theorem bd22 : bodied Try.prog 22 = true := by kernel_rfl
theorem bd37 : bodied Try.prog 37 = true := by kernel_rfl
theorem bd38 : bodied Try.prog 38 = true := by kernel_rfl
theorem ft69_1 : fieldT Try.prog 69 1 = some (4, 1) := by kernel_rfl
theorem pl30 : placesOf Try.prog 30 = some ((.agg #[(.int .u8 0), (.int .u8 0), (.int .u8 0), (.slice none 0 0), (.slice none 0 0), (.slice none 0 0), (.slice none 0 0), (.int .u8 0)]), fun i => ([(0, 1), (1, 1), (2, 1), (3, 1), (4, 1), (5, 1), (6, 1), (7, 1)] : List (Nat × Nat)).toArray[i]?) := by kernel_rfl
abbrev Z8f (a : List Need) (k : Nat) (c : List Bool) : Nat → OSt := (updO noOb 1 (.live ⟨(enc eN (movesL (a.take k) c)), 110, 2⟩))
abbrev Z8e (a : List Need) (c : List Bool) (k : Nat) : Nat → AV := (upd (upd (upd (upd (upd none_ 0 (.q eN a)) 1 (.q eB c)) 4 vN) 5 (.sl 1 0 ((movesL (a.take k) c).length))) 6 (.i (k : Int)))
abbrev Z8c (a : List Need) (k : Nat) : Need := (⟨(a.getD k dN).point, (a.getD k dN).right⟩ : Need)
abbrev Z8b (a : List Need) (k : Nat) : List AV := [.i ((a.getD k dN).point), .b ((a.getD k dN).right)]
abbrev Z8d (a : List Need) (k : Nat) : AV := (.rp (((Z8b a k) : List AV) ++ ((enc eN a).drop ((k + 1) * 2))))
theorem r14_MovesR (a : List Need) (c : List Bool) (hl : a.length ≤ 4294967296) (hr : c.length ≤ 4294967296) : Fn Try.prog 40 [.ro a.length (enc eN a), .ro c.length (enc eB c)] (.ro ((movesL a c).length) (enc eN (movesL a c))) := by
 refine fnE_of_body (N := 34) Try.func40 rfl rfl (resOf1 rfl) (by simp) (fun w0 X hL_ => ?_)
 refine seqR ?_
 refine mG vN ?_
 refine op0 ?_
 refine seqR ?_
 refine mG vN ?_
 refine op0 ?_
 refine awp_seq ?_
 refine seqR ?_
 refine mG (.i 0) ?_
 refine op0 ?_
 refine awp_block ?_
 refine awp_countI (fun k => ⟨(Z8e a c k), (Z8f a k c)⟩) (fun k => True) (a.length) ?_ trivial (fun k hk_k hinv => ?_)
 ·skip
  refine (imp_adopt 5 51 110 2 rfl rfl).trans ?_
  exact iI 51 1 (o := ⟨[], 110, 2⟩) rfl
 have hml := movesL_len (a.take k) c
 have htk : (a.take k).length ≤ a.length := by simp; omega
 refine awp_seq ?_
 refine seqR ?_
 refine mG (.i (k : Int)) ?_
 refine mG (.q eN a) ?_
 refine oG (qN ut91 ?_)
 refine bG ((.bool (decide ((k : Int) < (a.length : Int))))) ?_
 refine rU (upd (Z8e a c k) 10 (.b (decide ((k : Int) < (a.length : Int))))) (Z8f a k c) ?_
 refine awp_cond (decide ((k : Int) < (a.length : Int))) rfl rfl (fun hc0 => ?_) (fun hc0 => ?_)
 ·skip
  have hf1 := of_decide_eq_true hc0
  refine awp_skip ?_
  refine awp_seq ?_
  refine awp_block ?_
  refine awp_seq ?_
  refine aD 13 [(25, .b ((hasB c ((a.getD k dN).point)) != ((a.getD k dN).right))), (24, .b ((a.getD k dN).right)), (23, .rp (([.b ((a.getD k dN).right)] : List AV) ++ ((enc eN a).drop ((k + 1) * 2)))), (22, .rp (((Z8b a k) : List AV) ++ ((enc eN a).drop ((k + 1) * 2)))), (21, .i (k : Int)), (20, .q eN a), (19, .b (hasB c ((a.getD k dN).point))), (18, .i ((a.getD k dN).point)), (17, .rp (((Z8b a k) : List AV) ++ ((enc eN a).drop ((k + 1) * 2)))), (16, .rp (((Z8b a k) : List AV) ++ ((enc eN a).drop ((k + 1) * 2)))), (15, .i (k : Int)), (14, .q eN a), (13, .q eB c)] mixed ?_ ?_
  ·iterate 13 (refine ⟨?_, ?_⟩; rotate_left)
   trivial
   ·exact sMv
   ·exact sMv
   ·exact sMv
   ·exact (sIx dN ut91 sz110)
   ·exact sF (Z8d a k) (Z8d a k) ft110_0 sz3
   ·exact (sLd ag3)
   ·exact dW 19 fun st hob hE => call_ (r14_stands c ((a.getD k dN).point) oo) rfl rfl rfl rfl rfl bd59 (by show [st.env 13, st.env 18] ++ _ = _; rw [hE 13 rfl, hE 18 rfl]; rfl) (by rw [hob]; rfl)
   ·exact sMv
   ·exact sMv
   ·exact (sIx dN ut91 sz110)
   ·exact sF (Z8d a k) (.rp (([.b ((a.getD k dN).right)] : List AV) ++ ((enc eN a).drop ((k + 1) * 2)))) ft110_1 sz4
   ·exact (sLd ag4)
   exact dW 25 fun st hob hE => aop_neB rfl rfl rfl (hE 19 rfl) (hE 24 rfl) ut4 (by rw [hob]; rfl)
  refine op0 ?_
  refine awp_cond ((hasB c ((a.getD k dN).point)) != ((a.getD k dN).right)) rfl rfl (fun hc1 => ?_) (fun hc1 => ?_)
  ·skip
   refine regR ?_
   refine mG (.sl 1 0 ((movesL (a.take k) c).length)) ?_
   refine mG (.q eN a) ?_
   refine mG (.i (k : Int)) ?_
   refine oG (qX dN ut91 sz110 ?_)
   refine oG (qLB (Z8b a k) ag110 sz110 ?_)
   refine oG (aop_lit rfl rfl rfl ut91 iz110 (by decide) (by decide) rfl rfl ?_)
   refine oG (aop_app1 (f := eN) (l := movesL (a.take k) c) 52 (Z8c a k) rfl rfl rfl rfl ut91 in110 rfl (by decide) rfl rfl rfl rfl rfl rfl (fun _ => rfl) rfl rfl oo oo rfl ?_)
   refine mG (.sl 52 0 (((movesL (a.take k) c) ++ [(Z8c a k)]).length)) ?_
   refine op0 ?_
   refine rT (upd (upd (upd (upd (upd none_ 0 (.q eN a)) 1 (.q eB c)) 4 vN) 5 (.sl 52 0 (((movesL (a.take k) c) ++ [(Z8c a k)]).length))) 6 (.i (k : Int))) (updO (updO (Z8f a k c) 1 .dead) 52 (.live ⟨(enc eN ((movesL (a.take k) c) ++ [(Z8c a k)])), 110, 2⟩)) ?_
   refine regR ?_
   refine mG (.i (k : Int)) ?_
   refine oG (qB (.int .i64 ((k + 1 : Nat) : Int)) (addN om) ?_)
   refine mG (.i ((k + 1 : Nat) : Int)) ?_
   refine op0 ?_
   show _ ∧ _
   have hs := movesL_on (needs := a) (right := c) (k := k) om hc1
   refine ⟨by omega, trivial, ?_⟩
   exact iI 52 1 rfl (he := (sS rfl (sM (by exact congrArg (AV.sl 1 0) (congrArg List.length hs)) (sS rfl (sS rfl (sS rfl sr_none)))))) (hoo := (by exact congrArg (fun l_ => LObj.mk (enc eN l_) 110 2) hs.symm))
  refine awp_skip ?_
  refine regR ?_
  refine mG (.i (k : Int)) ?_
  refine oG (qB (.int .i64 ((k + 1 : Nat) : Int)) (addN om) ?_)
  refine mG (.i ((k + 1 : Nat) : Int)) ?_
  refine op0 ?_
  show _ ∧ _
  have hs := movesL_off (needs := a) (right := c) (k := k) om hc1
  refine ⟨by omega, trivial, ?_⟩
  exact iI 1 1 rfl (he := (sS rfl (sM (by exact congrArg (AV.sl 1 0) (congrArg List.length hs)) (sS rfl (sS rfl (sS rfl sr_none)))))) (hoo := (by exact congrArg (fun l_ => LObj.mk (enc eN l_) 110 2) hs.symm))
 have hf2 := of_decide_eq_false hc0
 refine awp_exit ?_
 refine seqR ?_
 refine mG (.sl 1 0 ((movesL (a.take k) c).length)) ?_
 refine mG (.sl 1 0 ((movesL (a.take k) c).length)) ?_
 refine op0 ?_
 have he : movesL (a.take k) c = movesL a c := by rw [List.take_of_length_le om]
 refine awp_imp _ (imp_frozen rfl (fun _ h => h) (lee_lend 4 (.q eN (movesL (a.take k) c)) (lend_s (id := 1) (n := (movesL (a.take k) c).length) (o := ⟨(enc eN (movesL (a.take k) c)), 110, 2⟩) rfl (enc_len (fun _ => rfl) (by first | rfl | (simp; done)))) lee_lend0)) ?_
 refine awp_ret ?_
 exact fret (av := .ro ((movesL (a.take k) c).length) (enc eN (movesL (a.take k) c))) rfl rfl (by rw [he] <;> rfl)
end Go.Lo
