/- Walks of Go functions in the logic of values: what the law reaches. -/
import Derived.Test.YtdeajfldegcdaaaPFnOr3
set_option linter.unusedVariables false
set_option linter.unusedSimpArgs false
set_option maxRecDepth 10000
set_option maxHeartbeats 16000000
namespace Go.Lo
open Go.Proofs
abbrev Z6n : Nat → AV := (upd none_ 0 (.b false))
abbrev Z6m : List AV := (enc eU8 (tnK dnR (mkParts 0 0) [0, 0, 0] [-2, -2, -2] 2 (0 : Int) 3 (-1) dn1 dn1.length))
abbrev Z6l : LObj := ⟨[.i (0 : Int), .i 3, .i (-1), .sl 55 0 ((List.replicate (pthR dnR (0 : Int)).length (1 : Int)).length)], 47, 1⟩
abbrev Z6k : List AV := [.q eB (moveL ([] : List Bool) (movesL (paL (mkSecs 0 0) (mkPts 0) (dnR.getD (0 : Int).toNat [])) ([] : List Bool))), .i 0]
abbrev Z6j : List AV := (enc eU8 (List.replicate (pthR dnR (0 : Int)).length (1 : Int)))
abbrev Z6g : Nat → AV := (upd (upd Z6n 2 (.pt 52 0)) 4 (.i 0))
abbrev Z6f : LObj := ⟨[.i (0 : Int), .i 3, .i (-1), .sl 55 0 ((tnK dnR (mkParts 0 0) [0, 1, 0] [-2, 3, -2] 1 (0 : Int) 3 (-1) (List.replicate (pthR dnR 0).length (1 : Int)) (List.replicate (pthR dnR 0).length (1 : Int)).length).length)], 47, 1⟩
abbrev Z6e : List AV := [.one, .q eSec (mkSecs 0 0), .q eIL (mkParts 0 0), .q ePnt (mkPts 0), .ro 1 (enc eIL dnR), .i (1 + 0 % (2 * (10 * (1 + 0 % 20)))), .i (1 + 0 % 1000), .i (1 + 0 % 1000), .i (1 + 0), .i (0 % 4)]
abbrev Z6c : List AV := (enc eU8 (tnK dnR (mkParts 0 0) [0, 1, 0] [-2, 3, -2] 1 (0 : Int) 3 (-1) (List.replicate (pthR dnR 0).length (1 : Int)) (List.replicate (pthR dnR 0).length (1 : Int)).length))
abbrev Z6b : Nat → OSt := (updO (updO noOb 51 (.live ⟨[vN, vN, vN, vN, vN, .i 0, .i 0, .i 0, .i 0, .i 0], 33, 1⟩)) 51 (.live ⟨[.one, .q eSec (mkSecs 0 0), .q eIL (mkParts 0 0), .q ePnt (mkPts 0), vN, .i (1 + 0 % (2 * (10 * (1 + 0 % 20)))), .i (1 + 0 % 1000), .i (1 + 0 % 1000), .i (1 + 0), .i (0 % 4)], 33, 1⟩))
abbrev Z68 : List AV := [.one, .q eSec (mkSecs 0 0), .q eIL (mkParts 0 0), .q ePnt (mkPts 0), .one, .one, .one, .one, .one, .one]
abbrev Z6h : LObj := ⟨[.one, .q eSec (mkSecs 0 0), .q eIL (mkParts 0 0), .q ePnt (mkPts 0), .q eIL dnR, .one, .one, .one, .i (1 + 0), .one, .rp Z68, vN], 65, 1⟩
abbrev Z6d : LObj := ⟨[.one, .q eSec (mkSecs 0 0), .q eIL (mkParts 0 0), .q ePnt (mkPts 0), .q eIL dnR, .one, .one, .one, .i (1 + 0), .one, .rp Z68, .sl 53 0 1], 65, 1⟩
abbrev Z69 : Nat → OSt := (updO (updO (updO (updO (updO (updO Z6b 51 (.live ⟨Z6e, 33, 1⟩)) 52 (.live Z6h)) 52 (.live Z6d)) 53 (.live ⟨[.pt 54 0], 69, 1⟩)) 54 (.live Z6l)) 55 (.live ⟨Z6j, 5, 1⟩))
abbrev Z67 : Nat → OSt := (updO (updO (updO (updO Z69 52 (.live Z6d)) 53 (.live ⟨[.pt 54 0], 69, 1⟩)) 54 (.live Z6f)) 55 (.live ⟨Z6c, 5, 1⟩))
abbrev Z6i : Nat → OSt := (updO (updO Z67 56 (.live ⟨[.i (0 : Int), .i 3, .i (-1), .sl 57 0 dn1.length], 47, 4⟩)) 57 (.live ⟨(enc eU8 dn1), 5, 1⟩))
abbrev Z6a : Nat → OSt := (updO (updO (updO (updO Z6i 52 (.live ⟨[.one, .q eSec (mkSecs 0 0), .q eIL (mkParts 0 0), .q ePnt (mkPts 0), .q eIL dnR, .one, .one, .one, .i (1 + 0), .one, .rp Z68, .sl 53 0 0], 65, 1⟩)) 53 (.live ⟨[.v (.pointer none)], 69, 1⟩)) 54 (.live ⟨[.i (0 : Int), .i 3, .i (-1), .sl 55 0 ((tnK dnR (mkParts 0 0) [0, 0, 0] [-2, -2, -2] 2 (0 : Int) 3 (-1) dn1 dn1.length).length)], 47, 1⟩)) 55 (.live ⟨Z6m, 5, 1⟩))
theorem l15_done   : Fn Try.prog 6 [] (.v (.bool true)) := by
 have hel := mkEnds_len 0
 have hsl := mkSecs_len 0 0
 have hpl := mkPts_len 0
 refine fnE_of_body (N := 42) Try.func6 rfl rfl (resOf1 rfl) (by simp) (fun w0 X hL_ => ?_)
 refine seqR ?_
 refine mG (.b false) ?_
 refine op0 ?_
 refine seqR ?_
 refine oG (qD pl25 ?_)
 refine oG (qC (r04_Make 0 0 0 0 0 0 0 0 (by decide) (by decide) (by decide) (by decide) (by decide) (by decide) (by decide) (by decide)) bd19 ?_)
 refine oG (aop_alloc 51 rfl rfl rfl rfl ze33 rfl ?_)
 refine oG (qS sz33 ?_)
 refine rU (upd Z6n 1 (.pt 51 0)) Z6b ?_
 refine seqR ?_
 refine oG (aop_lit (cells := enc eI ([0, 1] : List Int)) rfl rfl rfl ut42 iz3 (by decide) (by decide) rfl rfl ?_)
 refine oG (aop_lit (cells := enc eIL dnR) rfl rfl rfl ut30 iz42 (by decide) (by decide) rfl rfl ?_)
 refine fG (.pt 51 4) ft33_4 sz30 ?_
 refine oG (qS sz30 ?_)
 refine rU (upd Z6n 1 (.pt 51 0)) (updO Z6b 51 (.live ⟨Z6e, 33, 1⟩)) ?_
 refine seqR ?_
 refine oG (qLB Z6e ag33 sz33 ?_)
 refine oG (callN_ 52 (r_New (mkSecs 0 0) (mkParts 0 0) (mkPts 0) dnR (1 + 0)) rfl rfl rfl rfl rfl bd9 (fun _ => lS) newsN1 (free1 rfl) rfl rfl ?_)
 refine mG (.pt 52 0) ?_
 refine op0 ?_
 refine seqR ?_
 refine mG (.pt 52 0) ?_
 refine oG (aop_lit (cells := enc eU8 ([0, 0, 0] : List Int)) rfl rfl rfl ut37 iz5 (by decide) (by decide) rfl rfl ?_)
 refine oG (callG_ false [52] [53, 54, 55] (r_SetN (mkSecs 0 0) (mkParts 0 0) (mkPts 0) dnR (1 + 0) 0 3 [0, 0, 0] (by decide +kernel) (by decide +kernel) (by decide) (by decide) (by decide) (by decide) (by decide) dn_free dn_may) rfl rfl rfl rfl rfl bd10 (by decide) ⟨giv_no (o := Z6h) rfl rfl, trivial⟩ ⟨(arg_own (.pt _ _ (by simp)) rfl), (arg_no (a := .i 0)), (arg_no (a := .i 3)), (arg_no (a := .ro 3 (enc eU8 ([0, 0, 0] : List Int)))), (arg_no (a := vN)), (arg_no (a := vN)), trivial⟩ rfl ⟨rfl, rfl, rfl, trivial⟩ (fun h => by cases h) (am_no (a := .tup Z6k)) (place_cons (ost_map (lm_cons (am_no (a := .one)) (lm_cons (am_no (a := .q eSec (mkSecs 0 0))) (lm_cons (am_no (a := .q eIL (mkParts 0 0))) (lm_cons (am_no (a := .q ePnt (mkPts 0))) (lm_cons (am_no (a := .q eIL dnR)) (lm_cons (am_no (a := .one)) (lm_cons (am_no (a := .one)) (lm_cons (am_no (a := .one)) (lm_cons (am_no (a := .i (1 + 0))) (lm_cons (am_no (a := .one)) (lm_cons (am_no (a := .rp Z68)) (lm_cons rfl lm_nil))))))))))))) (place_cons (ost_map (lm_cons rfl lm_nil)) (place_cons (ost_map (lm_cons (am_no (a := .i (0 : Int))) (lm_cons (am_no (a := .i 3)) (lm_cons (am_no (a := .i (-1))) (lm_cons rfl lm_nil))))) (place_cons (ost_no (cs := Z6j)) place_nil)))) ?_)
 refine mG (.tup Z6k) ?_
 refine oG (qE ?_)
 refine oG (qE ?_)
 refine mG (.q eB (moveL ([] : List Bool) (movesL (paL (mkSecs 0 0) (mkPts 0) (dnR.getD (0 : Int).toNat [])) ([] : List Bool)))) ?_
 refine mG (.i 0) ?_
 refine rU Z6g Z69 ?_
 refine seqR ?_
 refine mG (.pt 52 0) ?_
 refine oG (aop_lit (cells := enc eU8 ([0, 1, 0] : List Int)) rfl rfl rfl ut37 iz5 (by decide) (by decide) rfl rfl ?_)
 refine oG (aop_lit (cells := enc eI ([-2, 3, -2] : List Int)) rfl rfl rfl ut42 iz3 (by decide) (by decide) rfl rfl ?_)
 refine oG (callG_ false [52, 53, 54, 55] [] (r_StepO (mkSecs 0 0) (mkParts 0 0) (mkPts 0) dnR (1 + 0) 0 3 (-1) (List.replicate (pthR dnR 0).length (1 : Int)) 1 [0, 1, 0] [-2, 3, -2] (by decide) (by decide) (by decide +kernel) (by decide) (by decide +kernel) (by decide +kernel) (by decide) (by decide) (by decide) dn_part dn_1) rfl rfl rfl rfl rfl bd11 (by decide) ⟨giv_map (o := Z6d) rfl (om_ (lm_cons (am_no (a := .one)) (lm_cons (am_no (a := .q eSec (mkSecs 0 0))) (lm_cons (am_no (a := .q eIL (mkParts 0 0))) (lm_cons (am_no (a := .q ePnt (mkPts 0))) (lm_cons (am_no (a := .q eIL dnR)) (lm_cons (am_no (a := .one)) (lm_cons (am_no (a := .one)) (lm_cons (am_no (a := .one)) (lm_cons (am_no (a := .i (1 + 0))) (lm_cons (am_no (a := .one)) (lm_cons (am_no (a := .rp Z68)) (lm_cons rfl lm_nil))))))))))))) (oks_cons (ok_no (a := .one)) (oks_cons (ok_no (a := .q eSec (mkSecs 0 0))) (oks_cons (ok_no (a := .q eIL (mkParts 0 0))) (oks_cons (ok_no (a := .q ePnt (mkPts 0))) (oks_cons (ok_no (a := .q eIL dnR)) (oks_cons (ok_no (a := .one)) (oks_cons (ok_no (a := .one)) (oks_cons (ok_no (a := .one)) (oks_cons (ok_no (a := .i (1 + 0))) (oks_cons (ok_no (a := .one)) (oks_cons (ok_no (a := .rp Z68)) (oks_cons (.sl _ _ _ (by simp)) oks_nil)))))))))))), giv_map (o := ⟨[.pt 54 0], 69, 1⟩) rfl (om_ (lm_cons rfl lm_nil)) (oks_cons (.pt _ _ (by simp)) oks_nil), giv_map (o := Z6l) rfl (om_ (lm_cons (am_no (a := .i (0 : Int))) (lm_cons (am_no (a := .i 3)) (lm_cons (am_no (a := .i (-1))) (lm_cons rfl lm_nil))))) (oks_cons (ok_no (a := .i (0 : Int))) (oks_cons (ok_no (a := .i 3)) (oks_cons (ok_no (a := .i (-1))) (oks_cons (.sl _ _ _ (by simp)) oks_nil)))), giv_no (o := ⟨Z6j, 5, 1⟩) rfl rfl, trivial⟩ ⟨(arg_own (.pt _ _ (by simp)) rfl), (arg_no (a := .i 1)), (arg_no (a := .ro 3 (enc eU8 ([0, 1, 0] : List Int)))), (arg_no (a := .ro 3 (enc eI ([-2, 3, -2] : List Int)))), trivial⟩ rfl trivial (fun h => by cases h) (am_no (a := .tup [])) (place_cons (ost_map (lm_cons (am_no (a := .one)) (lm_cons (am_no (a := .q eSec (mkSecs 0 0))) (lm_cons (am_no (a := .q eIL (mkParts 0 0))) (lm_cons (am_no (a := .q ePnt (mkPts 0))) (lm_cons (am_no (a := .q eIL dnR)) (lm_cons (am_no (a := .one)) (lm_cons (am_no (a := .one)) (lm_cons (am_no (a := .one)) (lm_cons (am_no (a := .i (1 + 0))) (lm_cons (am_no (a := .one)) (lm_cons (am_no (a := .rp Z68)) (lm_cons rfl lm_nil))))))))))))) (place_cons (ost_map (lm_cons rfl lm_nil)) (place_cons (ost_map (lm_cons (am_no (a := .i (0 : Int))) (lm_cons (am_no (a := .i 3)) (lm_cons (am_no (a := .i (-1))) (lm_cons rfl lm_nil))))) (place_cons (ost_no (cs := Z6c)) place_nil)))) ?_)
 refine rU Z6g Z67 ?_
 refine seqR ?_
 refine mG (.pt 52 0) ?_
 refine oG (callG_ true [] [56, 57] (r_LocksO 0 3 (-1) dn1 (by decide)) rfl rfl rfl rfl rfl bd12 (by decide) trivial ⟨(arg_lent (lend_pt rfl (lends_cons (lend_n (av := .one)) (lends_cons (.one _ rfl) (lends_cons (.one _ rfl) (lends_cons (.one _ rfl) (lends_cons (.one _ rfl) (lends_cons (lend_n (av := .one)) (lends_cons (lend_n (av := .one)) (lends_cons (lend_n (av := .one)) (lends_cons (.one _ rfl) (lends_cons (lend_n (av := .one)) (lends_cons (.one _ rfl) (lends_cons (lend_rowX (o := ⟨[.pt 54 0], 69, 1⟩) rfl (lends_cons (lend_pt rfl (lends_cons (lend_n (av := .i (0 : Int))) (lends_cons (lend_n (av := .i 3)) (lends_cons (lend_n (av := .i (-1))) (lends_cons (lend_s (id := 55) (n := (tnK dnR (mkParts 0 0) [0, 1, 0] [-2, 3, -2] 1 (0 : Int) 3 (-1) (List.replicate (pthR dnR 0).length (1 : Int)) (List.replicate (pthR dnR 0).length (1 : Int)).length).length) (o := ⟨Z6c, 5, 1⟩) rfl (enc_len (fun _ => rfl) (by first | rfl | (simp; done)))) lends_nil))))) lends_nil) rfl) lends_nil)))))))))))))), trivial⟩ rfl ⟨rfl, rfl, trivial⟩ (fun _ => ⟨.sl _ _ _ trivial, ⟨(by intro c hc; simp at hc; rcases hc with rfl | rfl | rfl | rfl <;> constructor <;> trivial), ⟨(fun c hc => ((inferInstance : FlatL (enc eU8 dn1)).out c hc).mono (fun _ h => h.elim) id), trivial⟩⟩⟩) rfl (place_cons (ost_map (lm_cons (am_no (a := .i (0 : Int))) (lm_cons (am_no (a := .i 3)) (lm_cons (am_no (a := .i (-1))) (lm_cons rfl lm_nil))))) (place_cons (ost_no (cs := (enc eU8 dn1))) place_nil)) ?_)
 refine oG (aop_len rfl rfl rfl rfl ut44 (len_sl rfl) ?_)
 refine mG (.i (1 : Int)) ?_
 refine rU (upd Z6g 5 (.i (1 : Int))) Z6i ?_
 refine seqR ?_
 refine mG (.pt 52 0) ?_
 refine oG (aop_lit (cells := enc eU8 ([0, 0, 0] : List Int)) rfl rfl rfl ut37 iz5 (by decide) (by decide) rfl rfl ?_)
 refine oG (aop_lit (cells := enc eI ([-2, -2, -2] : List Int)) rfl rfl rfl ut42 iz3 (by decide) (by decide) rfl rfl ?_)
 refine oG (callG_ false [52, 53, 54, 55] [] (r_StepD (mkSecs 0 0) (mkParts 0 0) (mkPts 0) dnR (1 + 0) 0 3 (-1) dn1 2 [0, 0, 0] [-2, -2, -2] (by decide) (by decide) (by decide +kernel) (by decide) (by decide +kernel) (by decide +kernel) (by decide) (by decide) (by decide) dn_part dn_2) rfl rfl rfl rfl rfl bd11 (by decide) ⟨giv_map (o := Z6d) rfl (om_ (lm_cons (am_no (a := .one)) (lm_cons (am_no (a := .q eSec (mkSecs 0 0))) (lm_cons (am_no (a := .q eIL (mkParts 0 0))) (lm_cons (am_no (a := .q ePnt (mkPts 0))) (lm_cons (am_no (a := .q eIL dnR)) (lm_cons (am_no (a := .one)) (lm_cons (am_no (a := .one)) (lm_cons (am_no (a := .one)) (lm_cons (am_no (a := .i (1 + 0))) (lm_cons (am_no (a := .one)) (lm_cons (am_no (a := .rp Z68)) (lm_cons rfl lm_nil))))))))))))) (oks_cons (ok_no (a := .one)) (oks_cons (ok_no (a := .q eSec (mkSecs 0 0))) (oks_cons (ok_no (a := .q eIL (mkParts 0 0))) (oks_cons (ok_no (a := .q ePnt (mkPts 0))) (oks_cons (ok_no (a := .q eIL dnR)) (oks_cons (ok_no (a := .one)) (oks_cons (ok_no (a := .one)) (oks_cons (ok_no (a := .one)) (oks_cons (ok_no (a := .i (1 + 0))) (oks_cons (ok_no (a := .one)) (oks_cons (ok_no (a := .rp Z68)) (oks_cons (.sl _ _ _ (by simp)) oks_nil)))))))))))), giv_map (o := ⟨[.pt 54 0], 69, 1⟩) rfl (om_ (lm_cons rfl lm_nil)) (oks_cons (.pt _ _ (by simp)) oks_nil), giv_map (o := Z6f) rfl (om_ (lm_cons (am_no (a := .i (0 : Int))) (lm_cons (am_no (a := .i 3)) (lm_cons (am_no (a := .i (-1))) (lm_cons rfl lm_nil))))) (oks_cons (ok_no (a := .i (0 : Int))) (oks_cons (ok_no (a := .i 3)) (oks_cons (ok_no (a := .i (-1))) (oks_cons (.sl _ _ _ (by simp)) oks_nil)))), giv_no (o := ⟨Z6c, 5, 1⟩) rfl rfl, trivial⟩ ⟨(arg_own (.pt _ _ (by simp)) rfl), (arg_no (a := .i 2)), (arg_no (a := .ro 3 (enc eU8 ([0, 0, 0] : List Int)))), (arg_no (a := .ro 3 (enc eI ([-2, -2, -2] : List Int)))), trivial⟩ rfl trivial (fun h => by cases h) (am_no (a := .tup [])) (place_cons (ost_map (lm_cons (am_no (a := .one)) (lm_cons (am_no (a := .q eSec (mkSecs 0 0))) (lm_cons (am_no (a := .q eIL (mkParts 0 0))) (lm_cons (am_no (a := .q ePnt (mkPts 0))) (lm_cons (am_no (a := .q eIL dnR)) (lm_cons (am_no (a := .one)) (lm_cons (am_no (a := .one)) (lm_cons (am_no (a := .one)) (lm_cons (am_no (a := .i (1 + 0))) (lm_cons (am_no (a := .one)) (lm_cons (am_no (a := .rp Z68)) (lm_cons rfl lm_nil))))))))))))) (place_cons (ost_no (cs := [.v (.pointer none)])) (place_cons (ost_map (lm_cons (am_no (a := .i (0 : Int))) (lm_cons (am_no (a := .i 3)) (lm_cons (am_no (a := .i (-1))) (lm_cons rfl lm_nil))))) (place_cons (ost_no (cs := Z6m)) place_nil)))) ?_)
 refine rU (upd Z6g 5 (.i (1 : Int))) Z6a ?_
 refine seqR ?_
 refine mG (.i 0) ?_
 refine bG ((.bool true)) ?_
 refine mG (.b true) ?_
 refine opY rfl rfl rfl rfl (aop_move (av := .i (1 : Int)) (.inl rfl) rfl rfl rfl ?_)
 refine opY rfl rfl rfl rfl (aop_binI (u := (.bool ((1 : Int) == 1))) rfl rfl rfl rfl rfl trivial rfl ?_)
 refine oG (aop_pick (b := true) (av := .b ((1 : Int) == 1)) rfl rfl rfl rfl rfl ?_)
 refine mG (.b ((1 : Int) == 1)) ?_
 refine aops_grp 5 41 (.b (((1 : Int) == 1) && true)) ?_ ?_
 ·refine (Bool.eq_false_or_eq_true ((1 : Int) == 1)).elim (fun hg1 => ?_) (fun hg1 => ?_)
  ·skip
   have hf2 := (beq_iff_eq).1 hg1
   refine oY hg1 (qM (.pt 52 0) ?_)
   refine oY hg1 (callL_ (r_Locks0 ()) rfl rfl rfl rfl rfl bd12 (lends_cons (lend_pt rfl (lends_cons (lend_n (av := .one)) (lends_cons (.one _ rfl) (lends_cons (.one _ rfl) (lends_cons (.one _ rfl) (lends_cons (.one _ rfl) (lends_cons (lend_n (av := .one)) (lends_cons (lend_n (av := .one)) (lends_cons (lend_n (av := .one)) (lends_cons (.one _ rfl) (lends_cons (lend_n (av := .one)) (lends_cons (.one _ rfl) (lends_cons (lend_row0 rfl) lends_nil))))))))))))) lends_nil) ?_)
   refine oY hg1 (aop_len rfl rfl rfl rfl ut44 (len_nil rfl) ?_)
   refine oY hg1 (qB (.bool true) rfl ?_)
   refine oG (qP ((1 : Int) == 1) (.b true) hg1 ?_)
   refine op0 ?_
   exact imp_env (lee_both 41 _ _ (by rw [hg1] <;> rfl) lO)
  have hf3 := (beq_eq_false_iff_ne).1 hg1
  refine nG hg1 ?_
  refine nG hg1 ?_
  refine nG hg1 ?_
  refine nG hg1 ?_
  refine oG (qP ((1 : Int) == 1) (.b false) hg1 ?_)
  refine op0 ?_
  exact imp_env (lee_both 41 _ _ (by rw [hg1] <;> rfl) lO)
 refine mG (.b (((1 : Int) == 1) && true)) ?_
 refine op0 ?_
 refine rT (upd none_ 0 (.b (((1 : Int) == 1) && true))) Z6a ?_
 refine awp_ret ?_
 exact fret (av := .v (.bool (((1 : Int) == 1) && true))) rfl rfl rfl
abbrev Z6v (g : Int) (ow : List Int) : Nat → AV := (upd (upd (upd (upd (upd (upd none_ 0 (.pt 0 0)) 1 (.i g)) 3 (.q eI ow)) 16 (.sl 1 0 1)) 17 (.i 1)) 18 (.i 1))
abbrev Z6r (g : Int) (e ow : List Int) : Nat → AV := (upd (upd (upd (upd none_ 0 (.pt 0 0)) 1 (.i g)) 2 (.sl 4 0 e.length)) 3 (.q eI ow))
abbrev Z6p (m : List Sec) (c : List (List Int)) (p : List Pnt) : List AV := [.one, .q eSec m, .q eIL c, .q ePnt p, .one, .one, .one, .one, .one, .one]
abbrev Z6o (m : List Sec) (c : List (List Int)) (p : List Pnt) (d : List (List Int)) (cn : Int) : LObj := ⟨[.one, .q eSec m, .q eIL c, .q ePnt p, .q eIL d, .one, .one, .one, .i cn, .one, .rp (Z6p m c p), .sl 1 0 1], 65, 1⟩
abbrev Z6u (g : Int) (e ow : List Int) : Nat → AV := (upd (upd (upd (upd (Z6r g e ow) 9 (.pt 2 0)) 16 (.sl 1 0 1)) 17 (.i 1)) 18 (.i 0))
abbrev Z6t (m : List Sec) (c : List (List Int)) (p : List Pnt) (d : List (List Int)) (cn : Int) : Nat → OSt := (updO (updO noOb 0 (.live (Z6o m c p d cn))) 1 (.live ⟨[.pt 2 0], 69, 1⟩))
abbrev Z6s (m : List Sec) (c : List (List Int)) (p : List Pnt) (d : List (List Int)) (cn r tr en : Int) (e ow : List Int) (g : Int) (ps : List Int) : Nat → OSt := (updO (updO (updO (Z6t m c p d cn) 2 (.live ⟨[.i r, .i tr, .i en, .sl 3 0 ((tnK d c e ow g r tr en ps ps.length).length)], 47, 1⟩)) 3 (.live ⟨(enc eU8 (tnK d c e ow g r tr en ps ps.length)), 5, 1⟩)) 4 (.live ⟨(enc eU8 e), 5, 1⟩))
abbrev Z6q (m : List Sec) (c : List (List Int)) (p : List Pnt) (d : List (List Int)) (cn r tr en : Int) (e ow : List Int) (g : Int) (ps : List Int) : Nat → OSt := (updO (updO (updO (Z6t m c p d cn) 2 (.live ⟨[.i r, .i tr, .i en, .sl 3 0 ((tnK d c e ow g r tr en ps 0).length)], 47, 1⟩)) 3 (.live ⟨(enc eU8 (tnK d c e ow g r tr en ps 0)), 5, 1⟩)) 4 (.live ⟨(enc eU8 e), 5, 1⟩))
theorem r_StepWO (m : List Sec) (c : List (List Int)) (p : List Pnt) (d : List (List Int)) (cn : Int) (r tr en : Int) (ps : List Int) (g : Int) (e ow : List Int) (hro : d.length ≤ 65536) (hr : 0 ≤ r ∧ r < (d.length : Int)) (hp : ps.length + 1 = (d.getD r.toNat []).length) (hpl : (d.getD r.toNat []).length ≤ 65536) (hpa : c.length ≤ 65536) (hpp : ∀ x, x ∈ c → x.length ≤ 65536) (hst : e.length ≤ 65536) (how : ow.length ≤ 65536) (hin : ∀ s, s ∈ pthR d r → 0 ≤ s ∧ s < (e.length : Int)) (hpo : ∀ s : Int, 0 ≤ s → s < (e.length : Int) → 0 ≤ partI c s ∧ partI c s < (ow.length : Int)) (ha : (tnK d c e ow g r tr en ps ps.length).any (fun b : Int => b != 0) = true) : FnGO Try.prog 11 [⟨[.one, .ro m.length (enc eSec m), .ro c.length (enc eIL c), .ro p.length (enc ePnt p), .ro d.length (enc eIL d), .one, .one, .one, .v (.int .i64 cn), .one, .rp [.one, .ro m.length (enc eSec m), .ro c.length (enc eIL c), .ro p.length (enc ePnt p), .one, .one, .one, .one, .one, .one], .sl 1 0 1], 65, 1⟩, ⟨[.pt 2 0], 69, 1⟩, ⟨[.v (.int .i64 r), .v (.int .i64 tr), .v (.int .i64 en), .sl 3 0 ps.length], 47, 1⟩, ⟨(enc eU8 ps), 5, 1⟩, ⟨(enc eU8 e), 5, 1⟩] [.pt 0 0, .v (.int .i64 g), .sl 4 0 e.length, .ro ow.length (enc eI ow)] (.tup []) [.live ⟨[.one, .ro m.length (enc eSec m), .ro c.length (enc eIL c), .ro p.length (enc ePnt p), .ro d.length (enc eIL d), .one, .one, .one, .v (.int .i64 cn), .one, .rp [.one, .ro m.length (enc eSec m), .ro c.length (enc eIL c), .ro p.length (enc ePnt p), .one, .one, .one, .one, .one, .one], .sl 1 0 1], 65, 1⟩, .live ⟨[.pt 2 0], 69, 1⟩, .live ⟨[.v (.int .i64 r), .v (.int .i64 tr), .v (.int .i64 en), .sl 3 0 ((tnK d c e ow g r tr en ps ps.length).length)], 47, 1⟩, .live ⟨(enc eU8 (tnK d c e ow g r tr en ps ps.length)), 5, 1⟩, .live ⟨(enc eU8 e), 5, 1⟩] := by
 have hln := fun j => tnK_len (routes := d) (parts := c) (st := e) (ow := ow) (now := g) (r := r) (tr := tr) (en := en) (ps := ps) j
 have hl0 := hln 0
 refine fnG_of_body (N := 53) 5 rfl Try.func11 rfl rfl (resOf0 rfl) (by simp) (fun w0 G C hL_ hLG_ => ?_)
 refine awp_seq ?_
 refine seqR ?_
 refine mG (.pt 0 0) ?_
 refine oG (aop_ptNil rfl rfl rfl ut35 rfl rfl rfl (.inl ⟨rfl, rfl⟩) ?_)
 refine op0 ?_
 refine awp_cond false rfl rfl (fun h => by cases h) (fun _ => ?_)
 refine awp_skip ?_
 refine awp_seq ?_
 refine seqR ?_
 refine mG (.pt 0 0) ?_
 refine oG (aop_nilCheck rfl rfl rfl rfl rfl ?_)
 refine fG (.pt 0 11) ft65_2 sz63 ?_
 refine oG (qL (.sl 1 0 1) ag63 ?_)
 refine oG (aop_len rfl rfl rfl rfl ut63 (len_sl rfl) ?_)
 refine mG (.i 0) ?_
 refine rU (upd (upd (upd (Z6r g e ow) 16 (.sl 1 0 1)) 17 (.i (1 : Int))) 18 (.i 0)) (updO (updO (updO (Z6t m c p d cn) 2 (.live ⟨[.i r, .i tr, .i en, .sl 3 0 ps.length], 47, 1⟩)) 3 (.live ⟨(enc eU8 ps), 5, 1⟩)) 4 (.live ⟨(enc eU8 e), 5, 1⟩)) ?_
 refine awp_block ?_
 refine awp_countI (fun k => match k with | 0 => ⟨(upd (upd (upd (Z6r g e ow) 16 (.sl 1 0 1)) 17 (.i 1)) 18 (.i 0)), (Z6q m c p d cn r tr en e ow g ps)⟩ | _ => ⟨(Z6v g ow), (Z6s m c p d cn r tr en e ow g ps)⟩) (fun _ => True) 1 ?_ trivial (fun k hk_k _ => ?_)
 ·skip
  exact iL [(0, 0), (1, 1), (2, 2), (3, 3), (4, 4)] [((0, 0), .live _), ((1, 1), .live _), ((2, 2), .live _), ((3, 3), .live _), ((4, 4), .live _)] ⟨row_map (o := (Z6o m c p d cn)) rfl (om_ (lm_cons (am_no (a := .one)) (lm_cons (am_no (a := .q eSec m)) (lm_cons (am_no (a := .q eIL c)) (lm_cons (am_no (a := .q ePnt p)) (lm_cons (am_no (a := .q eIL d)) (lm_cons (am_no (a := .one)) (lm_cons (am_no (a := .one)) (lm_cons (am_no (a := .one)) (lm_cons (am_no (a := .i cn)) (lm_cons (am_no (a := .one)) (lm_cons (am_no (a := .rp (Z6p m c p))) (lm_cons rfl lm_nil))))))))))))) (oks_cons (ok_no (a := .one)) (oks_cons (ok_no (a := .q eSec m)) (oks_cons (ok_no (a := .q eIL c)) (oks_cons (ok_no (a := .q ePnt p)) (oks_cons (ok_no (a := .q eIL d)) (oks_cons (ok_no (a := .one)) (oks_cons (ok_no (a := .one)) (oks_cons (ok_no (a := .one)) (oks_cons (ok_no (a := .i cn)) (oks_cons (ok_no (a := .one)) (oks_cons (ok_no (a := .rp (Z6p m c p))) (oks_cons (.sl _ _ _ (by simp)) oks_nil)))))))))))), row_map (o := ⟨[.pt 2 0], 69, 1⟩) rfl (om_ (lm_cons rfl lm_nil)) (oks_cons (.pt _ _ (by simp)) oks_nil), row_map (o := ⟨[.i r, .i tr, .i en, .sl 3 0 ps.length], 47, 1⟩) rfl (om_ (lm_cons (am_no (a := .i r)) (lm_cons (am_no (a := .i tr)) (lm_cons (am_no (a := .i en)) (lm_cons rfl lm_nil))))) (oks_cons (ok_no (a := .i r)) (oks_cons (ok_no (a := .i tr)) (oks_cons (ok_no (a := .i en)) (oks_cons (.sl _ _ _ (by simp)) oks_nil)))), row_no rfl rfl, row_no rfl rfl, trivial⟩
 rcases (show k = 0 ∨ k = 1 by omega) with rfl | rfl
 ·show AWP _ _ _ ⟨(upd (upd (upd (Z6r g e ow) 16 (.sl 1 0 1)) 17 (.i 1)) 18 (.i 0)), (Z6q m c p d cn r tr en e ow g ps)⟩ _
  refine seqR ?_
  refine bG ((.bool true)) ?_
  refine op0 ?_
  refine awp_seq ?_
  refine awp_cond true rfl rfl (fun _ => ?_) (fun h => by cases h)
  refine awp_skip ?_
  refine awp_seq ?_
  refine awp_block ?_
  refine seqR ?_
  refine oG (aop_ixO (k := 0) rfl rfl rfl ut63 sz69 rfl rfl oo ?_)
  refine oG (qL (.pt 2 0) ag69 ?_)
  refine mG (.pt 2 0) ?_
  refine rU (Z6u g e ow) (Z6q m c p d cn r tr en e ow g ps) ?_
  refine seqR ?_
  refine mG (.pt 2 0) ?_
  refine oG (aop_nilCheck rfl rfl rfl rfl rfl ?_)
  refine fG (.pt 2 3) ft47_3 sz37 ?_
  refine oG (qL (.sl 3 0 ((tnK d c e ow g r tr en ps 0).length)) ag37 ?_)
  refine oG (aop_len rfl rfl rfl rfl ut37 (len_sl rfl) ?_)
  refine mG (.i 0) ?_
  refine rU (upd (upd (Z6u g e ow) 26 (.i ((tnK d c e ow g r tr en ps 0).length : Int))) 27 (.i 0)) (Z6q m c p d cn r tr en e ow g ps) ?_
  refine awp_block ?_
  refine awp_countI (fun j => ⟨(upd (upd (Z6u g e ow) 26 (.i ((tnK d c e ow g r tr en ps 0).length : Int))) 27 (.i (j : Int))), (updO (updO (updO (Z6t m c p d cn) 2 (.live ⟨[.i r, .i tr, .i en, .sl 3 0 ((tnK d c e ow g r tr en ps j).length)], 47, 1⟩)) 3 (.live ⟨(enc eU8 (tnK d c e ow g r tr en ps j)), 5, 1⟩)) 4 (.live ⟨(enc eU8 e), 5, 1⟩))⟩) (fun j => True) (ps.length) ?_ trivial (fun j hk_j hinv => ?_)
  ·skip
   exact iL [(0, 0), (1, 1), (2, 2), (3, 3), (4, 4)] [((0, 0), .live _), ((1, 1), .live _), ((2, 2), .live _), ((3, 3), .live _), ((4, 4), .live _)] ⟨row_map (o := (Z6o m c p d cn)) rfl (om_ (lm_cons (am_no (a := .one)) (lm_cons (am_no (a := .q eSec m)) (lm_cons (am_no (a := .q eIL c)) (lm_cons (am_no (a := .q ePnt p)) (lm_cons (am_no (a := .q eIL d)) (lm_cons (am_no (a := .one)) (lm_cons (am_no (a := .one)) (lm_cons (am_no (a := .one)) (lm_cons (am_no (a := .i cn)) (lm_cons (am_no (a := .one)) (lm_cons (am_no (a := .rp (Z6p m c p))) (lm_cons rfl lm_nil))))))))))))) (oks_cons (ok_no (a := .one)) (oks_cons (ok_no (a := .q eSec m)) (oks_cons (ok_no (a := .q eIL c)) (oks_cons (ok_no (a := .q ePnt p)) (oks_cons (ok_no (a := .q eIL d)) (oks_cons (ok_no (a := .one)) (oks_cons (ok_no (a := .one)) (oks_cons (ok_no (a := .one)) (oks_cons (ok_no (a := .i cn)) (oks_cons (ok_no (a := .one)) (oks_cons (ok_no (a := .rp (Z6p m c p))) (oks_cons (.sl _ _ _ (by simp)) oks_nil)))))))))))), row_map (o := ⟨[.pt 2 0], 69, 1⟩) rfl (om_ (lm_cons rfl lm_nil)) (oks_cons (.pt _ _ (by simp)) oks_nil), row_map (o := ⟨[.i r, .i tr, .i en, .sl 3 0 ((tnK d c e ow g r tr en ps 0).length)], 47, 1⟩) rfl (om_ (lm_cons (am_no (a := .i r)) (lm_cons (am_no (a := .i tr)) (lm_cons (am_no (a := .i en)) (lm_cons rfl lm_nil))))) (oks_cons (ok_no (a := .i r)) (oks_cons (ok_no (a := .i tr)) (oks_cons (ok_no (a := .i en)) (oks_cons (.sl _ _ _ (by simp)) oks_nil)))), row_no rfl rfl, row_no rfl rfl, trivial⟩
  have hlj := hln j
  have hlj1 := hln (j + 1)
  refine seqR ?_
  refine bG ((.bool (decide ((j : Int) < ((tnK d c e ow g r tr en ps 0).length : Int))))) ?_
  refine op0 ?_
  refine awp_seq ?_
  refine awp_cond (decide ((j : Int) < ((tnK d c e ow g r tr en ps 0).length : Int))) rfl rfl (fun hc2 => ?_) (fun hc2 => ?_)
  ·skip
   have hf1 := of_decide_eq_true hc2
   have hjl2 : j < ps.length := by omega
   refine awp_skip ?_
   refine awp_seq ?_
   refine awp_block ?_
   refine seqR ?_
   refine mG (.i (j : Int)) ?_
   refine mG (.i (j : Int)) ?_
   refine op0 ?_
   refine aD 13 [(42, .pt 3 (j * 1)), (41, .v (.int .u8 (tnP d c e ow g (⟨r, tr, en, (tnK d c e ow g r tr en ps j)⟩ : Lk) j))), (40, .q eI ow), (39, .sl 4 0 e.length), (38, .i g), (37, .i (j : Int)), (36, .pt 2 0), (35, .pt 0 0), (34, .i (j : Int)), (33, .sl 3 0 ((tnK d c e ow g r tr en ps j).length)), (32, .pt 2 3), (31, .pt 2 0), (30, .pt 2 0)] mixed ?_ ?_
   ·iterate 13 (refine ⟨?_, ?_⟩; rotate_left)
    trivial
    ·exact sMv
    ·exact dW 31 fun st hob hE => aop_nilCheck rfl rfl rfl (hE 30 rfl) rfl (by rw [hob]; rfl)
    ·exact sF (.pt 2 0) (.pt 2 3) ft47_3 sz37
    ·exact sL ag37
    ·exact sMv
    ·exact sMv
    ·exact sMv
    ·exact sMv
    ·exact sMv
    ·exact sMv
    ·exact sMv
    ·exact dW 41 fun st hob hE => callL_ (r_turn d c r tr en (tnK d c e ow g r tr en ps j) j g e ow hro hr om hpl om hpa hpp hst how hin hpo) rfl rfl rfl rfl rfl bd36 (by rw [hob]; show Lends _ ([st.env 35, st.env 36, st.env 37, st.env 38, st.env 39, st.env 40] ++ _) _; rw [hE 35 rfl, hE 36 rfl, hE 37 rfl, hE 38 rfl, hE 39 rfl, hE 40 rfl]; exact (lends_cons (lend_pt rfl lS) (lends_cons (lend_pt rfl (lends_cons (lend_n (av := .i r)) (lends_cons (lend_n (av := .i tr)) (lends_cons (lend_n (av := .i en)) (lends_cons (lend_s (id := 3) (n := (tnK d c e ow g r tr en ps j).length) (o := ⟨(enc eU8 (tnK d c e ow g r tr en ps j)), 5, 1⟩) rfl (enc_len (fun _ => rfl) (by first | rfl | (simp; done)))) lends_nil))))) (lends_cons (lend_n (av := .i (j : Int))) (lends_cons (lend_n (av := .i g)) (lends_cons (lend_s (id := 4) (n := e.length) (o := ⟨(enc eU8 e), 5, 1⟩) rfl (enc_len (fun _ => rfl) (by first | rfl | (simp; done)))) lS)))))) (by rw [hob]; rfl)
    exact dW 42 fun st hob hE => aop_ixO (k := j) rfl rfl rfl ut37 sz5 (hE 33 rfl) (hE 34 rfl) oo (by rw [hob]; rfl)
   refine oG (aop_storeE (f := eU8) (l := tnK d c e ow g r tr en ps j) (l' := (tnK d c e ow g r tr en ps j).set j (tnP d c e ow g (⟨r, tr, en, (tnK d c e ow g r tr en ps j)⟩ : Lk) j : Int)) (tnP d c e ow g (⟨r, tr, en, (tnK d c e ow g r tr en ps j)⟩ : Lk) j : Int) rfl rfl rfl sz5 rfl rfl rfl rfl rfl (fun _ => rfl) oo rfl rfl ?_)
   refine op0 ?_
   refine rT (upd (upd (upd (upd (upd (upd (upd (Z6r g e ow) 9 (.pt 2 0)) 10 (.i (j : Int))) 16 (.sl 1 0 1)) 17 (.i 1)) 18 (.i 0)) 26 (.i ((tnK d c e ow g r tr en ps 0).length : Int))) 27 (.i (j : Int))) (updO (updO (updO (updO (Z6t m c p d cn) 2 (.live ⟨[.i r, .i tr, .i en, .sl 3 0 ((tnK d c e ow g r tr en ps j).length)], 47, 1⟩)) 3 (.live ⟨(enc eU8 (tnK d c e ow g r tr en ps j)), 5, 1⟩)) 4 (.live ⟨(enc eU8 e), 5, 1⟩)) 3 (.live ⟨(enc eU8 ((tnK d c e ow g r tr en ps j).set j (tnP d c e ow g (⟨r, tr, en, (tnK d c e ow g r tr en ps j)⟩ : Lk) j : Int))), 5, 1⟩)) ?_
   refine regR ?_
   refine oG (qB (.int .i64 ((j + 1 : Nat) : Int)) (addN om) ?_)
   refine mG (.i ((j + 1 : Nat) : Int)) ?_
   refine op0 ?_
   show _ ∧ _
   refine ⟨by omega, trivial, ?_⟩
   exact iL [(0, 0), (1, 1), (2, 2), (3, 3), (4, 4)] [((0, 0), .live _), ((1, 1), .live _), ((2, 2), .live _), ((3, 3), .live _), ((4, 4), .live _)] ⟨row_map (o := (Z6o m c p d cn)) rfl (om_ (lm_cons (am_no (a := .one)) (lm_cons (am_no (a := .q eSec m)) (lm_cons (am_no (a := .q eIL c)) (lm_cons (am_no (a := .q ePnt p)) (lm_cons (am_no (a := .q eIL d)) (lm_cons (am_no (a := .one)) (lm_cons (am_no (a := .one)) (lm_cons (am_no (a := .one)) (lm_cons (am_no (a := .i cn)) (lm_cons (am_no (a := .one)) (lm_cons (am_no (a := .rp (Z6p m c p))) (lm_cons rfl lm_nil))))))))))))) (oks_cons (ok_no (a := .one)) (oks_cons (ok_no (a := .q eSec m)) (oks_cons (ok_no (a := .q eIL c)) (oks_cons (ok_no (a := .q ePnt p)) (oks_cons (ok_no (a := .q eIL d)) (oks_cons (ok_no (a := .one)) (oks_cons (ok_no (a := .one)) (oks_cons (ok_no (a := .one)) (oks_cons (ok_no (a := .i cn)) (oks_cons (ok_no (a := .one)) (oks_cons (ok_no (a := .rp (Z6p m c p))) (oks_cons (.sl _ _ _ (by simp)) oks_nil)))))))))))), row_map (o := ⟨[.pt 2 0], 69, 1⟩) rfl (om_ (lm_cons rfl lm_nil)) (oks_cons (.pt _ _ (by simp)) oks_nil), row_map (o := ⟨[.i r, .i tr, .i en, .sl 3 0 ((tnK d c e ow g r tr en ps j).length)], 47, 1⟩) rfl (congrArg (fun n_ : Nat => LObj.mk [.i r, .i tr, .i en, .sl 3 0 n_] 47 1) (hlj.trans hlj1.symm)) (oks_cons (ok_no (a := .i r)) (oks_cons (ok_no (a := .i tr)) (oks_cons (ok_no (a := .i en)) (oks_cons (.sl _ _ _ (by simp)) oks_nil)))), row_no rfl (by exact congrArg (fun l_ => LObj.mk (enc eU8 l_) 5 1) rfl), row_no rfl rfl, trivial⟩
  have hf2 := of_decide_eq_false hc2
  have hjl : j = ps.length := by omega
  refine awp_exit ?_
  refine regR ?_
  refine oG (qB (.int .i64 (0 + 1)) (addI om) ?_)
  refine mG (.i (0 + 1)) ?_
  refine op0 ?_
  show _ ∧ _
  refine ⟨by omega, trivial, ?_⟩
  exact iL [(0, 0), (1, 1), (2, 2), (3, 3), (4, 4)] [((0, 0), .live _), ((1, 1), .live _), ((2, 2), .live _), ((3, 3), .live _), ((4, 4), .live _)] ⟨row_map (o := (Z6o m c p d cn)) rfl (om_ (lm_cons (am_no (a := .one)) (lm_cons (am_no (a := .q eSec m)) (lm_cons (am_no (a := .q eIL c)) (lm_cons (am_no (a := .q ePnt p)) (lm_cons (am_no (a := .q eIL d)) (lm_cons (am_no (a := .one)) (lm_cons (am_no (a := .one)) (lm_cons (am_no (a := .one)) (lm_cons (am_no (a := .i cn)) (lm_cons (am_no (a := .one)) (lm_cons (am_no (a := .rp (Z6p m c p))) (lm_cons rfl lm_nil))))))))))))) (oks_cons (ok_no (a := .one)) (oks_cons (ok_no (a := .q eSec m)) (oks_cons (ok_no (a := .q eIL c)) (oks_cons (ok_no (a := .q ePnt p)) (oks_cons (ok_no (a := .q eIL d)) (oks_cons (ok_no (a := .one)) (oks_cons (ok_no (a := .one)) (oks_cons (ok_no (a := .one)) (oks_cons (ok_no (a := .i cn)) (oks_cons (ok_no (a := .one)) (oks_cons (ok_no (a := .rp (Z6p m c p))) (oks_cons (.sl _ _ _ (by simp)) oks_nil)))))))))))), row_map (o := ⟨[.pt 2 0], 69, 1⟩) rfl (om_ (lm_cons rfl lm_nil)) (oks_cons (.pt _ _ (by simp)) oks_nil), row_map (o := ⟨[.i r, .i tr, .i en, .sl 3 0 ((tnK d c e ow g r tr en ps j).length)], 47, 1⟩) rfl (congrArg (fun n_ : Nat => LObj.mk [.i r, .i tr, .i en, .sl 3 0 n_] 47 1) (by rw [hjl])) (oks_cons (ok_no (a := .i r)) (oks_cons (ok_no (a := .i tr)) (oks_cons (ok_no (a := .i en)) (oks_cons (.sl _ _ _ (by simp)) oks_nil)))), row_no rfl (by exact congrArg (fun l_ => LObj.mk (enc eU8 l_) 5 1) (by rw [hjl])), row_no rfl rfl, trivial⟩
 show AWP _ _ _ ⟨(Z6v g ow), (Z6s m c p d cn r tr en e ow g ps)⟩ _
 refine seqR ?_
 refine bG ((.bool false)) ?_
 refine op0 ?_
 refine awp_seq ?_
 refine awp_cond false rfl rfl (fun h => by cases h) (fun _ => ?_)
 refine awp_exit ?_
 refine regR ?_
 refine mG (.pt 0 0) ?_
 refine mG (.pt 0 0) ?_
 refine oG (aop_nilCheck rfl rfl rfl rfl rfl ?_)
 refine fG (.pt 0 11) ft65_2 sz63 ?_
 refine oG (qL (.sl 1 0 1) ag63 ?_)
 refine oG (callG_ false [1, 2, 3] [] (delLo r tr en (tnK d c e ow g r tr en ps ps.length) (by have := hln ps.length; omega) ha) rfl rfl rfl rfl rfl bd37 (by decide) ⟨giv_map (o := ⟨[.pt 2 0], 69, 1⟩) rfl (om_ (lm_cons rfl lm_nil)) (oks_cons (.pt _ _ (by simp)) oks_nil), giv_map (o := ⟨[.i r, .i tr, .i en, .sl 3 0 ((tnK d c e ow g r tr en ps ps.length).length)], 47, 1⟩) rfl (om_ (lm_cons (am_no (a := .i r)) (lm_cons (am_no (a := .i tr)) (lm_cons (am_no (a := .i en)) (lm_cons rfl lm_nil))))) (oks_cons (ok_no (a := .i r)) (oks_cons (ok_no (a := .i tr)) (oks_cons (ok_no (a := .i en)) (oks_cons (.sl _ _ _ (by simp)) oks_nil)))), giv_no (o := ⟨(enc eU8 (tnK d c e ow g r tr en ps ps.length)), 5, 1⟩) rfl rfl, trivial⟩ ⟨(arg_own (.sl _ _ _ (by simp)) rfl), (arg_no (a := .fn 38 [])), trivial⟩ rfl trivial (fun h => by cases h) rfl (place_cons (ost_map (lm_cons rfl lm_nil)) (place_cons (ost_map (lm_cons (am_no (a := .i r)) (lm_cons (am_no (a := .i tr)) (lm_cons (am_no (a := .i en)) (lm_cons rfl lm_nil))))) (place_cons (ost_no (cs := (enc eU8 (tnK d c e ow g r tr en ps ps.length)))) place_nil))) ?_)
 refine oG (aop_nilCheck rfl rfl rfl rfl rfl ?_)
 refine fG (.pt 0 11) ft65_2 sz63 ?_
 refine oG (qS sz63 ?_)
 refine ops_imp (show Imp _ _ ⟨none_, (Z6s m c p d cn r tr en e ow g ps)⟩ from ?_) (op0 ?_)
 ·skip
  exact iL [(0, 0), (1, 1), (2, 2), (3, 3), (4, 4)] [((0, 0), .live _), ((1, 1), .live _), ((2, 2), .live _), ((3, 3), .live _), ((4, 4), .live _)] ⟨row_map (o := (Z6o m c p d cn)) rfl (om_ (lm_cons (am_no (a := .one)) (lm_cons (am_no (a := .q eSec m)) (lm_cons (am_no (a := .q eIL c)) (lm_cons (am_no (a := .q ePnt p)) (lm_cons (am_no (a := .q eIL d)) (lm_cons (am_no (a := .one)) (lm_cons (am_no (a := .one)) (lm_cons (am_no (a := .one)) (lm_cons (am_no (a := .i cn)) (lm_cons (am_no (a := .one)) (lm_cons (am_no (a := .rp (Z6p m c p))) (lm_cons rfl lm_nil))))))))))))) (oks_cons (ok_no (a := .one)) (oks_cons (ok_no (a := .q eSec m)) (oks_cons (ok_no (a := .q eIL c)) (oks_cons (ok_no (a := .q ePnt p)) (oks_cons (ok_no (a := .q eIL d)) (oks_cons (ok_no (a := .one)) (oks_cons (ok_no (a := .one)) (oks_cons (ok_no (a := .one)) (oks_cons (ok_no (a := .i cn)) (oks_cons (ok_no (a := .one)) (oks_cons (ok_no (a := .rp (Z6p m c p))) (oks_cons (.sl _ _ _ (by simp)) oks_nil)))))))))))), row_map (o := ⟨[.pt 2 0], 69, 1⟩) rfl (om_ (lm_cons rfl lm_nil)) (oks_cons (.pt _ _ (by simp)) oks_nil), row_map (o := ⟨[.i r, .i tr, .i en, .sl 3 0 ((tnK d c e ow g r tr en ps ps.length).length)], 47, 1⟩) rfl (om_ (lm_cons (am_no (a := .i r)) (lm_cons (am_no (a := .i tr)) (lm_cons (am_no (a := .i en)) (lm_cons rfl lm_nil))))) (oks_cons (ok_no (a := .i r)) (oks_cons (ok_no (a := .i tr)) (oks_cons (ok_no (a := .i en)) (oks_cons (.sl _ _ _ (by simp)) oks_nil)))), row_no (o := ⟨(enc eU8 (tnK d c e ow g r tr en ps ps.length)), 5, 1⟩) rfl rfl, row_no rfl rfl, trivial⟩
 unfold retQG
 exact fretG rfl rfl rfl rfl
abbrev Z73 (g : Int) (ow : List Int) : Nat → AV := (upd (upd (upd (upd (upd (upd none_ 0 (.pt 0 0)) 1 (.i g)) 3 (.q eI ow)) 16 (.sl 1 0 1)) 17 (.i 1)) 18 (.i 1))
abbrev Z71 (r tr en : Int) (d c : List (List Int)) (e ow : List Int) (g : Int) (ps : List Int) : LObj := ⟨[.i r, .i tr, .i en, .sl 3 0 ((tnK d c e ow g r tr en ps ps.length).length)], 47, 1⟩
abbrev Z6z (g : Int) (e ow : List Int) : Nat → AV := (upd (upd (upd (upd none_ 0 (.pt 0 0)) 1 (.i g)) 2 (.sl 4 0 e.length)) 3 (.q eI ow))
abbrev Z6x (m : List Sec) (c : List (List Int)) (p : List Pnt) : List AV := [.one, .q eSec m, .q eIL c, .q ePnt p, .one, .one, .one, .one, .one, .one]
abbrev Z6w (m : List Sec) (c : List (List Int)) (p : List Pnt) (d : List (List Int)) (cn : Int) : LObj := ⟨[.one, .q eSec m, .q eIL c, .q ePnt p, .q eIL d, .one, .one, .one, .i cn, .one, .rp (Z6x m c p), .sl 1 0 1], 65, 1⟩
abbrev Z72 (g : Int) (e ow : List Int) : Nat → AV := (upd (upd (upd (upd (Z6z g e ow) 9 (.pt 2 0)) 16 (.sl 1 0 1)) 17 (.i 1)) 18 (.i 0))
abbrev Z70 (m : List Sec) (c : List (List Int)) (p : List Pnt) (d : List (List Int)) (cn : Int) : Nat → OSt := (updO (updO noOb 0 (.live (Z6w m c p d cn))) 1 (.live ⟨[.pt 2 0], 69, 1⟩))
abbrev Z6y (m : List Sec) (c : List (List Int)) (p : List Pnt) (d : List (List Int)) (cn r tr en : Int) (e ow : List Int) (g : Int) (ps : List Int) : Nat → OSt := (updO (updO (updO (Z70 m c p d cn) 2 (.live ⟨[.i r, .i tr, .i en, .sl 3 0 ((tnK d c e ow g r tr en ps 0).length)], 47, 1⟩)) 3 (.live ⟨(enc eU8 (tnK d c e ow g r tr en ps 0)), 5, 1⟩)) 4 (.live ⟨(enc eU8 e), 5, 1⟩))
theorem r_StepWD (m : List Sec) (c : List (List Int)) (p : List Pnt) (d : List (List Int)) (cn : Int) (r tr en : Int) (ps : List Int) (g : Int) (e ow : List Int) (hro : d.length ≤ 65536) (hr : 0 ≤ r ∧ r < (d.length : Int)) (hp : ps.length + 1 = (d.getD r.toNat []).length) (hpl : (d.getD r.toNat []).length ≤ 65536) (hpa : c.length ≤ 65536) (hpp : ∀ x, x ∈ c → x.length ≤ 65536) (hst : e.length ≤ 65536) (how : ow.length ≤ 65536) (hin : ∀ s, s ∈ pthR d r → 0 ≤ s ∧ s < (e.length : Int)) (hpo : ∀ s : Int, 0 ≤ s → s < (e.length : Int) → 0 ≤ partI c s ∧ partI c s < (ow.length : Int)) (ha : (tnK d c e ow g r tr en ps ps.length).any (fun b : Int => b != 0) = false) : FnGO Try.prog 11 [⟨[.one, .ro m.length (enc eSec m), .ro c.length (enc eIL c), .ro p.length (enc ePnt p), .ro d.length (enc eIL d), .one, .one, .one, .v (.int .i64 cn), .one, .rp [.one, .ro m.length (enc eSec m), .ro c.length (enc eIL c), .ro p.length (enc ePnt p), .one, .one, .one, .one, .one, .one], .sl 1 0 1], 65, 1⟩, ⟨[.pt 2 0], 69, 1⟩, ⟨[.v (.int .i64 r), .v (.int .i64 tr), .v (.int .i64 en), .sl 3 0 ps.length], 47, 1⟩, ⟨(enc eU8 ps), 5, 1⟩, ⟨(enc eU8 e), 5, 1⟩] [.pt 0 0, .v (.int .i64 g), .sl 4 0 e.length, .ro ow.length (enc eI ow)] (.tup []) [.live ⟨[.one, .ro m.length (enc eSec m), .ro c.length (enc eIL c), .ro p.length (enc ePnt p), .ro d.length (enc eIL d), .one, .one, .one, .v (.int .i64 cn), .one, .rp [.one, .ro m.length (enc eSec m), .ro c.length (enc eIL c), .ro p.length (enc ePnt p), .one, .one, .one, .one, .one, .one], .sl 1 0 0], 65, 1⟩, .live ⟨[.v (.pointer none)], 69, 1⟩, .live ⟨[.v (.int .i64 r), .v (.int .i64 tr), .v (.int .i64 en), .sl 3 0 ((tnK d c e ow g r tr en ps ps.length).length)], 47, 1⟩, .live ⟨(enc eU8 (tnK d c e ow g r tr en ps ps.length)), 5, 1⟩, .live ⟨(enc eU8 e), 5, 1⟩] := by
 have hln := fun j => tnK_len (routes := d) (parts := c) (st := e) (ow := ow) (now := g) (r := r) (tr := tr) (en := en) (ps := ps) j
 have hl0 := hln 0
 refine fnG_of_body (N := 53) 5 rfl Try.func11 rfl rfl (resOf0 rfl) (by simp) (fun w0 G C hL_ hLG_ => ?_)
 refine awp_seq ?_
 refine seqR ?_
 refine mG (.pt 0 0) ?_
 refine oG (aop_ptNil rfl rfl rfl ut35 rfl rfl rfl (.inl ⟨rfl, rfl⟩) ?_)
 refine op0 ?_
 refine awp_cond false rfl rfl (fun h => by cases h) (fun _ => ?_)
 refine awp_skip ?_
 refine awp_seq ?_
 refine seqR ?_
 refine mG (.pt 0 0) ?_
 refine oG (aop_nilCheck rfl rfl rfl rfl rfl ?_)
 refine fG (.pt 0 11) ft65_2 sz63 ?_
 refine oG (qL (.sl 1 0 1) ag63 ?_)
 refine oG (aop_len rfl rfl rfl rfl ut63 (len_sl rfl) ?_)
 refine mG (.i 0) ?_
 refine rU (upd (upd (upd (Z6z g e ow) 16 (.sl 1 0 1)) 17 (.i (1 : Int))) 18 (.i 0)) (updO (updO (updO (Z70 m c p d cn) 2 (.live ⟨[.i r, .i tr, .i en, .sl 3 0 ps.length], 47, 1⟩)) 3 (.live ⟨(enc eU8 ps), 5, 1⟩)) 4 (.live ⟨(enc eU8 e), 5, 1⟩)) ?_
 refine awp_block ?_
 refine awp_countI (fun k => match k with | 0 => ⟨(upd (upd (upd (Z6z g e ow) 16 (.sl 1 0 1)) 17 (.i 1)) 18 (.i 0)), (Z6y m c p d cn r tr en e ow g ps)⟩ | _ => ⟨(Z73 g ow), (updO (updO (updO (Z70 m c p d cn) 2 (.live (Z71 r tr en d c e ow g ps))) 3 (.live ⟨(enc eU8 (tnK d c e ow g r tr en ps ps.length)), 5, 1⟩)) 4 (.live ⟨(enc eU8 e), 5, 1⟩))⟩) (fun _ => True) 1 ?_ trivial (fun k hk_k _ => ?_)
 ·skip
  exact iL [(0, 0), (1, 1), (2, 2), (3, 3), (4, 4)] [((0, 0), .live _), ((1, 1), .live _), ((2, 2), .live _), ((3, 3), .live _), ((4, 4), .live _)] ⟨row_map (o := (Z6w m c p d cn)) rfl (om_ (lm_cons (am_no (a := .one)) (lm_cons (am_no (a := .q eSec m)) (lm_cons (am_no (a := .q eIL c)) (lm_cons (am_no (a := .q ePnt p)) (lm_cons (am_no (a := .q eIL d)) (lm_cons (am_no (a := .one)) (lm_cons (am_no (a := .one)) (lm_cons (am_no (a := .one)) (lm_cons (am_no (a := .i cn)) (lm_cons (am_no (a := .one)) (lm_cons (am_no (a := .rp (Z6x m c p))) (lm_cons rfl lm_nil))))))))))))) (oks_cons (ok_no (a := .one)) (oks_cons (ok_no (a := .q eSec m)) (oks_cons (ok_no (a := .q eIL c)) (oks_cons (ok_no (a := .q ePnt p)) (oks_cons (ok_no (a := .q eIL d)) (oks_cons (ok_no (a := .one)) (oks_cons (ok_no (a := .one)) (oks_cons (ok_no (a := .one)) (oks_cons (ok_no (a := .i cn)) (oks_cons (ok_no (a := .one)) (oks_cons (ok_no (a := .rp (Z6x m c p))) (oks_cons (.sl _ _ _ (by simp)) oks_nil)))))))))))), row_map (o := ⟨[.pt 2 0], 69, 1⟩) rfl (om_ (lm_cons rfl lm_nil)) (oks_cons (.pt _ _ (by simp)) oks_nil), row_map (o := ⟨[.i r, .i tr, .i en, .sl 3 0 ps.length], 47, 1⟩) rfl (om_ (lm_cons (am_no (a := .i r)) (lm_cons (am_no (a := .i tr)) (lm_cons (am_no (a := .i en)) (lm_cons rfl lm_nil))))) (oks_cons (ok_no (a := .i r)) (oks_cons (ok_no (a := .i tr)) (oks_cons (ok_no (a := .i en)) (oks_cons (.sl _ _ _ (by simp)) oks_nil)))), row_no rfl rfl, row_no rfl rfl, trivial⟩
 rcases (show k = 0 ∨ k = 1 by omega) with rfl | rfl
 ·show AWP _ _ _ ⟨(upd (upd (upd (Z6z g e ow) 16 (.sl 1 0 1)) 17 (.i 1)) 18 (.i 0)), (Z6y m c p d cn r tr en e ow g ps)⟩ _
  refine seqR ?_
  refine bG ((.bool true)) ?_
  refine op0 ?_
  refine awp_seq ?_
  refine awp_cond true rfl rfl (fun _ => ?_) (fun h => by cases h)
  refine awp_skip ?_
  refine awp_seq ?_
  refine awp_block ?_
  refine seqR ?_
  refine oG (aop_ixO (k := 0) rfl rfl rfl ut63 sz69 rfl rfl oo ?_)
  refine oG (qL (.pt 2 0) ag69 ?_)
  refine mG (.pt 2 0) ?_
  refine rU (Z72 g e ow) (Z6y m c p d cn r tr en e ow g ps) ?_
  refine seqR ?_
  refine mG (.pt 2 0) ?_
  refine oG (aop_nilCheck rfl rfl rfl rfl rfl ?_)
  refine fG (.pt 2 3) ft47_3 sz37 ?_
  refine oG (qL (.sl 3 0 ((tnK d c e ow g r tr en ps 0).length)) ag37 ?_)
  refine oG (aop_len rfl rfl rfl rfl ut37 (len_sl rfl) ?_)
  refine mG (.i 0) ?_
  refine rU (upd (upd (Z72 g e ow) 26 (.i ((tnK d c e ow g r tr en ps 0).length : Int))) 27 (.i 0)) (Z6y m c p d cn r tr en e ow g ps) ?_
  refine awp_block ?_
  refine awp_countI (fun j => ⟨(upd (upd (Z72 g e ow) 26 (.i ((tnK d c e ow g r tr en ps 0).length : Int))) 27 (.i (j : Int))), (updO (updO (updO (Z70 m c p d cn) 2 (.live ⟨[.i r, .i tr, .i en, .sl 3 0 ((tnK d c e ow g r tr en ps j).length)], 47, 1⟩)) 3 (.live ⟨(enc eU8 (tnK d c e ow g r tr en ps j)), 5, 1⟩)) 4 (.live ⟨(enc eU8 e), 5, 1⟩))⟩) (fun j => True) (ps.length) ?_ trivial (fun j hk_j hinv => ?_)
  ·skip
   exact iL [(0, 0), (1, 1), (2, 2), (3, 3), (4, 4)] [((0, 0), .live _), ((1, 1), .live _), ((2, 2), .live _), ((3, 3), .live _), ((4, 4), .live _)] ⟨row_map (o := (Z6w m c p d cn)) rfl (om_ (lm_cons (am_no (a := .one)) (lm_cons (am_no (a := .q eSec m)) (lm_cons (am_no (a := .q eIL c)) (lm_cons (am_no (a := .q ePnt p)) (lm_cons (am_no (a := .q eIL d)) (lm_cons (am_no (a := .one)) (lm_cons (am_no (a := .one)) (lm_cons (am_no (a := .one)) (lm_cons (am_no (a := .i cn)) (lm_cons (am_no (a := .one)) (lm_cons (am_no (a := .rp (Z6x m c p))) (lm_cons rfl lm_nil))))))))))))) (oks_cons (ok_no (a := .one)) (oks_cons (ok_no (a := .q eSec m)) (oks_cons (ok_no (a := .q eIL c)) (oks_cons (ok_no (a := .q ePnt p)) (oks_cons (ok_no (a := .q eIL d)) (oks_cons (ok_no (a := .one)) (oks_cons (ok_no (a := .one)) (oks_cons (ok_no (a := .one)) (oks_cons (ok_no (a := .i cn)) (oks_cons (ok_no (a := .one)) (oks_cons (ok_no (a := .rp (Z6x m c p))) (oks_cons (.sl _ _ _ (by simp)) oks_nil)))))))))))), row_map (o := ⟨[.pt 2 0], 69, 1⟩) rfl (om_ (lm_cons rfl lm_nil)) (oks_cons (.pt _ _ (by simp)) oks_nil), row_map (o := ⟨[.i r, .i tr, .i en, .sl 3 0 ((tnK d c e ow g r tr en ps 0).length)], 47, 1⟩) rfl (om_ (lm_cons (am_no (a := .i r)) (lm_cons (am_no (a := .i tr)) (lm_cons (am_no (a := .i en)) (lm_cons rfl lm_nil))))) (oks_cons (ok_no (a := .i r)) (oks_cons (ok_no (a := .i tr)) (oks_cons (ok_no (a := .i en)) (oks_cons (.sl _ _ _ (by simp)) oks_nil)))), row_no rfl rfl, row_no rfl rfl, trivial⟩
  have hlj := hln j
  have hlj1 := hln (j + 1)
  refine seqR ?_
  refine bG ((.bool (decide ((j : Int) < ((tnK d c e ow g r tr en ps 0).length : Int))))) ?_
  refine op0 ?_
  refine awp_seq ?_
  refine awp_cond (decide ((j : Int) < ((tnK d c e ow g r tr en ps 0).length : Int))) rfl rfl (fun hc2 => ?_) (fun hc2 => ?_)
  ·skip
   have hf1 := of_decide_eq_true hc2
   have hjl2 : j < ps.length := by omega
   refine awp_skip ?_
   refine awp_seq ?_
   refine awp_block ?_
   refine seqR ?_
   refine mG (.i (j : Int)) ?_
   refine mG (.i (j : Int)) ?_
   refine op0 ?_
   refine aD 13 [(42, .pt 3 (j * 1)), (41, .v (.int .u8 (tnP d c e ow g (⟨r, tr, en, (tnK d c e ow g r tr en ps j)⟩ : Lk) j))), (40, .q eI ow), (39, .sl 4 0 e.length), (38, .i g), (37, .i (j : Int)), (36, .pt 2 0), (35, .pt 0 0), (34, .i (j : Int)), (33, .sl 3 0 ((tnK d c e ow g r tr en ps j).length)), (32, .pt 2 3), (31, .pt 2 0), (30, .pt 2 0)] mixed ?_ ?_
   ·iterate 13 (refine ⟨?_, ?_⟩; rotate_left)
    trivial
    ·exact sMv
    ·exact dW 31 fun st hob hE => aop_nilCheck rfl rfl rfl (hE 30 rfl) rfl (by rw [hob]; rfl)
    ·exact sF (.pt 2 0) (.pt 2 3) ft47_3 sz37
    ·exact sL ag37
    ·exact sMv
    ·exact sMv
    ·exact sMv
    ·exact sMv
    ·exact sMv
    ·exact sMv
    ·exact sMv
    ·exact dW 41 fun st hob hE => callL_ (r_turn d c r tr en (tnK d c e ow g r tr en ps j) j g e ow hro hr om hpl om hpa hpp hst how hin hpo) rfl rfl rfl rfl rfl bd36 (by rw [hob]; show Lends _ ([st.env 35, st.env 36, st.env 37, st.env 38, st.env 39, st.env 40] ++ _) _; rw [hE 35 rfl, hE 36 rfl, hE 37 rfl, hE 38 rfl, hE 39 rfl, hE 40 rfl]; exact (lends_cons (lend_pt rfl lS) (lends_cons (lend_pt rfl (lends_cons (lend_n (av := .i r)) (lends_cons (lend_n (av := .i tr)) (lends_cons (lend_n (av := .i en)) (lends_cons (lend_s (id := 3) (n := (tnK d c e ow g r tr en ps j).length) (o := ⟨(enc eU8 (tnK d c e ow g r tr en ps j)), 5, 1⟩) rfl (enc_len (fun _ => rfl) (by first | rfl | (simp; done)))) lends_nil))))) (lends_cons (lend_n (av := .i (j : Int))) (lends_cons (lend_n (av := .i g)) (lends_cons (lend_s (id := 4) (n := e.length) (o := ⟨(enc eU8 e), 5, 1⟩) rfl (enc_len (fun _ => rfl) (by first | rfl | (simp; done)))) lS)))))) (by rw [hob]; rfl)
    exact dW 42 fun st hob hE => aop_ixO (k := j) rfl rfl rfl ut37 sz5 (hE 33 rfl) (hE 34 rfl) oo (by rw [hob]; rfl)
   refine oG (aop_storeE (f := eU8) (l := tnK d c e ow g r tr en ps j) (l' := (tnK d c e ow g r tr en ps j).set j (tnP d c e ow g (⟨r, tr, en, (tnK d c e ow g r tr en ps j)⟩ : Lk) j : Int)) (tnP d c e ow g (⟨r, tr, en, (tnK d c e ow g r tr en ps j)⟩ : Lk) j : Int) rfl rfl rfl sz5 rfl rfl rfl rfl rfl (fun _ => rfl) oo rfl rfl ?_)
   refine op0 ?_
   refine rT (upd (upd (upd (upd (upd (upd (upd (Z6z g e ow) 9 (.pt 2 0)) 10 (.i (j : Int))) 16 (.sl 1 0 1)) 17 (.i 1)) 18 (.i 0)) 26 (.i ((tnK d c e ow g r tr en ps 0).length : Int))) 27 (.i (j : Int))) (updO (updO (updO (updO (Z70 m c p d cn) 2 (.live ⟨[.i r, .i tr, .i en, .sl 3 0 ((tnK d c e ow g r tr en ps j).length)], 47, 1⟩)) 3 (.live ⟨(enc eU8 (tnK d c e ow g r tr en ps j)), 5, 1⟩)) 4 (.live ⟨(enc eU8 e), 5, 1⟩)) 3 (.live ⟨(enc eU8 ((tnK d c e ow g r tr en ps j).set j (tnP d c e ow g (⟨r, tr, en, (tnK d c e ow g r tr en ps j)⟩ : Lk) j : Int))), 5, 1⟩)) ?_
   refine regR ?_
   refine oG (qB (.int .i64 ((j + 1 : Nat) : Int)) (addN om) ?_)
   refine mG (.i ((j + 1 : Nat) : Int)) ?_
   refine op0 ?_
   show _ ∧ _
   refine ⟨by omega, trivial, ?_⟩
   exact iL [(0, 0), (1, 1), (2, 2), (3, 3), (4, 4)] [((0, 0), .live _), ((1, 1), .live _), ((2, 2), .live _), ((3, 3), .live _), ((4, 4), .live _)] ⟨row_map (o := (Z6w m c p d cn)) rfl (om_ (lm_cons (am_no (a := .one)) (lm_cons (am_no (a := .q eSec m)) (lm_cons (am_no (a := .q eIL c)) (lm_cons (am_no (a := .q ePnt p)) (lm_cons (am_no (a := .q eIL d)) (lm_cons (am_no (a := .one)) (lm_cons (am_no (a := .one)) (lm_cons (am_no (a := .one)) (lm_cons (am_no (a := .i cn)) (lm_cons (am_no (a := .one)) (lm_cons (am_no (a := .rp (Z6x m c p))) (lm_cons rfl lm_nil))))))))))))) (oks_cons (ok_no (a := .one)) (oks_cons (ok_no (a := .q eSec m)) (oks_cons (ok_no (a := .q eIL c)) (oks_cons (ok_no (a := .q ePnt p)) (oks_cons (ok_no (a := .q eIL d)) (oks_cons (ok_no (a := .one)) (oks_cons (ok_no (a := .one)) (oks_cons (ok_no (a := .one)) (oks_cons (ok_no (a := .i cn)) (oks_cons (ok_no (a := .one)) (oks_cons (ok_no (a := .rp (Z6x m c p))) (oks_cons (.sl _ _ _ (by simp)) oks_nil)))))))))))), row_map (o := ⟨[.pt 2 0], 69, 1⟩) rfl (om_ (lm_cons rfl lm_nil)) (oks_cons (.pt _ _ (by simp)) oks_nil), row_map (o := ⟨[.i r, .i tr, .i en, .sl 3 0 ((tnK d c e ow g r tr en ps j).length)], 47, 1⟩) rfl (congrArg (fun n_ : Nat => LObj.mk [.i r, .i tr, .i en, .sl 3 0 n_] 47 1) (hlj.trans hlj1.symm)) (oks_cons (ok_no (a := .i r)) (oks_cons (ok_no (a := .i tr)) (oks_cons (ok_no (a := .i en)) (oks_cons (.sl _ _ _ (by simp)) oks_nil)))), row_no rfl (by exact congrArg (fun l_ => LObj.mk (enc eU8 l_) 5 1) rfl), row_no rfl rfl, trivial⟩
  have hf2 := of_decide_eq_false hc2
  have hjl : j = ps.length := by omega
  refine awp_exit ?_
  refine regR ?_
  refine oG (qB (.int .i64 (0 + 1)) (addI om) ?_)
  refine mG (.i (0 + 1)) ?_
  refine op0 ?_
  show _ ∧ _
  refine ⟨by omega, trivial, ?_⟩
  exact iL [(0, 0), (1, 1), (2, 2), (3, 3), (4, 4)] [((0, 0), .live _), ((1, 1), .live _), ((2, 2), .live _), ((3, 3), .live _), ((4, 4), .live _)] ⟨row_map (o := (Z6w m c p d cn)) rfl (om_ (lm_cons (am_no (a := .one)) (lm_cons (am_no (a := .q eSec m)) (lm_cons (am_no (a := .q eIL c)) (lm_cons (am_no (a := .q ePnt p)) (lm_cons (am_no (a := .q eIL d)) (lm_cons (am_no (a := .one)) (lm_cons (am_no (a := .one)) (lm_cons (am_no (a := .one)) (lm_cons (am_no (a := .i cn)) (lm_cons (am_no (a := .one)) (lm_cons (am_no (a := .rp (Z6x m c p))) (lm_cons rfl lm_nil))))))))))))) (oks_cons (ok_no (a := .one)) (oks_cons (ok_no (a := .q eSec m)) (oks_cons (ok_no (a := .q eIL c)) (oks_cons (ok_no (a := .q ePnt p)) (oks_cons (ok_no (a := .q eIL d)) (oks_cons (ok_no (a := .one)) (oks_cons (ok_no (a := .one)) (oks_cons (ok_no (a := .one)) (oks_cons (ok_no (a := .i cn)) (oks_cons (ok_no (a := .one)) (oks_cons (ok_no (a := .rp (Z6x m c p))) (oks_cons (.sl _ _ _ (by simp)) oks_nil)))))))))))), row_map (o := ⟨[.pt 2 0], 69, 1⟩) rfl (om_ (lm_cons rfl lm_nil)) (oks_cons (.pt _ _ (by simp)) oks_nil), row_map (o := ⟨[.i r, .i tr, .i en, .sl 3 0 ((tnK d c e ow g r tr en ps j).length)], 47, 1⟩) rfl (congrArg (fun n_ : Nat => LObj.mk [.i r, .i tr, .i en, .sl 3 0 n_] 47 1) (by rw [hjl])) (oks_cons (ok_no (a := .i r)) (oks_cons (ok_no (a := .i tr)) (oks_cons (ok_no (a := .i en)) (oks_cons (.sl _ _ _ (by simp)) oks_nil)))), row_no rfl (by exact congrArg (fun l_ => LObj.mk (enc eU8 l_) 5 1) (by rw [hjl])), row_no rfl rfl, trivial⟩
 show AWP _ _ _ ⟨(Z73 g ow), (updO (updO (updO (Z70 m c p d cn) 2 (.live (Z71 r tr en d c e ow g ps))) 3 (.live ⟨(enc eU8 (tnK d c e ow g r tr en ps ps.length)), 5, 1⟩)) 4 (.live ⟨(enc eU8 e), 5, 1⟩))⟩ _
 refine seqR ?_
 refine bG ((.bool false)) ?_
 refine op0 ?_
 refine awp_seq ?_
 refine awp_cond false rfl rfl (fun h => by cases h) (fun _ => ?_)
 refine awp_exit ?_
 refine regR ?_
 refine mG (.pt 0 0) ?_
 refine mG (.pt 0 0) ?_
 refine oG (aop_nilCheck rfl rfl rfl rfl rfl ?_)
 refine fG (.pt 0 11) ft65_2 sz63 ?_
 refine oG (qL (.sl 1 0 1) ag63 ?_)
 refine oG (callG_ false [1, 2, 3] [] (delLd r tr en (tnK d c e ow g r tr en ps ps.length) (by have := hln ps.length; omega) ha) rfl rfl rfl rfl rfl bd37 (by decide) ⟨giv_map (o := ⟨[.pt 2 0], 69, 1⟩) rfl (om_ (lm_cons rfl lm_nil)) (oks_cons (.pt _ _ (by simp)) oks_nil), giv_map (o := (Z71 r tr en d c e ow g ps)) rfl (om_ (lm_cons (am_no (a := .i r)) (lm_cons (am_no (a := .i tr)) (lm_cons (am_no (a := .i en)) (lm_cons rfl lm_nil))))) (oks_cons (ok_no (a := .i r)) (oks_cons (ok_no (a := .i tr)) (oks_cons (ok_no (a := .i en)) (oks_cons (.sl _ _ _ (by simp)) oks_nil)))), giv_no (o := ⟨(enc eU8 (tnK d c e ow g r tr en ps ps.length)), 5, 1⟩) rfl rfl, trivial⟩ ⟨(arg_own (.sl _ _ _ (by simp)) rfl), (arg_no (a := .fn 38 [])), trivial⟩ rfl trivial (fun h => by cases h) rfl (place_cons (ost_no (cs := [.v (.pointer none)])) (place_cons (ost_map (lm_cons (am_no (a := .i r)) (lm_cons (am_no (a := .i tr)) (lm_cons (am_no (a := .i en)) (lm_cons rfl lm_nil))))) (place_cons (ost_no (cs := (enc eU8 (tnK d c e ow g r tr en ps ps.length)))) place_nil))) ?_)
 refine oG (aop_nilCheck rfl rfl rfl rfl rfl ?_)
 refine fG (.pt 0 11) ft65_2 sz63 ?_
 refine oG (qS sz63 ?_)
 refine ops_imp (show Imp _ _ ⟨none_, (updO (updO (updO (updO (updO noOb 0 (.live ⟨[.one, .q eSec m, .q eIL c, .q ePnt p, .q eIL d, .one, .one, .one, .i cn, .one, .rp (Z6x m c p), .sl 1 0 0], 65, 1⟩)) 1 (.live ⟨[.v (.pointer none)], 69, 1⟩)) 2 (.live (Z71 r tr en d c e ow g ps))) 3 (.live ⟨(enc eU8 (tnK d c e ow g r tr en ps ps.length)), 5, 1⟩)) 4 (.live ⟨(enc eU8 e), 5, 1⟩))⟩ from ?_) (op0 ?_)
 ·skip
  exact iL [(0, 0), (1, 1), (2, 2), (3, 3), (4, 4)] [((0, 0), .live _), ((1, 1), .live _), ((2, 2), .live _), ((3, 3), .live _), ((4, 4), .live _)] ⟨row_map (o := ⟨[.one, .q eSec m, .q eIL c, .q ePnt p, .q eIL d, .one, .one, .one, .i cn, .one, .rp (Z6x m c p), .sl 1 0 0], 65, 1⟩) rfl (om_ (lm_cons (am_no (a := .one)) (lm_cons (am_no (a := .q eSec m)) (lm_cons (am_no (a := .q eIL c)) (lm_cons (am_no (a := .q ePnt p)) (lm_cons (am_no (a := .q eIL d)) (lm_cons (am_no (a := .one)) (lm_cons (am_no (a := .one)) (lm_cons (am_no (a := .one)) (lm_cons (am_no (a := .i cn)) (lm_cons (am_no (a := .one)) (lm_cons (am_no (a := .rp (Z6x m c p))) (lm_cons rfl lm_nil))))))))))))) (oks_cons (ok_no (a := .one)) (oks_cons (ok_no (a := .q eSec m)) (oks_cons (ok_no (a := .q eIL c)) (oks_cons (ok_no (a := .q ePnt p)) (oks_cons (ok_no (a := .q eIL d)) (oks_cons (ok_no (a := .one)) (oks_cons (ok_no (a := .one)) (oks_cons (ok_no (a := .one)) (oks_cons (ok_no (a := .i cn)) (oks_cons (ok_no (a := .one)) (oks_cons (ok_no (a := .rp (Z6x m c p))) (oks_cons (.sl _ _ _ (by simp)) oks_nil)))))))))))), row_no (o := ⟨[.v (.pointer none)], 69, 1⟩) rfl rfl, row_map (o := (Z71 r tr en d c e ow g ps)) rfl (om_ (lm_cons (am_no (a := .i r)) (lm_cons (am_no (a := .i tr)) (lm_cons (am_no (a := .i en)) (lm_cons rfl lm_nil))))) (oks_cons (ok_no (a := .i r)) (oks_cons (ok_no (a := .i tr)) (oks_cons (ok_no (a := .i en)) (oks_cons (.sl _ _ _ (by simp)) oks_nil)))), row_no (o := ⟨(enc eU8 (tnK d c e ow g r tr en ps ps.length)), 5, 1⟩) rfl rfl, row_no rfl rfl, trivial⟩
 unfold retQG
 exact fretG rfl rfl rfl rfl
theorem r_StepWOq (d : List Sec) (a : List (List Int)) (e : List Pnt) (c : List (List Int)) (cn : Int) (r tr en : Int) (ps : List Int) (g : Int) (f ow : List Int) (qs : List Int) (sn : Nat) (hro : c.length ≤ 65536) (hr : 0 ≤ r ∧ r < (c.length : Int)) (hp : ps.length + 1 = (c.getD r.toNat []).length) (hpl : (c.getD r.toNat []).length ≤ 65536) (hpa : a.length ≤ 65536) (hpp : ∀ x, x ∈ a → x.length ≤ 65536) (hst : f.length ≤ 65536) (how : ow.length ≤ 65536) (hin : ∀ s, s ∈ pthR c r → 0 ≤ s ∧ s < (f.length : Int)) (hpo : ∀ s : Int, 0 ≤ s → s < (f.length : Int) → 0 ≤ partI a s ∧ partI a s < (ow.length : Int)) (hq : (tnK c a f ow g r tr en ps ps.length) = qs) (ha : qs.any (fun b : Int => b != 0) = true) (hsn : f.length = sn) : FnGO Try.prog 11 [⟨[.one, .ro d.length (enc eSec d), .ro a.length (enc eIL a), .ro e.length (enc ePnt e), .ro c.length (enc eIL c), .one, .one, .one, .v (.int .i64 cn), .one, .rp [.one, .ro d.length (enc eSec d), .ro a.length (enc eIL a), .ro e.length (enc ePnt e), .one, .one, .one, .one, .one, .one], .sl 1 0 1], 65, 1⟩, ⟨[.pt 2 0], 69, 1⟩, ⟨[.v (.int .i64 r), .v (.int .i64 tr), .v (.int .i64 en), .sl 3 0 ps.length], 47, 1⟩, ⟨(enc eU8 ps), 5, 1⟩, ⟨(enc eU8 f), 5, 1⟩] [.pt 0 0, .v (.int .i64 g), .sl 4 0 sn, .ro ow.length (enc eI ow)] (.tup []) [.live ⟨[.one, .ro d.length (enc eSec d), .ro a.length (enc eIL a), .ro e.length (enc ePnt e), .ro c.length (enc eIL c), .one, .one, .one, .v (.int .i64 cn), .one, .rp [.one, .ro d.length (enc eSec d), .ro a.length (enc eIL a), .ro e.length (enc ePnt e), .one, .one, .one, .one, .one, .one], .sl 1 0 1], 65, 1⟩, .live ⟨[.pt 2 0], 69, 1⟩, .live ⟨[.v (.int .i64 r), .v (.int .i64 tr), .v (.int .i64 en), .sl 3 0 qs.length], 47, 1⟩, .live ⟨(enc eU8 qs), 5, 1⟩, .live ⟨(enc eU8 f), 5, 1⟩] := by subst hq; subst hsn; exact r_StepWO d a e c cn r tr en ps g f ow hro hr hp hpl hpa hpp hst how hin hpo ha
theorem r_StepWDq (d : List Sec) (a : List (List Int)) (e : List Pnt) (c : List (List Int)) (cn : Int) (r tr en : Int) (ps : List Int) (g : Int) (f ow : List Int) (qs : List Int) (sn : Nat) (hro : c.length ≤ 65536) (hr : 0 ≤ r ∧ r < (c.length : Int)) (hp : ps.length + 1 = (c.getD r.toNat []).length) (hpl : (c.getD r.toNat []).length ≤ 65536) (hpa : a.length ≤ 65536) (hpp : ∀ x, x ∈ a → x.length ≤ 65536) (hst : f.length ≤ 65536) (how : ow.length ≤ 65536) (hin : ∀ s, s ∈ pthR c r → 0 ≤ s ∧ s < (f.length : Int)) (hpo : ∀ s : Int, 0 ≤ s → s < (f.length : Int) → 0 ≤ partI a s ∧ partI a s < (ow.length : Int)) (hq : (tnK c a f ow g r tr en ps ps.length) = qs) (ha : qs.any (fun b : Int => b != 0) = false) (hsn : f.length = sn) : FnGO Try.prog 11 [⟨[.one, .ro d.length (enc eSec d), .ro a.length (enc eIL a), .ro e.length (enc ePnt e), .ro c.length (enc eIL c), .one, .one, .one, .v (.int .i64 cn), .one, .rp [.one, .ro d.length (enc eSec d), .ro a.length (enc eIL a), .ro e.length (enc ePnt e), .one, .one, .one, .one, .one, .one], .sl 1 0 1], 65, 1⟩, ⟨[.pt 2 0], 69, 1⟩, ⟨[.v (.int .i64 r), .v (.int .i64 tr), .v (.int .i64 en), .sl 3 0 ps.length], 47, 1⟩, ⟨(enc eU8 ps), 5, 1⟩, ⟨(enc eU8 f), 5, 1⟩] [.pt 0 0, .v (.int .i64 g), .sl 4 0 sn, .ro ow.length (enc eI ow)] (.tup []) [.live ⟨[.one, .ro d.length (enc eSec d), .ro a.length (enc eIL a), .ro e.length (enc ePnt e), .ro c.length (enc eIL c), .one, .one, .one, .v (.int .i64 cn), .one, .rp [.one, .ro d.length (enc eSec d), .ro a.length (enc eIL a), .ro e.length (enc ePnt e), .one, .one, .one, .one, .one, .one], .sl 1 0 0], 65, 1⟩, .live ⟨[.v (.pointer none)], 69, 1⟩, .live ⟨[.v (.int .i64 r), .v (.int .i64 tr), .v (.int .i64 en), .sl 3 0 qs.length], 47, 1⟩, .live ⟨(enc eU8 qs), 5, 1⟩, .live ⟨(enc eU8 f), 5, 1⟩] := by subst hq; subst hsn; exact r_StepWD d a e c cn r tr en ps g f ow hro hr hp hpl hpa hpp hst how hin hpo ha
theorem bd6 : bodied Try.prog 6 = true := by kernel_rfl
theorem bd7 : bodied Try.prog 7 = true := by kernel_rfl
theorem bd8 : bodied Try.prog 8 = true := by kernel_rfl
theorem sz47 : (Try.prog.info? 47).map (·.size) = some 4 := by kernel_rfl
abbrev Z79 (nn : Int) : Nat → AV := (upd (upd (upd none_ 1 (.v (.int .u8 nn))) 6 (.b false)) 7 (.pt 52 0))
abbrev Z78 : LObj := ⟨[.v (.pointer none)], 69, 1⟩
abbrev Z75 : Nat → AV := (upd none_ 6 (.b false))
abbrev Z74 (d : Draft) : List AV := [.v (.int .u8 d.form), .v (.int .u8 d.len), .v (.int .u8 d.speed), .v (.int .u16 d.mute), .v (.int .u16 d.wait), .v (.int .u8 d.cancel), .v (.int .u8 d.stay), .v (.int .u8 d.jn), .q eUL d.rs]
abbrev Z77 : Nat → AV := (upd Z75 7 (.pt 52 0))
abbrev Z76 (d : Draft) : Nat → OSt := (updO (updO noOb 51 (.live ⟨(Z74 d), 25, 1⟩)) 52 (.live ⟨[vN, vN, vN, vN, vN, .i 0, .i 0, .i 0, .i 0, .i 0], 33, 1⟩))
theorem l15_RouteOrder (d : Draft) (nn : Int) (e : Int) (hd : DraftOk d) (hnn : 0 ≤ nn ∧ nn ≤ 255) (hat : 0 ≤ e ∧ e ≤ 255) : Fn Try.prog 3 [.agg [.v (.int .u8 d.form), .v (.int .u8 d.len), .v (.int .u8 d.speed), .v (.int .u16 d.mute), .v (.int .u16 d.wait), .v (.int .u8 d.cancel), .v (.int .u8 d.stay), .v (.int .u8 d.jn), .ro d.rs.length (enc eUL d.rs)], .v (.int .u8 nn), .v (.int .u8 e)] (.v (.bool true)) := by
 have hd1 := hd.form
 have hd2 := hd.len
 have hd3 := hd.speed
 have hd4 := hd.mute
 have hd5 := hd.wait
 have hd6 := hd.cancel
 have hd7 := hd.stay
 have hd8 := hd.jn
 have hd9 := hd.n
 have hmx : maxLen = 9223372036854775807 := rfl
 have hel := mkEnds_len d.form
 have hsl := mkSecs_len d.form d.len
 have hpl := mkPts_len d.form
 refine fnE_of_body (N := 166) Try.func3 rfl rfl (resOf1 rfl) (by simp) (fun w0 X hL_ => ?_)
 refine seqR ?_
 refine oG (qW 51 ?_)
 refine mG (.b false) ?_
 refine op0 ?_
 refine awp_seq ?_
 refine seqR ?_
 refine oG (qJ (l15_done) bd6 ?_)
 refine oG (aop_not rfl rfl rfl rfl ?_)
 refine mG (.b false) ?_
 refine opY rfl rfl rfl rfl (aop_ldB (cells' := (Z74 d)) rfl rfl rfl ag25 sz25 rfl rfl rfl rfl ?_)
 refine opY rfl rfl rfl rfl (callW_ (r04_Small d.rs oo) rfl rfl rfl rfl rfl bd7 lS ?_)
 refine opY rfl rfl rfl rfl (aop_not rfl rfl rfl rfl ?_)
 refine oG (aop_pick (b := false) (av := .b (!(smallB d.rs))) rfl rfl rfl rfl rfl ?_)
 refine rU (upd (upd (upd (upd none_ 1 (.v (.int .u8 nn))) 3 (.pt 51 0)) 6 (.b false)) 26 (.b (!(smallB d.rs)))) (updO noOb 51 (.live ⟨(Z74 d), 25, 1⟩)) ?_
 refine awp_cond (!(smallB d.rs)) rfl rfl (fun hc0 => ?_) (fun hc0 => ?_)
 ·skip
  have hf1 := not_t hc0
  refine seqR ?_
  refine oG (qJ (l15_done) bd6 ?_)
  refine mG (.b true) ?_
  refine op0 ?_
  refine awp_ret ?_
  exact fret (av := .v (.bool true)) rfl rfl rfl
 have hf2 := not_f hc0
 have hsm : smallB d.rs = true := by cases h : smallB d.rs <;> simp [h] at hc0 ⊢
 have hr := small_rs hsm hd.rs
 have hL := full_ok d.form d.len d.jn d.rs
 have hnd := full_nodup d.form d.len d.rs
 have hfu := r05_Full d.form d.len d.speed d.mute d.wait d.cancel d.stay d.jn d.rs hd1 hd2 hd3 hd4 hd5 hd6 hd7 hd8 hr.1 hr.2
 have hck := chk_full d.form d.len
 have hT := top_full d.form d.len
 have hwk := full_wk d.form d.len d.rs
 have hcn : 0 ≤ 1 + d.cancel ∧ 1 + d.cancel ≤ 65536 := by omega
 obtain ⟨ss, h_ss⟩ : ∃ y_, y_ = mkSecs d.form d.len := ⟨_, rfl⟩
 obtain ⟨pa, h_pa⟩ : ∃ y_, y_ = mkParts d.form d.jn := ⟨_, rfl⟩
 obtain ⟨pp, h_pp⟩ : ∃ y_, y_ = mkPts d.form := ⟨_, rfl⟩
 obtain ⟨rr, h_rr⟩ : ∃ y_, y_ = fullRoutes d.form d.len d.rs := ⟨_, rfl⟩
 obtain ⟨cn, h_cn⟩ : ∃ y_, y_ = 1 + d.cancel := ⟨_, rfl⟩
 rw [← h_ss, ← h_pa, ← h_pp, ← h_rr] at hL
 rw [← h_ss, ← h_pa, ← h_pp, ← h_rr, ← h_cn] at hfu
 rw [← h_rr] at hnd
 rw [← h_ss, ← h_pp] at hck hT
 rw [← h_ss, ← h_pp, ← h_rr] at hwk
 rw [← h_cn] at hcn
 have hq1 := hL.h1
 have hq2 := hL.hs
 have hq3 := hL.hp
 have hq4 := hL.hpa
 have hq5 := hL.hro
 have hq6 := hL.hpl
 have hq7 := hL.hpo
 refine awp_skip ?_
 refine seqR ?_
 refine oG (qLB (Z74 d) ag25 sz25 ?_)
 refine oG (qJ (show Fn Try.prog 8 [.agg (Z74 d)] (.agg [.one, .q eSec ss, .q eIL pa, .q ePnt pp, .q eIL rr, .i (1 + d.speed % (2 * (10 * (1 + d.len % 20)))), .i (1 + d.mute % 1000), .i (1 + d.wait % 1000), .i cn, .i (d.stay % 4)]) from hfu) bd8 ?_)
 refine oG (aop_alloc 52 rfl rfl rfl rfl ze33 rfl ?_)
 refine oG (qS sz33 ?_)
 refine rU (Z79 nn) (updO (Z76 d) 52 (.live ⟨[.one, .q eSec ss, .q eIL pa, .q ePnt pp, .q eIL rr, .i (1 + d.speed % (2 * (10 * (1 + d.len % 20)))), .i (1 + d.mute % 1000), .i (1 + d.wait % 1000), .i cn, .i (d.stay % 4)], 33, 1⟩)) ?_
 refine awp_seq ?_
 refine seqR ?_
 refine fG (.pt 52 4) ft33_4 sz30 ?_
 refine oG (qL (.q eIL rr) ag30 ?_)
 refine oG (qN ut30 ?_)
 refine bG ((.bool ((rr.length : Int) == 0))) ?_
 refine rU (upd (Z79 nn) 33 (.b ((rr.length : Int) == 0))) (updO (Z76 d) 52 (.live ⟨[.one, .q eSec ss, .q eIL pa, .q ePnt pp, .q eIL rr, .i (1 + d.speed % (2 * (10 * (1 + d.len % 20)))), .i (1 + d.mute % 1000), .i (1 + d.wait % 1000), .i cn, .i (d.stay % 4)], 33, 1⟩)) ?_
 refine awp_cond ((rr.length : Int) == 0) rfl rfl (fun hc1 => ?_) (fun hc1 => ?_)
 ·skip
  have hf3 := (beq_iff_eq).1 hc1
  refine seqR ?_
  refine mG (.b true) ?_
  refine op0 ?_
  refine awp_ret ?_
  exact fret (av := .v (.bool true)) rfl rfl rfl
 have hf4 := (beq_eq_false_iff_ne).1 hc1
 have hrr0 : ¬ (rr.length : Int) = 0 := by simp at hc1; omega
 obtain ⟨kk, h_kk⟩ : ∃ y_, y_ = (nn % (rr.length : Int)) := ⟨_, rfl⟩
 have hkr : 0 ≤ kk ∧ kk < (rr.length : Int) := by rw [h_kk]; exact ⟨Int.emod_nonneg nn hrr0, Int.emod_lt_of_pos nn om⟩
 obtain ⟨hk0, hk1, hk2, hk3, hk4, hk5⟩ := setR_ok (r := kk) hL hT hck hwk hnd hkr
 have hpq := pth_len (routes := rr) (r := kk)
 have hnp : (pthR rr kk).Nodup := by unfold pthR; exact (List.drop_sublist 1 _).nodup hk2
 refine awp_skip ?_
 refine seqR ?_
 refine mG (.v (.int .u8 nn)) ?_
 refine oG (aop_conv' rfl rfl rfl ut5 ut3 rfl (IntWalk.i64_in _ om) ?_)
 refine fG (.pt 52 4) ft33_4 sz30 ?_
 refine oG (qL (.q eIL rr) ag30 ?_)
 refine oG (qN ut30 ?_)
 refine oG (aop_binI (u := (.int .i64 kk)) rfl rfl rfl rfl rfl (by show _ ≠ _; omega) ((remI om).trans (by rw [h_kk])) ?_)
 refine mG (.i kk) ?_
 refine rU (upd Z77 8 (.i kk)) (updO (Z76 d) 52 (.live ⟨[.one, .q eSec ss, .q eIL pa, .q ePnt pp, .q eIL rr, .i (1 + d.speed % (2 * (10 * (1 + d.len % 20)))), .i (1 + d.mute % 1000), .i (1 + d.wait % 1000), .i cn, .i (d.stay % 4)], 33, 1⟩)) ?_
 refine seqR ?_
 refine oG (qLB [.one, .q eSec ss, .q eIL pa, .q ePnt pp, .q eIL rr, .i (1 + d.speed % (2 * (10 * (1 + d.len % 20)))), .i (1 + d.mute % 1000), .i (1 + d.wait % 1000), .i cn, .i (d.stay % 4)] ag33 sz33 ?_)
 refine oG (callN_ 53 (r_New ss pa pp rr cn) rfl rfl rfl rfl rfl bd9 (fun _ => lS) newsN1 (free1 rfl) rfl rfl ?_)
 refine mG (.pt 53 0) ?_
 refine op0 ?_
 refine seqR ?_
 refine fG (.pt 52 1) ft33_1 sz29 ?_
 refine oG (qL (.q eSec ss) ag29 ?_)
 refine oG (qN ut29 ?_)
 refine oG (aop_makeE (n := ss.length) (f := eU8) 54 (0 : Int) rfl rfl rfl ut37 in5 rfl rfl rfl rfl om om rfl rfl ?_)
 refine mG (.sl 54 0 ((List.replicate ss.length (0 : Int)).length)) ?_
 refine rU (upd (upd (upd Z77 8 (.i kk)) 9 (.pt 53 0)) 10 (.sl 54 0 ((List.replicate ss.length (0 : Int)).length))) (updO (updO (updO (Z76 d) 52 (.live ⟨[.one, .q eSec ss, .q eIL pa, .q ePnt pp, .q eIL rr, .i (1 + d.speed % (2 * (10 * (1 + d.len % 20)))), .i (1 + d.mute % 1000), .i (1 + d.wait % 1000), .i cn, .i (d.stay % 4)], 33, 1⟩)) 53 (.live ⟨[.one, .q eSec ss, .q eIL pa, .q ePnt pp, .q eIL rr, .one, .one, .one, .i cn, .one, .rp [.one, .q eSec ss, .q eIL pa, .q ePnt pp, .one, .one, .one, .one, .one, .one], vN], 65, 1⟩)) 54 (.live ⟨(enc eU8 (List.replicate ss.length (0 : Int))), 5, 1⟩)) ?_
 refine awp_imp ⟨(upd (upd (upd Z77 8 (.i kk)) 9 (.pt 53 0)) 10 (.q eU8 (List.replicate ss.length 0))), (updO (updO noOb 52 (.live ⟨[.one, .q eSec ss, .q eIL pa, .q ePnt pp, .q eIL rr, .i (1 + d.speed % (2 * (10 * (1 + d.len % 20)))), .i (1 + d.mute % 1000), .i (1 + d.wait % 1000), .i cn, .i (d.stay % 4)], 33, 1⟩)) 53 (.live ⟨[.one, .q eSec ss, .q eIL pa, .q ePnt pp, .q eIL rr, .one, .one, .one, .i cn, .one, .rp [.one, .q eSec ss, .q eIL pa, .q ePnt pp, .one, .one, .one, .one, .one, .one], vN], 65, 1⟩))⟩ ?_ ?_
 ·skip
  refine (frz_ [52, 53] [(52, ⟨[.one, .q eSec ss, .q eIL pa, .q ePnt pp, .q eIL rr, .i (1 + d.speed % (2 * (10 * (1 + d.len % 20)))), .i (1 + d.mute % 1000), .i (1 + d.wait % 1000), .i cn, .i (d.stay % 4)], 33, 1⟩), (53, ⟨[.one, .q eSec ss, .q eIL pa, .q ePnt pp, .q eIL rr, .one, .one, .one, .i cn, .one, .rp [.one, .q eSec ss, .q eIL pa, .q ePnt pp, .one, .one, .one, .one, .one, .one], vN], 65, 1⟩)] rfl (fun _ h => h) ⟨keep_cells (cs := [.one, .q eSec ss, .q eIL pa, .q ePnt pp, .q eIL rr, .i (1 + d.speed % (2 * (10 * (1 + d.len % 20)))), .i (1 + d.mute % 1000), .i (1 + d.wait % 1000), .i cn, .i (d.stay % 4)]) (by simp) rfl rfl fzA, keep_cells (cs := [.one, .q eSec ss, .q eIL pa, .q ePnt pp, .q eIL rr, .one, .one, .one, .i cn, .one, .rp [.one, .q eSec ss, .q eIL pa, .q ePnt pp, .one, .one, .one, .one, .one, .one], vN]) (by simp) rfl rfl fzA, trivial⟩ (fz_lend 10 (.q eU8 (List.replicate ss.length (0 : Int))) (lend_s (id := 54) (n := (List.replicate ss.length (0 : Int)).length) (o := ⟨(enc eU8 (List.replicate ss.length (0 : Int))), 5, 1⟩) rfl (enc_len (fun _ => rfl) (by first | rfl | (simp; done)))) (fz_same 9 (.pt 53 0) rfl (fz_same 8 (.i kk) rfl (fz_same 7 (.pt 52 0) rfl (fz_same 6 (.b false) rfl fz_none)))))).trans ?_
  exact iJ 52 52 53 53 (o := ⟨[.one, .q eSec ss, .q eIL pa, .q ePnt pp, .q eIL rr, .i (1 + d.speed % (2 * (10 * (1 + d.len % 20)))), .i (1 + d.mute % 1000), .i (1 + d.wait % 1000), .i cn, .i (d.stay % 4)], 33, 1⟩) (o2 := ⟨[.one, .q eSec ss, .q eIL pa, .q ePnt pp, .q eIL rr, .one, .one, .one, .i cn, .one, .rp [.one, .q eSec ss, .q eIL pa, .q ePnt pp, .one, .one, .one, .one, .one, .one], vN], 65, 1⟩) rfl rfl
 refine seqR ?_
 refine mG (.pt 53 0) ?_
 refine mG (.i kk) ?_
 refine mG (.q eU8 (List.replicate ss.length 0)) ?_
 refine oG (callG_ false [53] [55, 56, 57] (r_SetN ss pa pp rr cn kk 1 (List.replicate ss.length 0) om om om (by rw [List.length_replicate]; omega) hk0 om (fun s h => (hk3 s h).1) hk4 hk5) rfl rfl rfl rfl rfl bd10 (by decide) ⟨giv_no (o := ⟨[.one, .q eSec ss, .q eIL pa, .q ePnt pp, .q eIL rr, .one, .one, .one, .i cn, .one, .rp [.one, .q eSec ss, .q eIL pa, .q ePnt pp, .one, .one, .one, .one, .one, .one], vN], 65, 1⟩) rfl rfl, trivial⟩ ⟨(arg_own (.pt _ _ (by simp)) rfl), (arg_no (a := .i kk)), (arg_no (a := .i 1)), (arg_no (a := .q eU8 (List.replicate ss.length 0))), (arg_no (a := vN)), (arg_no (a := vN)), trivial⟩ rfl ⟨rfl, rfl, rfl, trivial⟩ (fun h => by cases h) (am_no (a := .tup [.q eB (moveL ([] : List Bool) (movesL (paL ss pp (rr.getD kk.toNat [])) ([] : List Bool))), .i 0])) (place_cons (ost_map (lm_cons (am_no (a := .one)) (lm_cons (am_no (a := .q eSec ss)) (lm_cons (am_no (a := .q eIL pa)) (lm_cons (am_no (a := .q ePnt pp)) (lm_cons (am_no (a := .q eIL rr)) (lm_cons (am_no (a := .one)) (lm_cons (am_no (a := .one)) (lm_cons (am_no (a := .one)) (lm_cons (am_no (a := .i cn)) (lm_cons (am_no (a := .one)) (lm_cons (am_no (a := .rp [.one, .q eSec ss, .q eIL pa, .q ePnt pp, .one, .one, .one, .one, .one, .one])) (lm_cons rfl lm_nil))))))))))))) (place_cons (ost_map (lm_cons rfl lm_nil)) (place_cons (ost_map (lm_cons (am_no (a := .i kk)) (lm_cons (am_no (a := .i 1)) (lm_cons (am_no (a := .i (-1))) (lm_cons rfl lm_nil))))) (place_cons (ost_no (cs := (enc eU8 (List.replicate (pthR rr kk).length (1 : Int))))) place_nil)))) ?_)
 refine mG (.tup [.q eB (moveL ([] : List Bool) (movesL (paL ss pp (rr.getD kk.toNat [])) ([] : List Bool))), .i 0]) ?_
 refine oG (qE ?_)
 refine oG (qE ?_)
 refine mG (.q eB (moveL ([] : List Bool) (movesL (paL ss pp (rr.getD kk.toNat [])) ([] : List Bool)))) ?_
 refine mG (.i 0) ?_
 refine rU (upd (upd (upd Z77 8 (.i kk)) 9 (.pt 53 0)) 12 (.i 0)) (updO (updO (updO (updO (updO (updO noOb 52 (.live ⟨[.one, .q eSec ss, .q eIL pa, .q ePnt pp, .q eIL rr, .i (1 + d.speed % (2 * (10 * (1 + d.len % 20)))), .i (1 + d.mute % 1000), .i (1 + d.wait % 1000), .i cn, .i (d.stay % 4)], 33, 1⟩)) 53 (.live ⟨[.one, .q eSec ss, .q eIL pa, .q ePnt pp, .q eIL rr, .one, .one, .one, .i cn, .one, .rp [.one, .q eSec ss, .q eIL pa, .q ePnt pp, .one, .one, .one, .one, .one, .one], vN], 65, 1⟩)) 53 (.live ⟨[.one, .q eSec ss, .q eIL pa, .q ePnt pp, .q eIL rr, .one, .one, .one, .i cn, .one, .rp [.one, .q eSec ss, .q eIL pa, .q ePnt pp, .one, .one, .one, .one, .one, .one], .sl 55 0 1], 65, 1⟩)) 55 (.live ⟨[.pt 56 0], 69, 1⟩)) 56 (.live ⟨[.i kk, .i 1, .i (-1), .sl 57 0 ((List.replicate (pthR rr kk).length (1 : Int)).length)], 47, 1⟩)) 57 (.live ⟨(enc eU8 (List.replicate (pthR rr kk).length (1 : Int))), 5, 1⟩)) ?_
 refine awp_seq ?_
 refine seqR ?_
 refine mG (.i 0) ?_
 refine bG ((.bool false)) ?_
 refine op0 ?_
 refine awp_cond false rfl rfl (fun h => by cases h) (fun _ => ?_)
 refine awp_skip ?_
 refine seqR ?_
 refine fG (.pt 52 2) ft33_2 sz30 ?_
 refine oG (qL (.q eIL pa) ag30 ?_)
 refine oG (qN ut30 ?_)
 refine oG (aop_makeE (n := pa.length) (f := eI) 58 (0 : Int) rfl rfl rfl ut42 in3 rfl rfl rfl rfl om om rfl rfl ?_)
 refine mG (.sl 58 0 ((List.replicate pa.length (0 : Int)).length)) ?_
 refine rU (upd (upd (upd Z77 8 (.i kk)) 9 (.pt 53 0)) 13 (.sl 58 0 ((List.replicate pa.length (0 : Int)).length))) (updO (updO (updO (updO (updO (updO (updO noOb 52 (.live ⟨[.one, .q eSec ss, .q eIL pa, .q ePnt pp, .q eIL rr, .i (1 + d.speed % (2 * (10 * (1 + d.len % 20)))), .i (1 + d.mute % 1000), .i (1 + d.wait % 1000), .i cn, .i (d.stay % 4)], 33, 1⟩)) 53 (.live ⟨[.one, .q eSec ss, .q eIL pa, .q ePnt pp, .q eIL rr, .one, .one, .one, .i cn, .one, .rp [.one, .q eSec ss, .q eIL pa, .q ePnt pp, .one, .one, .one, .one, .one, .one], vN], 65, 1⟩)) 53 (.live ⟨[.one, .q eSec ss, .q eIL pa, .q ePnt pp, .q eIL rr, .one, .one, .one, .i cn, .one, .rp [.one, .q eSec ss, .q eIL pa, .q ePnt pp, .one, .one, .one, .one, .one, .one], .sl 55 0 1], 65, 1⟩)) 55 (.live ⟨[.pt 56 0], 69, 1⟩)) 56 (.live ⟨[.i kk, .i 1, .i (-1), .sl 57 0 ((List.replicate (pthR rr kk).length (1 : Int)).length)], 47, 1⟩)) 57 (.live ⟨(enc eU8 (List.replicate (pthR rr kk).length (1 : Int))), 5, 1⟩)) 58 (.live ⟨(enc eI (List.replicate pa.length (0 : Int))), 3, 1⟩)) ?_
 refine awp_seq ?_
 refine seqR ?_
 refine mG (.i 0) ?_
 refine op0 ?_
 refine awp_block ?_
 refine awp_countI (fun k => ⟨(upd (upd (upd (upd (upd Z75 7 (.pt 6 0)) 8 (.i kk)) 9 (.pt 1 0)) 13 (.sl 5 0 ((rpU 1 pa.length k).length))) 14 (.i (k : Int))), (updO (updO (updO (updO (updO (updO noOb 1 (.live ⟨[.one, .q eSec ss, .q eIL pa, .q ePnt pp, .q eIL rr, .one, .one, .one, .i cn, .one, .rp [.one, .q eSec ss, .q eIL pa, .q ePnt pp, .one, .one, .one, .one, .one, .one], .sl 2 0 1], 65, 1⟩)) 2 (.live ⟨[.pt 3 0], 69, 1⟩)) 3 (.live ⟨[.i kk, .i 1, .i (-1), .sl 4 0 ((List.replicate (pthR rr kk).length (1 : Int)).length)], 47, 1⟩)) 4 (.live ⟨(enc eU8 (List.replicate (pthR rr kk).length (1 : Int))), 5, 1⟩)) 5 (.live ⟨(enc eI (rpU 1 pa.length k)), 3, 1⟩)) 6 (.live ⟨[.one, .q eSec ss, .q eIL pa, .q ePnt pp, .q eIL rr, .i (1 + d.speed % (2 * (10 * (1 + d.len % 20)))), .i (1 + d.mute % 1000), .i (1 + d.wait % 1000), .i cn, .i (d.stay % 4)], 33, 1⟩))⟩) (fun k => True) (pa.length) ?_ trivial (fun k hk_k hinv => ?_)
 ·skip
  exact iL [(53, 1), (55, 2), (56, 3), (57, 4), (58, 5), (52, 6)] [((53, 1), .live _), ((55, 2), .live _), ((56, 3), .live _), ((57, 4), .live _), ((58, 5), .live _), ((52, 6), .live _)] ⟨row_map (o := ⟨[.one, .q eSec ss, .q eIL pa, .q ePnt pp, .q eIL rr, .one, .one, .one, .i cn, .one, .rp [.one, .q eSec ss, .q eIL pa, .q ePnt pp, .one, .one, .one, .one, .one, .one], .sl 55 0 1], 65, 1⟩) rfl (om_ (lm_cons (am_no (a := .one)) (lm_cons (am_no (a := .q eSec ss)) (lm_cons (am_no (a := .q eIL pa)) (lm_cons (am_no (a := .q ePnt pp)) (lm_cons (am_no (a := .q eIL rr)) (lm_cons (am_no (a := .one)) (lm_cons (am_no (a := .one)) (lm_cons (am_no (a := .one)) (lm_cons (am_no (a := .i cn)) (lm_cons (am_no (a := .one)) (lm_cons (am_no (a := .rp [.one, .q eSec ss, .q eIL pa, .q ePnt pp, .one, .one, .one, .one, .one, .one])) (lm_cons rfl lm_nil))))))))))))) (oks_cons (ok_no (a := .one)) (oks_cons (ok_no (a := .q eSec ss)) (oks_cons (ok_no (a := .q eIL pa)) (oks_cons (ok_no (a := .q ePnt pp)) (oks_cons (ok_no (a := .q eIL rr)) (oks_cons (ok_no (a := .one)) (oks_cons (ok_no (a := .one)) (oks_cons (ok_no (a := .one)) (oks_cons (ok_no (a := .i cn)) (oks_cons (ok_no (a := .one)) (oks_cons (ok_no (a := .rp [.one, .q eSec ss, .q eIL pa, .q ePnt pp, .one, .one, .one, .one, .one, .one])) (oks_cons (.sl _ _ _ (by simp)) oks_nil)))))))))))), row_map (o := ⟨[.pt 56 0], 69, 1⟩) rfl (om_ (lm_cons rfl lm_nil)) (oks_cons (.pt _ _ (by simp)) oks_nil), row_map (o := ⟨[.i kk, .i 1, .i (-1), .sl 57 0 ((List.replicate (pthR rr kk).length (1 : Int)).length)], 47, 1⟩) rfl (om_ (lm_cons (am_no (a := .i kk)) (lm_cons (am_no (a := .i 1)) (lm_cons (am_no (a := .i (-1))) (lm_cons rfl lm_nil))))) (oks_cons (ok_no (a := .i kk)) (oks_cons (ok_no (a := .i 1)) (oks_cons (ok_no (a := .i (-1))) (oks_cons (.sl _ _ _ (by simp)) oks_nil)))), row_no rfl rfl, row_no rfl (by exact congrArg (fun l_ => LObj.mk (enc eI l_) 3 1) (rpU_zero 1 pa.length).symm), row_no rfl rfl, trivial⟩ (he := (sS rfl (sM (by exact congrArg (AV.sl 5 0) (by rw [rpU_len om, List.length_replicate])) (sM rfl (sS rfl (sM rfl (sS rfl sr_none)))))))
 have hrl := rpU_len (v := 1) (n := pa.length) (k := k) om
 refine awp_seq ?_
 refine seqR ?_
 refine mG (.i (k : Int)) ?_
 refine mG (.sl 5 0 ((rpU 1 pa.length k).length)) ?_
 refine oG (aop_len rfl rfl rfl rfl ut42 (len_sl rfl) ?_)
 refine bG ((.bool (decide ((k : Int) < ((rpU 1 pa.length k).length : Int))))) ?_
 refine rU (upd (upd (upd (upd (upd (upd Z75 7 (.pt 6 0)) 8 (.i kk)) 9 (.pt 1 0)) 13 (.sl 5 0 ((rpU 1 pa.length k).length))) 14 (.i (k : Int))) 62 (.b (decide ((k : Int) < ((rpU 1 pa.length k).length : Int))))) (updO (updO (updO (updO (updO (updO noOb 1 (.live ⟨[.one, .q eSec ss, .q eIL pa, .q ePnt pp, .q eIL rr, .one, .one, .one, .i cn, .one, .rp [.one, .q eSec ss, .q eIL pa, .q ePnt pp, .one, .one, .one, .one, .one, .one], .sl 2 0 1], 65, 1⟩)) 2 (.live ⟨[.pt 3 0], 69, 1⟩)) 3 (.live ⟨[.i kk, .i 1, .i (-1), .sl 4 0 ((List.replicate (pthR rr kk).length (1 : Int)).length)], 47, 1⟩)) 4 (.live ⟨(enc eU8 (List.replicate (pthR rr kk).length (1 : Int))), 5, 1⟩)) 5 (.live ⟨(enc eI (rpU 1 pa.length k)), 3, 1⟩)) 6 (.live ⟨[.one, .q eSec ss, .q eIL pa, .q ePnt pp, .q eIL rr, .i (1 + d.speed % (2 * (10 * (1 + d.len % 20)))), .i (1 + d.mute % 1000), .i (1 + d.wait % 1000), .i cn, .i (d.stay % 4)], 33, 1⟩)) ?_
 refine awp_cond (decide ((k : Int) < ((rpU 1 pa.length k).length : Int))) rfl rfl (fun hc3 => ?_) (fun hc3 => ?_)
 ·skip
  have hf5 := of_decide_eq_true hc3
  refine awp_skip ?_
  refine awp_seq ?_
  refine awp_block ?_
  refine regR ?_
  refine mG (.sl 5 0 ((rpU 1 pa.length k).length)) ?_
  refine mG (.i (k : Int)) ?_
  refine oG (aop_ixO (k := k) rfl rfl rfl ut42 sz3 rfl rfl oo ?_)
  refine oG (aop_storeE (f := eI) (l := rpU 1 pa.length k) (l' := (rpU 1 pa.length k).set k (1 : Int)) (1 : Int) rfl rfl rfl sz3 rfl rfl rfl rfl rfl (fun _ => rfl) oo rfl rfl ?_)
  refine op0 ?_
  refine rT (upd (upd (upd (upd (upd Z75 7 (.pt 6 0)) 8 (.i kk)) 9 (.pt 1 0)) 13 (.sl 5 0 ((rpU 1 pa.length k).length))) 14 (.i (k : Int))) (updO (updO (updO (updO (updO (updO (updO noOb 1 (.live ⟨[.one, .q eSec ss, .q eIL pa, .q ePnt pp, .q eIL rr, .one, .one, .one, .i cn, .one, .rp [.one, .q eSec ss, .q eIL pa, .q ePnt pp, .one, .one, .one, .one, .one, .one], .sl 2 0 1], 65, 1⟩)) 2 (.live ⟨[.pt 3 0], 69, 1⟩)) 3 (.live ⟨[.i kk, .i 1, .i (-1), .sl 4 0 ((List.replicate (pthR rr kk).length (1 : Int)).length)], 47, 1⟩)) 4 (.live ⟨(enc eU8 (List.replicate (pthR rr kk).length (1 : Int))), 5, 1⟩)) 5 (.live ⟨(enc eI (rpU 1 pa.length k)), 3, 1⟩)) 6 (.live ⟨[.one, .q eSec ss, .q eIL pa, .q ePnt pp, .q eIL rr, .i (1 + d.speed % (2 * (10 * (1 + d.len % 20)))), .i (1 + d.mute % 1000), .i (1 + d.wait % 1000), .i cn, .i (d.stay % 4)], 33, 1⟩)) 5 (.live ⟨(enc eI ((rpU 1 pa.length k).set k (1 : Int))), 3, 1⟩)) ?_
  refine regR ?_
  refine mG (.i (k : Int)) ?_
  refine oG (qB (.int .i64 ((k + 1 : Nat) : Int)) (addN om) ?_)
  refine mG (.i ((k + 1 : Nat) : Int)) ?_
  refine op0 ?_
  show _ ∧ _
  have hs_ := rpU_set (v := 1) (n := pa.length) (k := k) om
  refine ⟨by omega, trivial, ?_⟩
  exact iL [(1, 1), (2, 2), (3, 3), (4, 4), (5, 5), (6, 6)] [((1, 1), .live _), ((2, 2), .live _), ((3, 3), .live _), ((4, 4), .live _), ((5, 5), .live _), ((6, 6), .live _)] ⟨row_map (o := ⟨[.one, .q eSec ss, .q eIL pa, .q ePnt pp, .q eIL rr, .one, .one, .one, .i cn, .one, .rp [.one, .q eSec ss, .q eIL pa, .q ePnt pp, .one, .one, .one, .one, .one, .one], .sl 2 0 1], 65, 1⟩) rfl (om_ (lm_cons (am_no (a := .one)) (lm_cons (am_no (a := .q eSec ss)) (lm_cons (am_no (a := .q eIL pa)) (lm_cons (am_no (a := .q ePnt pp)) (lm_cons (am_no (a := .q eIL rr)) (lm_cons (am_no (a := .one)) (lm_cons (am_no (a := .one)) (lm_cons (am_no (a := .one)) (lm_cons (am_no (a := .i cn)) (lm_cons (am_no (a := .one)) (lm_cons (am_no (a := .rp [.one, .q eSec ss, .q eIL pa, .q ePnt pp, .one, .one, .one, .one, .one, .one])) (lm_cons rfl lm_nil))))))))))))) (oks_cons (ok_no (a := .one)) (oks_cons (ok_no (a := .q eSec ss)) (oks_cons (ok_no (a := .q eIL pa)) (oks_cons (ok_no (a := .q ePnt pp)) (oks_cons (ok_no (a := .q eIL rr)) (oks_cons (ok_no (a := .one)) (oks_cons (ok_no (a := .one)) (oks_cons (ok_no (a := .one)) (oks_cons (ok_no (a := .i cn)) (oks_cons (ok_no (a := .one)) (oks_cons (ok_no (a := .rp [.one, .q eSec ss, .q eIL pa, .q ePnt pp, .one, .one, .one, .one, .one, .one])) (oks_cons (.sl _ _ _ (by simp)) oks_nil)))))))))))), row_map (o := ⟨[.pt 3 0], 69, 1⟩) rfl (om_ (lm_cons rfl lm_nil)) (oks_cons (.pt _ _ (by simp)) oks_nil), row_map (o := ⟨[.i kk, .i 1, .i (-1), .sl 4 0 ((List.replicate (pthR rr kk).length (1 : Int)).length)], 47, 1⟩) rfl (om_ (lm_cons (am_no (a := .i kk)) (lm_cons (am_no (a := .i 1)) (lm_cons (am_no (a := .i (-1))) (lm_cons rfl lm_nil))))) (oks_cons (ok_no (a := .i kk)) (oks_cons (ok_no (a := .i 1)) (oks_cons (ok_no (a := .i (-1))) (oks_cons (.sl _ _ _ (by simp)) oks_nil)))), row_no rfl rfl, row_no rfl (by exact congrArg (fun l_ => LObj.mk (enc eI l_) 3 1) hs_.symm), row_no rfl rfl, trivial⟩ (he := (sS rfl (sM (by exact congrArg (AV.sl 5 0) (by rw [← hs_, List.length_set])) (sM rfl (sS rfl (sM rfl (sS rfl sr_none)))))))
 have hf6 := of_decide_eq_false hc3
 refine awp_exit ?_
 have hkp : k = pa.length := by omega
 refine awp_imp ⟨(upd (upd (upd (upd (upd (upd Z75 7 (.pt 6 0)) 8 (.i kk)) 9 (.pt 1 0)) 13 (.q eI (List.replicate pa.length (1 : Int)))) 14 (.i (k : Int))) 62 (.b (decide ((k : Int) < ((rpU 1 pa.length k).length : Int))))), (updO (updO (updO (updO (updO noOb 1 (.live ⟨[.one, .q eSec ss, .q eIL pa, .q ePnt pp, .q eIL rr, .one, .one, .one, .i cn, .one, .rp [.one, .q eSec ss, .q eIL pa, .q ePnt pp, .one, .one, .one, .one, .one, .one], .sl 2 0 1], 65, 1⟩)) 2 (.live ⟨[.pt 3 0], 69, 1⟩)) 3 (.live ⟨[.i kk, .i 1, .i (-1), .sl 4 0 ((List.replicate (pthR rr kk).length (1 : Int)).length)], 47, 1⟩)) 4 (.live ⟨(enc eU8 (List.replicate (pthR rr kk).length (1 : Int))), 5, 1⟩)) 6 (.live ⟨[.one, .q eSec ss, .q eIL pa, .q ePnt pp, .q eIL rr, .i (1 + d.speed % (2 * (10 * (1 + d.len % 20)))), .i (1 + d.mute % 1000), .i (1 + d.wait % 1000), .i cn, .i (d.stay % 4)], 33, 1⟩))⟩ ?_ ?_
 ·skip
  refine (frz_ [6, 1, 2, 3, 4] [(6, ⟨[.one, .q eSec ss, .q eIL pa, .q ePnt pp, .q eIL rr, .i (1 + d.speed % (2 * (10 * (1 + d.len % 20)))), .i (1 + d.mute % 1000), .i (1 + d.wait % 1000), .i cn, .i (d.stay % 4)], 33, 1⟩), (1, ⟨[.one, .q eSec ss, .q eIL pa, .q ePnt pp, .q eIL rr, .one, .one, .one, .i cn, .one, .rp [.one, .q eSec ss, .q eIL pa, .q ePnt pp, .one, .one, .one, .one, .one, .one], .sl 2 0 1], 65, 1⟩), (2, ⟨[.pt 3 0], 69, 1⟩), (3, ⟨[.i kk, .i 1, .i (-1), .sl 4 0 ((List.replicate (pthR rr kk).length (1 : Int)).length)], 47, 1⟩), (4, ⟨(enc eU8 (List.replicate (pthR rr kk).length (1 : Int))), 5, 1⟩)] rfl (fun _ h => h) ⟨keep_cells (cs := [.one, .q eSec ss, .q eIL pa, .q ePnt pp, .q eIL rr, .i (1 + d.speed % (2 * (10 * (1 + d.len % 20)))), .i (1 + d.mute % 1000), .i (1 + d.wait % 1000), .i cn, .i (d.stay % 4)]) (by simp) rfl rfl fzA, keep_cells (cs := [.one, .q eSec ss, .q eIL pa, .q ePnt pp, .q eIL rr, .one, .one, .one, .i cn, .one, .rp [.one, .q eSec ss, .q eIL pa, .q ePnt pp, .one, .one, .one, .one, .one, .one], .sl 2 0 1]) (by simp) rfl rfl fzA, keep_cells (cs := [.pt 3 0]) (by simp) rfl rfl fzA, keep_cells (cs := [.i kk, .i 1, .i (-1), .sl 4 0 ((List.replicate (pthR rr kk).length (1 : Int)).length)]) (by simp) rfl rfl fzA, keep_same (by simp) rfl, trivial⟩ (fz_same 62 (.b (decide ((k : Int) < ((rpU 1 pa.length k).length : Int)))) rfl (fz_same 14 (.i (k : Int)) rfl (fz_lend 13 (.q eI (rpU 1 pa.length k)) (lend_s (id := 5) (n := (rpU 1 pa.length k).length) (o := ⟨(enc eI (rpU 1 pa.length k)), 3, 1⟩) rfl (enc_len (fun _ => rfl) (by first | rfl | (simp; done)))) (fz_same 9 (.pt 1 0) rfl (fz_same 8 (.i kk) rfl (fz_same 7 (.pt 6 0) rfl (fz_same 6 (.b false) rfl fz_none)))))))).trans ?_
  exact iL [(1, 1), (2, 2), (3, 3), (4, 4), (6, 6)] [((1, 1), .live _), ((2, 2), .live _), ((3, 3), .live _), ((4, 4), .live _), ((6, 6), .live _)] ⟨row_map (o := ⟨[.one, .q eSec ss, .q eIL pa, .q ePnt pp, .q eIL rr, .one, .one, .one, .i cn, .one, .rp [.one, .q eSec ss, .q eIL pa, .q ePnt pp, .one, .one, .one, .one, .one, .one], .sl 2 0 1], 65, 1⟩) rfl (om_ (lm_cons (am_no (a := .one)) (lm_cons (am_no (a := .q eSec ss)) (lm_cons (am_no (a := .q eIL pa)) (lm_cons (am_no (a := .q ePnt pp)) (lm_cons (am_no (a := .q eIL rr)) (lm_cons (am_no (a := .one)) (lm_cons (am_no (a := .one)) (lm_cons (am_no (a := .one)) (lm_cons (am_no (a := .i cn)) (lm_cons (am_no (a := .one)) (lm_cons (am_no (a := .rp [.one, .q eSec ss, .q eIL pa, .q ePnt pp, .one, .one, .one, .one, .one, .one])) (lm_cons rfl lm_nil))))))))))))) (oks_cons (ok_no (a := .one)) (oks_cons (ok_no (a := .q eSec ss)) (oks_cons (ok_no (a := .q eIL pa)) (oks_cons (ok_no (a := .q ePnt pp)) (oks_cons (ok_no (a := .q eIL rr)) (oks_cons (ok_no (a := .one)) (oks_cons (ok_no (a := .one)) (oks_cons (ok_no (a := .one)) (oks_cons (ok_no (a := .i cn)) (oks_cons (ok_no (a := .one)) (oks_cons (ok_no (a := .rp [.one, .q eSec ss, .q eIL pa, .q ePnt pp, .one, .one, .one, .one, .one, .one])) (oks_cons (.sl _ _ _ (by simp)) oks_nil)))))))))))), row_map (o := ⟨[.pt 3 0], 69, 1⟩) rfl (om_ (lm_cons rfl lm_nil)) (oks_cons (.pt _ _ (by simp)) oks_nil), row_map (o := ⟨[.i kk, .i 1, .i (-1), .sl 4 0 ((List.replicate (pthR rr kk).length (1 : Int)).length)], 47, 1⟩) rfl (om_ (lm_cons (am_no (a := .i kk)) (lm_cons (am_no (a := .i 1)) (lm_cons (am_no (a := .i (-1))) (lm_cons rfl lm_nil))))) (oks_cons (ok_no (a := .i kk)) (oks_cons (ok_no (a := .i 1)) (oks_cons (ok_no (a := .i (-1))) (oks_cons (.sl _ _ _ (by simp)) oks_nil)))), row_no (o := ⟨(enc eU8 (List.replicate (pthR rr kk).length (1 : Int))), 5, 1⟩) rfl rfl, row_no (o := ⟨[.one, .q eSec ss, .q eIL pa, .q ePnt pp, .q eIL rr, .i (1 + d.speed % (2 * (10 * (1 + d.len % 20)))), .i (1 + d.mute % 1000), .i (1 + d.wait % 1000), .i cn, .i (d.stay % 4)], 33, 1⟩) rfl rfl, trivial⟩ (he := (sS rfl (sS rfl (sS (show (AV.ro (rpU 1 pa.length k).length (enc eI (rpU 1 pa.length k))) = AV.ro (List.replicate pa.length (1 : Int)).length (enc eI (List.replicate pa.length (1 : Int))) from by rw [hkp, rpU_all]) (sM rfl (sS rfl (sM rfl (sS rfl sr_none))))))))
 refine seqR ?_
 refine fG (.pt 6 4) ft33_4 sz30 ?_
 refine oG (qL (.q eIL rr) ag30 ?_)
 refine mG (.i kk) ?_
 refine oG (aop_ixI [] rfl rfl rfl ut30 sz42 rfl rfl (fun _ => rfl) rfl om oo ?_)
 refine oG (qL (.q eI (rr.getD kk.toNat [])) ag42 ?_)
 refine oG (aop_sliceRoN (l := 1) (hgh := ((rr.getD kk.toNat []).length)) (cells' := enc eI ((rr.getD kk.toNat []).drop 1)) (((rr.getD kk.toNat []).drop 1)).length rfl rfl rfl ut42 sz3 rfl ⟨_, rfl⟩ rfl oo oo (sliceE1 (f := eI) (fun _ => rfl) _ _ _ rfl) oz ?_)
 refine mG (.q eI ((rr.getD kk.toNat []).drop 1)) ?_
 refine rU (upd (upd (upd (upd (upd Z75 7 (.pt 6 0)) 8 (.i kk)) 9 (.pt 1 0)) 13 (.q eI (List.replicate pa.length (1 : Int)))) 15 (.q eI ((rr.getD kk.toNat []).drop 1))) (updO (updO (updO (updO (updO noOb 1 (.live ⟨[.one, .q eSec ss, .q eIL pa, .q ePnt pp, .q eIL rr, .one, .one, .one, .i cn, .one, .rp [.one, .q eSec ss, .q eIL pa, .q ePnt pp, .one, .one, .one, .one, .one, .one], .sl 2 0 1], 65, 1⟩)) 2 (.live ⟨[.pt 3 0], 69, 1⟩)) 3 (.live ⟨[.i kk, .i 1, .i (-1), .sl 4 0 ((List.replicate (pthR rr kk).length (1 : Int)).length)], 47, 1⟩)) 4 (.live ⟨(enc eU8 (List.replicate (pthR rr kk).length (1 : Int))), 5, 1⟩)) 6 (.live ⟨[.one, .q eSec ss, .q eIL pa, .q ePnt pp, .q eIL rr, .i (1 + d.speed % (2 * (10 * (1 + d.len % 20)))), .i (1 + d.mute % 1000), .i (1 + d.wait % 1000), .i cn, .i (d.stay % 4)], 33, 1⟩)) ?_
 refine seqR ?_
 refine fG (.pt 6 1) ft33_1 sz29 ?_
 refine oG (qL (.q eSec ss) ag29 ?_)
 refine oG (qN ut29 ?_)
 refine oG (aop_makeE (n := ss.length) (f := eU8) 59 (0 : Int) rfl rfl rfl ut37 in5 rfl rfl rfl rfl om om rfl rfl ?_)
 refine mG (.sl 59 0 ((List.replicate ss.length (0 : Int)).length)) ?_
 refine rU (upd (upd (upd (upd (upd Z75 8 (.i kk)) 9 (.pt 1 0)) 13 (.q eI (List.replicate pa.length (1 : Int)))) 15 (.q eI ((rr.getD kk.toNat []).drop 1))) 16 (.sl 59 0 ((List.replicate ss.length (0 : Int)).length))) (updO (updO (updO (updO (updO (updO noOb 1 (.live ⟨[.one, .q eSec ss, .q eIL pa, .q ePnt pp, .q eIL rr, .one, .one, .one, .i cn, .one, .rp [.one, .q eSec ss, .q eIL pa, .q ePnt pp, .one, .one, .one, .one, .one, .one], .sl 2 0 1], 65, 1⟩)) 2 (.live ⟨[.pt 3 0], 69, 1⟩)) 3 (.live ⟨[.i kk, .i 1, .i (-1), .sl 4 0 ((List.replicate (pthR rr kk).length (1 : Int)).length)], 47, 1⟩)) 4 (.live ⟨(enc eU8 (List.replicate (pthR rr kk).length (1 : Int))), 5, 1⟩)) 6 (.live ⟨[.one, .q eSec ss, .q eIL pa, .q ePnt pp, .q eIL rr, .i (1 + d.speed % (2 * (10 * (1 + d.len % 20)))), .i (1 + d.mute % 1000), .i (1 + d.wait % 1000), .i cn, .i (d.stay % 4)], 33, 1⟩)) 59 (.live ⟨(enc eU8 (List.replicate ss.length (0 : Int))), 5, 1⟩)) ?_
 refine awp_seq ?_
 refine seqCut ⟨(upd (upd (upd (upd (upd (upd Z75 8 (.i kk)) 9 (.pt 1 0)) 13 (.q eI (List.replicate pa.length (1 : Int)))) 15 (.q eI (pthR rr kk))) 16 (.sl 59 0 ((List.replicate ss.length (0 : Int)).length))) 17 (.i 0)), (updO (updO (updO (updO (updO (updO noOb 1 (.live ⟨[.one, .q eSec ss, .q eIL pa, .q ePnt pp, .q eIL rr, .one, .one, .one, .i cn, .one, .rp [.one, .q eSec ss, .q eIL pa, .q ePnt pp, .one, .one, .one, .one, .one, .one], .sl 2 0 1], 65, 1⟩)) 2 (.live ⟨[.pt 3 0], 69, 1⟩)) 3 (.live ⟨[.i kk, .i 1, .i (-1), .sl 4 0 ((List.replicate (pthR rr kk).length (1 : Int)).length)], 47, 1⟩)) 4 (.live ⟨(enc eU8 (List.replicate (pthR rr kk).length (1 : Int))), 5, 1⟩)) 6 (.live ⟨[.one, .q eSec ss, .q eIL pa, .q ePnt pp, .q eIL rr, .i (1 + d.speed % (2 * (10 * (1 + d.len % 20)))), .i (1 + d.mute % 1000), .i (1 + d.wait % 1000), .i cn, .i (d.stay % 4)], 33, 1⟩)) 59 (.live ⟨(enc eU8 (List.replicate ss.length (0 : Int))), 5, 1⟩))⟩ ?_ ?_
 ·skip
  refine regR ?_
  refine mG (.i 0) ?_
  refine op0 ?_
  show Imp _ _ _
  exact iL [(1, 1), (2, 2), (3, 3), (4, 4), (6, 6), (59, 59)] [((1, 1), .live _), ((2, 2), .live _), ((3, 3), .live _), ((4, 4), .live _), ((6, 6), .live _), ((59, 59), .live _)] ⟨row_map (o := ⟨[.one, .q eSec ss, .q eIL pa, .q ePnt pp, .q eIL rr, .one, .one, .one, .i cn, .one, .rp [.one, .q eSec ss, .q eIL pa, .q ePnt pp, .one, .one, .one, .one, .one, .one], .sl 2 0 1], 65, 1⟩) rfl (om_ (lm_cons (am_no (a := .one)) (lm_cons (am_no (a := .q eSec ss)) (lm_cons (am_no (a := .q eIL pa)) (lm_cons (am_no (a := .q ePnt pp)) (lm_cons (am_no (a := .q eIL rr)) (lm_cons (am_no (a := .one)) (lm_cons (am_no (a := .one)) (lm_cons (am_no (a := .one)) (lm_cons (am_no (a := .i cn)) (lm_cons (am_no (a := .one)) (lm_cons (am_no (a := .rp [.one, .q eSec ss, .q eIL pa, .q ePnt pp, .one, .one, .one, .one, .one, .one])) (lm_cons rfl lm_nil))))))))))))) (oks_cons (ok_no (a := .one)) (oks_cons (ok_no (a := .q eSec ss)) (oks_cons (ok_no (a := .q eIL pa)) (oks_cons (ok_no (a := .q ePnt pp)) (oks_cons (ok_no (a := .q eIL rr)) (oks_cons (ok_no (a := .one)) (oks_cons (ok_no (a := .one)) (oks_cons (ok_no (a := .one)) (oks_cons (ok_no (a := .i cn)) (oks_cons (ok_no (a := .one)) (oks_cons (ok_no (a := .rp [.one, .q eSec ss, .q eIL pa, .q ePnt pp, .one, .one, .one, .one, .one, .one])) (oks_cons (.sl _ _ _ (by simp)) oks_nil)))))))))))), row_map (o := ⟨[.pt 3 0], 69, 1⟩) rfl (om_ (lm_cons rfl lm_nil)) (oks_cons (.pt _ _ (by simp)) oks_nil), row_map (o := ⟨[.i kk, .i 1, .i (-1), .sl 4 0 ((List.replicate (pthR rr kk).length (1 : Int)).length)], 47, 1⟩) rfl (om_ (lm_cons (am_no (a := .i kk)) (lm_cons (am_no (a := .i 1)) (lm_cons (am_no (a := .i (-1))) (lm_cons rfl lm_nil))))) (oks_cons (ok_no (a := .i kk)) (oks_cons (ok_no (a := .i 1)) (oks_cons (ok_no (a := .i (-1))) (oks_cons (.sl _ _ _ (by simp)) oks_nil)))), row_no rfl rfl, row_no rfl rfl, row_no rfl rfl, trivial⟩
 refine awp_block ?_
 refine awp_countI (fun j => ⟨(upd (upd (upd (upd (upd (upd Z75 8 (.i kk)) 9 (.pt 1 0)) 13 (.q eI (List.replicate pa.length (1 : Int)))) 15 (.q eI (pthR rr kk))) 16 (.sl 5 0 ss.length)) 17 (.i (j : Int))), (updO (updO (updO (updO (updO noOb 1 (.live ⟨[.one, .q eSec ss, .q eIL pa, .q ePnt pp, .q eIL rr, .one, .one, .one, .i cn, .one, .rp [.one, .q eSec ss, .q eIL pa, .q ePnt pp, .one, .one, .one, .one, .one, .one], .sl 2 0 1], 65, 1⟩)) 2 (.live ⟨[.pt 3 0], 69, 1⟩)) 3 (.live ⟨[.i kk, .i 1, .i (-1), .sl 4 0 ((List.replicate (pthR rr kk).length (1 : Int)).length)], 47, 1⟩)) 4 (.live ⟨(enc eU8 (List.replicate (pthR rr kk).length (1 : Int))), 5, 1⟩)) 5 (.live ⟨(enc eU8 (stI (pthR rr kk) ss.length j)), 5, 1⟩))⟩) (fun j => True) ((pthR rr kk).length) ?_ trivial (fun j hk_j hinv => ?_)
 ·skip
  exact iL [(1, 1), (2, 2), (3, 3), (4, 4), (59, 5)] [((1, 1), .live _), ((2, 2), .live _), ((3, 3), .live _), ((4, 4), .live _), ((59, 5), .live _)] ⟨row_map (o := ⟨[.one, .q eSec ss, .q eIL pa, .q ePnt pp, .q eIL rr, .one, .one, .one, .i cn, .one, .rp [.one, .q eSec ss, .q eIL pa, .q ePnt pp, .one, .one, .one, .one, .one, .one], .sl 2 0 1], 65, 1⟩) rfl (om_ (lm_cons (am_no (a := .one)) (lm_cons (am_no (a := .q eSec ss)) (lm_cons (am_no (a := .q eIL pa)) (lm_cons (am_no (a := .q ePnt pp)) (lm_cons (am_no (a := .q eIL rr)) (lm_cons (am_no (a := .one)) (lm_cons (am_no (a := .one)) (lm_cons (am_no (a := .one)) (lm_cons (am_no (a := .i cn)) (lm_cons (am_no (a := .one)) (lm_cons (am_no (a := .rp [.one, .q eSec ss, .q eIL pa, .q ePnt pp, .one, .one, .one, .one, .one, .one])) (lm_cons rfl lm_nil))))))))))))) (oks_cons (ok_no (a := .one)) (oks_cons (ok_no (a := .q eSec ss)) (oks_cons (ok_no (a := .q eIL pa)) (oks_cons (ok_no (a := .q ePnt pp)) (oks_cons (ok_no (a := .q eIL rr)) (oks_cons (ok_no (a := .one)) (oks_cons (ok_no (a := .one)) (oks_cons (ok_no (a := .one)) (oks_cons (ok_no (a := .i cn)) (oks_cons (ok_no (a := .one)) (oks_cons (ok_no (a := .rp [.one, .q eSec ss, .q eIL pa, .q ePnt pp, .one, .one, .one, .one, .one, .one])) (oks_cons (.sl _ _ _ (by simp)) oks_nil)))))))))))), row_map (o := ⟨[.pt 3 0], 69, 1⟩) rfl (om_ (lm_cons rfl lm_nil)) (oks_cons (.pt _ _ (by simp)) oks_nil), row_map (o := ⟨[.i kk, .i 1, .i (-1), .sl 4 0 ((List.replicate (pthR rr kk).length (1 : Int)).length)], 47, 1⟩) rfl (om_ (lm_cons (am_no (a := .i kk)) (lm_cons (am_no (a := .i 1)) (lm_cons (am_no (a := .i (-1))) (lm_cons rfl lm_nil))))) (oks_cons (ok_no (a := .i kk)) (oks_cons (ok_no (a := .i 1)) (oks_cons (ok_no (a := .i (-1))) (oks_cons (.sl _ _ _ (by simp)) oks_nil)))), row_no rfl rfl, row_no rfl (by exact congrArg (fun l_ => LObj.mk (enc eU8 l_) 5 1) stI_0.symm), trivial⟩ (he := (sS rfl (sM (by exact congrArg (AV.sl 5 0) (by rw [List.length_replicate])) (sS rfl (sS rfl (sM rfl (sS rfl (sS rfl sr_none))))))))
 have hsl_ := stI_len (p := (pthR rr kk)) (n := ss.length) (i := j)
 refine awp_seq ?_
 refine seqR ?_
 refine mG (.i (j : Int)) ?_
 refine mG (.q eI (pthR rr kk)) ?_
 refine oG (qN ut42 ?_)
 refine bG ((.bool (decide ((j : Int) < ((pthR rr kk).length : Int))))) ?_
 refine rU (upd (upd (upd (upd (upd (upd (upd Z75 8 (.i kk)) 9 (.pt 1 0)) 13 (.q eI (List.replicate pa.length (1 : Int)))) 15 (.q eI (pthR rr kk))) 16 (.sl 5 0 ss.length)) 17 (.i (j : Int))) 81 (.b (decide ((j : Int) < ((pthR rr kk).length : Int))))) (updO (updO (updO (updO (updO noOb 1 (.live ⟨[.one, .q eSec ss, .q eIL pa, .q ePnt pp, .q eIL rr, .one, .one, .one, .i cn, .one, .rp [.one, .q eSec ss, .q eIL pa, .q ePnt pp, .one, .one, .one, .one, .one, .one], .sl 2 0 1], 65, 1⟩)) 2 (.live ⟨[.pt 3 0], 69, 1⟩)) 3 (.live ⟨[.i kk, .i 1, .i (-1), .sl 4 0 ((List.replicate (pthR rr kk).length (1 : Int)).length)], 47, 1⟩)) 4 (.live ⟨(enc eU8 (List.replicate (pthR rr kk).length (1 : Int))), 5, 1⟩)) 5 (.live ⟨(enc eU8 (stI (pthR rr kk) ss.length j)), 5, 1⟩)) ?_
 refine awp_cond (decide ((j : Int) < ((pthR rr kk).length : Int))) rfl rfl (fun hc4 => ?_) (fun hc4 => ?_)
 ·skip
  have hf7 := of_decide_eq_true hc4
  have hsj := hk3 _ (getD_mem (l := (pthR rr kk)) (k := j) 0 om)
  refine awp_skip ?_
  refine awp_seq ?_
  refine awp_block ?_
  refine regR ?_
  refine mG (.sl 5 0 ss.length) ?_
  refine mG (.q eI (pthR rr kk)) ?_
  refine mG (.i (j : Int)) ?_
  refine oG (qX (0 : Int) ut42 sz3 ?_)
  refine oG (qL (.i ((pthR rr kk).getD j 0)) ag3 ?_)
  refine oG (aop_ixOI rfl rfl rfl ut37 sz5 rfl rfl om oo ?_)
  refine oG (aop_storeE (f := eU8) (l := stI (pthR rr kk) ss.length j) (l' := (stI (pthR rr kk) ss.length j).set (((pthR rr kk).getD j 0).toNat) (1 : Int)) (1 : Int) rfl rfl rfl sz5 rfl rfl rfl rfl rfl (fun _ => rfl) oo rfl rfl ?_)
  refine op0 ?_
  refine rT (upd (upd (upd (upd (upd (upd Z75 8 (.i kk)) 9 (.pt 1 0)) 13 (.q eI (List.replicate pa.length (1 : Int)))) 15 (.q eI (pthR rr kk))) 16 (.sl 5 0 ss.length)) 17 (.i (j : Int))) (updO (updO (updO (updO (updO (updO noOb 1 (.live ⟨[.one, .q eSec ss, .q eIL pa, .q ePnt pp, .q eIL rr, .one, .one, .one, .i cn, .one, .rp [.one, .q eSec ss, .q eIL pa, .q ePnt pp, .one, .one, .one, .one, .one, .one], .sl 2 0 1], 65, 1⟩)) 2 (.live ⟨[.pt 3 0], 69, 1⟩)) 3 (.live ⟨[.i kk, .i 1, .i (-1), .sl 4 0 ((List.replicate (pthR rr kk).length (1 : Int)).length)], 47, 1⟩)) 4 (.live ⟨(enc eU8 (List.replicate (pthR rr kk).length (1 : Int))), 5, 1⟩)) 5 (.live ⟨(enc eU8 (stI (pthR rr kk) ss.length j)), 5, 1⟩)) 5 (.live ⟨(enc eU8 ((stI (pthR rr kk) ss.length j).set (((pthR rr kk).getD j 0).toNat) (1 : Int))), 5, 1⟩)) ?_
  refine regR ?_
  refine mG (.i (j : Int)) ?_
  refine oG (qB (.int .i64 ((j + 1 : Nat) : Int)) (addN om) ?_)
  refine mG (.i ((j + 1 : Nat) : Int)) ?_
  refine op0 ?_
  show _ ∧ _
  have hs_ := stI_step (p := (pthR rr kk)) (n := ss.length) (i := j) om hsj.1
  refine ⟨by omega, trivial, ?_⟩
  exact iL [(1, 1), (2, 2), (3, 3), (4, 4), (5, 5)] [((1, 1), .live _), ((2, 2), .live _), ((3, 3), .live _), ((4, 4), .live _), ((5, 5), .live _)] ⟨row_map (o := ⟨[.one, .q eSec ss, .q eIL pa, .q ePnt pp, .q eIL rr, .one, .one, .one, .i cn, .one, .rp [.one, .q eSec ss, .q eIL pa, .q ePnt pp, .one, .one, .one, .one, .one, .one], .sl 2 0 1], 65, 1⟩) rfl (om_ (lm_cons (am_no (a := .one)) (lm_cons (am_no (a := .q eSec ss)) (lm_cons (am_no (a := .q eIL pa)) (lm_cons (am_no (a := .q ePnt pp)) (lm_cons (am_no (a := .q eIL rr)) (lm_cons (am_no (a := .one)) (lm_cons (am_no (a := .one)) (lm_cons (am_no (a := .one)) (lm_cons (am_no (a := .i cn)) (lm_cons (am_no (a := .one)) (lm_cons (am_no (a := .rp [.one, .q eSec ss, .q eIL pa, .q ePnt pp, .one, .one, .one, .one, .one, .one])) (lm_cons rfl lm_nil))))))))))))) (oks_cons (ok_no (a := .one)) (oks_cons (ok_no (a := .q eSec ss)) (oks_cons (ok_no (a := .q eIL pa)) (oks_cons (ok_no (a := .q ePnt pp)) (oks_cons (ok_no (a := .q eIL rr)) (oks_cons (ok_no (a := .one)) (oks_cons (ok_no (a := .one)) (oks_cons (ok_no (a := .one)) (oks_cons (ok_no (a := .i cn)) (oks_cons (ok_no (a := .one)) (oks_cons (ok_no (a := .rp [.one, .q eSec ss, .q eIL pa, .q ePnt pp, .one, .one, .one, .one, .one, .one])) (oks_cons (.sl _ _ _ (by simp)) oks_nil)))))))))))), row_map (o := ⟨[.pt 3 0], 69, 1⟩) rfl (om_ (lm_cons rfl lm_nil)) (oks_cons (.pt _ _ (by simp)) oks_nil), row_map (o := ⟨[.i kk, .i 1, .i (-1), .sl 4 0 ((List.replicate (pthR rr kk).length (1 : Int)).length)], 47, 1⟩) rfl (om_ (lm_cons (am_no (a := .i kk)) (lm_cons (am_no (a := .i 1)) (lm_cons (am_no (a := .i (-1))) (lm_cons rfl lm_nil))))) (oks_cons (ok_no (a := .i kk)) (oks_cons (ok_no (a := .i 1)) (oks_cons (ok_no (a := .i (-1))) (oks_cons (.sl _ _ _ (by simp)) oks_nil)))), row_no rfl rfl, row_no rfl (by exact congrArg (fun l_ => LObj.mk (enc eU8 l_) 5 1) hs_.symm), trivial⟩
 have hf8 := of_decide_eq_false hc4
 have hj9 : j = (pthR rr kk).length := by omega
 refine awp_exit ?_
 refine seqR ?_
 refine mG (.pt 1 0) ?_
 refine mG (.sl 5 0 ss.length) ?_
 refine mG (.q eI (List.replicate pa.length (1 : Int))) ?_
 refine oG (callG_ false [1, 2, 3, 4, 5] [] (r_StepWOq ss pa pp rr cn kk 1 (-1) (List.replicate (pthR rr kk).length (1 : Int)) 1 _ (List.replicate pa.length (1 : Int)) _ _ om hkr (by rw [List.length_replicate]; omega) om om hq6 (by simp only [stI_len]; omega) (by rw [List.length_replicate]; omega) (by simp only [stI_len]; exact hk3) (by simp only [stI_len, List.length_replicate]; exact hq7) (by rw [hj9, stI_end]; exact ord_1 rfl hk3 hq7) (psC_some om) (by simp only [stI_len])) rfl rfl rfl rfl rfl bd11 (by decide) ⟨giv_map (o := ⟨[.one, .q eSec ss, .q eIL pa, .q ePnt pp, .q eIL rr, .one, .one, .one, .i cn, .one, .rp [.one, .q eSec ss, .q eIL pa, .q ePnt pp, .one, .one, .one, .one, .one, .one], .sl 2 0 1], 65, 1⟩) rfl (om_ (lm_cons (am_no (a := .one)) (lm_cons (am_no (a := .q eSec ss)) (lm_cons (am_no (a := .q eIL pa)) (lm_cons (am_no (a := .q ePnt pp)) (lm_cons (am_no (a := .q eIL rr)) (lm_cons (am_no (a := .one)) (lm_cons (am_no (a := .one)) (lm_cons (am_no (a := .one)) (lm_cons (am_no (a := .i cn)) (lm_cons (am_no (a := .one)) (lm_cons (am_no (a := .rp [.one, .q eSec ss, .q eIL pa, .q ePnt pp, .one, .one, .one, .one, .one, .one])) (lm_cons rfl lm_nil))))))))))))) (oks_cons (ok_no (a := .one)) (oks_cons (ok_no (a := .q eSec ss)) (oks_cons (ok_no (a := .q eIL pa)) (oks_cons (ok_no (a := .q ePnt pp)) (oks_cons (ok_no (a := .q eIL rr)) (oks_cons (ok_no (a := .one)) (oks_cons (ok_no (a := .one)) (oks_cons (ok_no (a := .one)) (oks_cons (ok_no (a := .i cn)) (oks_cons (ok_no (a := .one)) (oks_cons (ok_no (a := .rp [.one, .q eSec ss, .q eIL pa, .q ePnt pp, .one, .one, .one, .one, .one, .one])) (oks_cons (.sl _ _ _ (by simp)) oks_nil)))))))))))), giv_map (o := ⟨[.pt 3 0], 69, 1⟩) rfl (om_ (lm_cons rfl lm_nil)) (oks_cons (.pt _ _ (by simp)) oks_nil), giv_map (o := ⟨[.i kk, .i 1, .i (-1), .sl 4 0 ((List.replicate (pthR rr kk).length (1 : Int)).length)], 47, 1⟩) rfl (om_ (lm_cons (am_no (a := .i kk)) (lm_cons (am_no (a := .i 1)) (lm_cons (am_no (a := .i (-1))) (lm_cons rfl lm_nil))))) (oks_cons (ok_no (a := .i kk)) (oks_cons (ok_no (a := .i 1)) (oks_cons (ok_no (a := .i (-1))) (oks_cons (.sl _ _ _ (by simp)) oks_nil)))), giv_no (o := ⟨(enc eU8 (List.replicate (pthR rr kk).length (1 : Int))), 5, 1⟩) rfl rfl, giv_no (o := ⟨(enc eU8 (stI (pthR rr kk) ss.length j)), 5, 1⟩) rfl rfl, trivial⟩ ⟨(arg_own (.pt _ _ (by simp)) rfl), (arg_no (a := .i 1)), (arg_own (.sl _ _ _ (by simp)) rfl), (arg_no (a := .q eI (List.replicate pa.length (1 : Int)))), trivial⟩ rfl trivial (fun h => by cases h) (am_no (a := .tup [])) (place_cons (ost_map (lm_cons (am_no (a := .one)) (lm_cons (am_no (a := .q eSec ss)) (lm_cons (am_no (a := .q eIL pa)) (lm_cons (am_no (a := .q ePnt pp)) (lm_cons (am_no (a := .q eIL rr)) (lm_cons (am_no (a := .one)) (lm_cons (am_no (a := .one)) (lm_cons (am_no (a := .one)) (lm_cons (am_no (a := .i cn)) (lm_cons (am_no (a := .one)) (lm_cons (am_no (a := .rp [.one, .q eSec ss, .q eIL pa, .q ePnt pp, .one, .one, .one, .one, .one, .one])) (lm_cons rfl lm_nil))))))))))))) (place_cons (ost_map (lm_cons rfl lm_nil)) (place_cons (ost_map (lm_cons (am_no (a := .i kk)) (lm_cons (am_no (a := .i 1)) (lm_cons (am_no (a := .i (-1))) (lm_cons rfl lm_nil))))) (place_cons (ost_no (cs := (enc eU8 (psC (pthR rr kk).length 0)))) (place_cons (ost_no (cs := (enc eU8 (stI (pthR rr kk) ss.length j)))) place_nil))))) ?_)
 refine rU (upd (upd (upd (upd (upd Z75 8 (.i kk)) 9 (.pt 1 0)) 13 (.q eI (List.replicate pa.length (1 : Int)))) 15 (.q eI (pthR rr kk))) 16 (.sl 5 0 ss.length)) (updO (updO (updO (updO (updO (updO (updO (updO (updO (updO noOb 1 (.live ⟨[.one, .q eSec ss, .q eIL pa, .q ePnt pp, .q eIL rr, .one, .one, .one, .i cn, .one, .rp [.one, .q eSec ss, .q eIL pa, .q ePnt pp, .one, .one, .one, .one, .one, .one], .sl 2 0 1], 65, 1⟩)) 2 (.live ⟨[.pt 3 0], 69, 1⟩)) 3 (.live ⟨[.i kk, .i 1, .i (-1), .sl 4 0 ((List.replicate (pthR rr kk).length (1 : Int)).length)], 47, 1⟩)) 4 (.live ⟨(enc eU8 (List.replicate (pthR rr kk).length (1 : Int))), 5, 1⟩)) 5 (.live ⟨(enc eU8 (stI (pthR rr kk) ss.length j)), 5, 1⟩)) 1 (.live ⟨[.one, .q eSec ss, .q eIL pa, .q ePnt pp, .q eIL rr, .one, .one, .one, .i cn, .one, .rp [.one, .q eSec ss, .q eIL pa, .q ePnt pp, .one, .one, .one, .one, .one, .one], .sl 2 0 1], 65, 1⟩)) 2 (.live ⟨[.pt 3 0], 69, 1⟩)) 3 (.live ⟨[.i kk, .i 1, .i (-1), .sl 4 0 ((psC (pthR rr kk).length 0).length)], 47, 1⟩)) 4 (.live ⟨(enc eU8 (psC (pthR rr kk).length 0)), 5, 1⟩)) 5 (.live ⟨(enc eU8 (stI (pthR rr kk) ss.length j)), 5, 1⟩)) ?_
 refine awp_seq ?_
 refine seqR ?_
 refine mG (.i 0) ?_
 refine op0 ?_
 refine awp_block ?_
 refine awp_countI (fun i => ⟨(upd (upd (upd (upd (upd (upd Z75 8 (.i kk)) 9 (.pt 1 0)) 13 (.q eI (List.replicate pa.length (1 : Int)))) 15 (.q eI (pthR rr kk))) 16 (.sl 5 0 ss.length)) 18 (.i (i : Int))), (updO (updO (updO (updO (updO noOb 1 (.live ⟨[.one, .q eSec ss, .q eIL pa, .q ePnt pp, .q eIL rr, .one, .one, .one, .i cn, .one, .rp [.one, .q eSec ss, .q eIL pa, .q ePnt pp, .one, .one, .one, .one, .one, .one], .sl 2 0 1], 65, 1⟩)) 2 (.live ⟨[.pt 3 0], 69, 1⟩)) 3 (.live ⟨[.i kk, .i 1, .i (-1), .sl 4 0 ((psC (pthR rr kk).length i).length)], 47, 1⟩)) 4 (.live ⟨(enc eU8 (psC (pthR rr kk).length i)), 5, 1⟩)) 5 (.live ⟨(enc eU8 (stC (pthR rr kk) ss.length i)), 5, 1⟩))⟩) (fun i => True) (((pthR rr kk).length - 1)) ?_ trivial (fun i hk_i hinv => ?_)
 ·skip
  exact iL [(1, 1), (2, 2), (3, 3), (4, 4), (5, 5)] [((1, 1), .live _), ((2, 2), .live _), ((3, 3), .live _), ((4, 4), .live _), ((5, 5), .live _)] ⟨row_map (o := ⟨[.one, .q eSec ss, .q eIL pa, .q ePnt pp, .q eIL rr, .one, .one, .one, .i cn, .one, .rp [.one, .q eSec ss, .q eIL pa, .q ePnt pp, .one, .one, .one, .one, .one, .one], .sl 2 0 1], 65, 1⟩) rfl (om_ (lm_cons (am_no (a := .one)) (lm_cons (am_no (a := .q eSec ss)) (lm_cons (am_no (a := .q eIL pa)) (lm_cons (am_no (a := .q ePnt pp)) (lm_cons (am_no (a := .q eIL rr)) (lm_cons (am_no (a := .one)) (lm_cons (am_no (a := .one)) (lm_cons (am_no (a := .one)) (lm_cons (am_no (a := .i cn)) (lm_cons (am_no (a := .one)) (lm_cons (am_no (a := .rp [.one, .q eSec ss, .q eIL pa, .q ePnt pp, .one, .one, .one, .one, .one, .one])) (lm_cons rfl lm_nil))))))))))))) (oks_cons (ok_no (a := .one)) (oks_cons (ok_no (a := .q eSec ss)) (oks_cons (ok_no (a := .q eIL pa)) (oks_cons (ok_no (a := .q ePnt pp)) (oks_cons (ok_no (a := .q eIL rr)) (oks_cons (ok_no (a := .one)) (oks_cons (ok_no (a := .one)) (oks_cons (ok_no (a := .one)) (oks_cons (ok_no (a := .i cn)) (oks_cons (ok_no (a := .one)) (oks_cons (ok_no (a := .rp [.one, .q eSec ss, .q eIL pa, .q ePnt pp, .one, .one, .one, .one, .one, .one])) (oks_cons (.sl _ _ _ (by simp)) oks_nil)))))))))))), row_map (o := ⟨[.pt 3 0], 69, 1⟩) rfl (om_ (lm_cons rfl lm_nil)) (oks_cons (.pt _ _ (by simp)) oks_nil), row_map (o := ⟨[.i kk, .i 1, .i (-1), .sl 4 0 ((psC (pthR rr kk).length 0).length)], 47, 1⟩) rfl (om_ (lm_cons (am_no (a := .i kk)) (lm_cons (am_no (a := .i 1)) (lm_cons (am_no (a := .i (-1))) (lm_cons rfl lm_nil))))) (oks_cons (ok_no (a := .i kk)) (oks_cons (ok_no (a := .i 1)) (oks_cons (ok_no (a := .i (-1))) (oks_cons (.sl _ _ _ (by simp)) oks_nil)))), row_no rfl rfl, row_no rfl (by exact congrArg (fun l_ => LObj.mk (enc eU8 l_) 5 1) (by rw [hj9, stI_end])), trivial⟩
 have hscl := stC_len (p := (pthR rr kk)) (n := ss.length) (i := i)
 have hsi := hk3 _ (getD_mem (l := (pthR rr kk)) (k := i) 0 om)
 have hpsl := psC_len (m := (pthR rr kk).length) (i := i) om
 have hpsl1 := psC_len (m := (pthR rr kk).length) (i := i + 1) om
 have hstp := stC_step (n := ss.length) (i := i) hnp om hsi.1
 have hlkp : ∀ x, x ∈ ([⟨kk, 1, -1, (psC (pthR rr kk).length (i + 1))⟩] : List Lk) → LkP rr x := fun x h => by rw [List.mem_singleton.1 h]; exact ⟨hkr, by show (psC (pthR rr kk).length (i + 1)).length + 1 = (rr.getD kk.toNat []).length; omega, by show (rr.getD kk.toNat []).length ≤ 65536; omega⟩
 refine awp_seq ?_
 refine seqR ?_
 refine mG (.i (i : Int)) ?_
 refine mG (.q eI (pthR rr kk)) ?_
 refine oG (qN ut42 ?_)
 refine bG ((.bool (decide ((i : Int) < ((pthR rr kk).length : Int))))) ?_
 refine rU (upd (upd (upd (upd (upd (upd (upd Z75 8 (.i kk)) 9 (.pt 1 0)) 13 (.q eI (List.replicate pa.length (1 : Int)))) 15 (.q eI (pthR rr kk))) 16 (.sl 5 0 ss.length)) 18 (.i (i : Int))) 97 (.b (decide ((i : Int) < ((pthR rr kk).length : Int))))) (updO (updO (updO (updO (updO noOb 1 (.live ⟨[.one, .q eSec ss, .q eIL pa, .q ePnt pp, .q eIL rr, .one, .one, .one, .i cn, .one, .rp [.one, .q eSec ss, .q eIL pa, .q ePnt pp, .one, .one, .one, .one, .one, .one], .sl 2 0 1], 65, 1⟩)) 2 (.live ⟨[.pt 3 0], 69, 1⟩)) 3 (.live ⟨[.i kk, .i 1, .i (-1), .sl 4 0 ((psC (pthR rr kk).length i).length)], 47, 1⟩)) 4 (.live ⟨(enc eU8 (psC (pthR rr kk).length i)), 5, 1⟩)) 5 (.live ⟨(enc eU8 (stC (pthR rr kk) ss.length i)), 5, 1⟩)) ?_
 refine awp_cond (decide ((i : Int) < ((pthR rr kk).length : Int))) rfl rfl (fun hc5 => ?_) (fun hc5 => ?_)
 ·skip
  have hf9 := of_decide_eq_true hc5
  refine awp_skip ?_
  refine awp_seq ?_
  refine awp_block ?_
  refine seqR ?_
  refine mG (.sl 5 0 ss.length) ?_
  refine mG (.q eI (pthR rr kk)) ?_
  refine mG (.i (i : Int)) ?_
  refine oG (qX (0 : Int) ut42 sz3 ?_)
  refine oG (qL (.i ((pthR rr kk).getD i 0)) ag3 ?_)
  refine oG (aop_ixOI rfl rfl rfl ut37 sz5 rfl rfl om oo ?_)
  refine oG (aop_storeE (f := eU8) (l := stC (pthR rr kk) ss.length i) (l' := (stC (pthR rr kk) ss.length i).set (((pthR rr kk).getD i 0).toNat) (0 : Int)) (0 : Int) rfl rfl rfl sz5 rfl rfl rfl rfl rfl (fun _ => rfl) oo rfl rfl ?_)
  refine rU (upd (upd (upd (upd (upd (upd Z75 8 (.i kk)) 9 (.pt 1 0)) 13 (.q eI (List.replicate pa.length (1 : Int)))) 15 (.q eI (pthR rr kk))) 16 (.sl 5 0 ss.length)) 18 (.i (i : Int))) (updO (updO (updO (updO (updO (updO noOb 1 (.live ⟨[.one, .q eSec ss, .q eIL pa, .q ePnt pp, .q eIL rr, .one, .one, .one, .i cn, .one, .rp [.one, .q eSec ss, .q eIL pa, .q ePnt pp, .one, .one, .one, .one, .one, .one], .sl 2 0 1], 65, 1⟩)) 2 (.live ⟨[.pt 3 0], 69, 1⟩)) 3 (.live ⟨[.i kk, .i 1, .i (-1), .sl 4 0 ((psC (pthR rr kk).length i).length)], 47, 1⟩)) 4 (.live ⟨(enc eU8 (psC (pthR rr kk).length i)), 5, 1⟩)) 5 (.live ⟨(enc eU8 (stC (pthR rr kk) ss.length i)), 5, 1⟩)) 5 (.live ⟨(enc eU8 ((stC (pthR rr kk) ss.length i).set (((pthR rr kk).getD i 0).toNat) (0 : Int))), 5, 1⟩)) ?_
  refine (Nat.lt_or_ge (i + 1) (pthR rr kk).length).elim (fun hlast => ?_) (fun hlast => ?_)
  ·skip
   refine seqR ?_
   refine mG (.pt 1 0) ?_
   refine mG (.i (i : Int)) ?_
   refine oG (qB (.int .i64 (2 + (i : Int))) (addI om) ?_)
   refine mG (.sl 5 0 ss.length) ?_
   refine mG (.q eI (List.replicate pa.length (1 : Int))) ?_
   refine oG (callG_ false [1, 2, 3, 4, 5] [] (r_StepWOq ss pa pp rr cn kk 1 (-1) (psC (pthR rr kk).length i) (2 + (i : Int)) _ (List.replicate pa.length (1 : Int)) _ _ om hkr (by rw [psC_len om]; omega) om om hq6 (by simp only [List.length_set, stC_len]; omega) (by rw [List.length_replicate]; omega) (by simp only [List.length_set, stC_len]; exact hk3) (by simp only [List.length_set, stC_len, List.length_replicate]; exact hq7) (by rw [hstp]; exact ord_i hnp rfl hk3 om) (psC_some om) (by simp only [List.length_set, stC_len])) rfl rfl rfl rfl rfl bd11 (by decide) ⟨giv_map (o := ⟨[.one, .q eSec ss, .q eIL pa, .q ePnt pp, .q eIL rr, .one, .one, .one, .i cn, .one, .rp [.one, .q eSec ss, .q eIL pa, .q ePnt pp, .one, .one, .one, .one, .one, .one], .sl 2 0 1], 65, 1⟩) rfl (om_ (lm_cons (am_no (a := .one)) (lm_cons (am_no (a := .q eSec ss)) (lm_cons (am_no (a := .q eIL pa)) (lm_cons (am_no (a := .q ePnt pp)) (lm_cons (am_no (a := .q eIL rr)) (lm_cons (am_no (a := .one)) (lm_cons (am_no (a := .one)) (lm_cons (am_no (a := .one)) (lm_cons (am_no (a := .i cn)) (lm_cons (am_no (a := .one)) (lm_cons (am_no (a := .rp [.one, .q eSec ss, .q eIL pa, .q ePnt pp, .one, .one, .one, .one, .one, .one])) (lm_cons rfl lm_nil))))))))))))) (oks_cons (ok_no (a := .one)) (oks_cons (ok_no (a := .q eSec ss)) (oks_cons (ok_no (a := .q eIL pa)) (oks_cons (ok_no (a := .q ePnt pp)) (oks_cons (ok_no (a := .q eIL rr)) (oks_cons (ok_no (a := .one)) (oks_cons (ok_no (a := .one)) (oks_cons (ok_no (a := .one)) (oks_cons (ok_no (a := .i cn)) (oks_cons (ok_no (a := .one)) (oks_cons (ok_no (a := .rp [.one, .q eSec ss, .q eIL pa, .q ePnt pp, .one, .one, .one, .one, .one, .one])) (oks_cons (.sl _ _ _ (by simp)) oks_nil)))))))))))), giv_map (o := ⟨[.pt 3 0], 69, 1⟩) rfl (om_ (lm_cons rfl lm_nil)) (oks_cons (.pt _ _ (by simp)) oks_nil), giv_map (o := ⟨[.i kk, .i 1, .i (-1), .sl 4 0 ((psC (pthR rr kk).length i).length)], 47, 1⟩) rfl (om_ (lm_cons (am_no (a := .i kk)) (lm_cons (am_no (a := .i 1)) (lm_cons (am_no (a := .i (-1))) (lm_cons rfl lm_nil))))) (oks_cons (ok_no (a := .i kk)) (oks_cons (ok_no (a := .i 1)) (oks_cons (ok_no (a := .i (-1))) (oks_cons (.sl _ _ _ (by simp)) oks_nil)))), giv_no (o := ⟨(enc eU8 (psC (pthR rr kk).length i)), 5, 1⟩) rfl rfl, giv_no (o := ⟨(enc eU8 ((stC (pthR rr kk) ss.length i).set (((pthR rr kk).getD i 0).toNat) (0 : Int))), 5, 1⟩) rfl rfl, trivial⟩ ⟨(arg_own (.pt _ _ (by simp)) rfl), (arg_no (a := .i (2 + (i : Int)))), (arg_own (.sl _ _ _ (by simp)) rfl), (arg_no (a := .q eI (List.replicate pa.length (1 : Int)))), trivial⟩ rfl trivial (fun h => by cases h) (am_no (a := .tup [])) (place_cons (ost_map (lm_cons (am_no (a := .one)) (lm_cons (am_no (a := .q eSec ss)) (lm_cons (am_no (a := .q eIL pa)) (lm_cons (am_no (a := .q ePnt pp)) (lm_cons (am_no (a := .q eIL rr)) (lm_cons (am_no (a := .one)) (lm_cons (am_no (a := .one)) (lm_cons (am_no (a := .one)) (lm_cons (am_no (a := .i cn)) (lm_cons (am_no (a := .one)) (lm_cons (am_no (a := .rp [.one, .q eSec ss, .q eIL pa, .q ePnt pp, .one, .one, .one, .one, .one, .one])) (lm_cons rfl lm_nil))))))))))))) (place_cons (ost_map (lm_cons rfl lm_nil)) (place_cons (ost_map (lm_cons (am_no (a := .i kk)) (lm_cons (am_no (a := .i 1)) (lm_cons (am_no (a := .i (-1))) (lm_cons rfl lm_nil))))) (place_cons (ost_no (cs := (enc eU8 (psC (pthR rr kk).length (i + 1))))) (place_cons (ost_no (cs := (enc eU8 ((stC (pthR rr kk) ss.length i).set (((pthR rr kk).getD i 0).toNat) (0 : Int))))) place_nil))))) ?_)
   refine rU (upd (upd (upd (upd (upd (upd Z75 8 (.i kk)) 9 (.pt 1 0)) 13 (.q eI (List.replicate pa.length (1 : Int)))) 15 (.q eI (pthR rr kk))) 16 (.sl 5 0 ss.length)) 18 (.i (i : Int))) (updO (updO (updO (updO (updO (updO (updO (updO (updO (updO (updO noOb 1 (.live ⟨[.one, .q eSec ss, .q eIL pa, .q ePnt pp, .q eIL rr, .one, .one, .one, .i cn, .one, .rp [.one, .q eSec ss, .q eIL pa, .q ePnt pp, .one, .one, .one, .one, .one, .one], .sl 2 0 1], 65, 1⟩)) 2 (.live ⟨[.pt 3 0], 69, 1⟩)) 3 (.live ⟨[.i kk, .i 1, .i (-1), .sl 4 0 ((psC (pthR rr kk).length i).length)], 47, 1⟩)) 4 (.live ⟨(enc eU8 (psC (pthR rr kk).length i)), 5, 1⟩)) 5 (.live ⟨(enc eU8 (stC (pthR rr kk) ss.length i)), 5, 1⟩)) 5 (.live ⟨(enc eU8 ((stC (pthR rr kk) ss.length i).set (((pthR rr kk).getD i 0).toNat) (0 : Int))), 5, 1⟩)) 1 (.live ⟨[.one, .q eSec ss, .q eIL pa, .q ePnt pp, .q eIL rr, .one, .one, .one, .i cn, .one, .rp [.one, .q eSec ss, .q eIL pa, .q ePnt pp, .one, .one, .one, .one, .one, .one], .sl 2 0 1], 65, 1⟩)) 2 (.live ⟨[.pt 3 0], 69, 1⟩)) 3 (.live ⟨[.i kk, .i 1, .i (-1), .sl 4 0 ((psC (pthR rr kk).length (i + 1)).length)], 47, 1⟩)) 4 (.live ⟨(enc eU8 (psC (pthR rr kk).length (i + 1))), 5, 1⟩)) 5 (.live ⟨(enc eU8 ((stC (pthR rr kk) ss.length i).set (((pthR rr kk).getD i 0).toNat) (0 : Int))), 5, 1⟩)) ?_
   refine seqR ?_
   refine mG (.pt 1 0) ?_
   refine oG (callG_ true [] [60, 61] (r_LocksO kk 1 (-1) (psC (pthR rr kk).length (i + 1)) om) rfl rfl rfl rfl rfl bd12 (by decide) trivial ⟨(arg_lent (lend_pt rfl (lends_cons (lend_n (av := .one)) (lends_cons (.one _ rfl) (lends_cons (.one _ rfl) (lends_cons (.one _ rfl) (lends_cons (.one _ rfl) (lends_cons (lend_n (av := .one)) (lends_cons (lend_n (av := .one)) (lends_cons (lend_n (av := .one)) (lends_cons (.one _ rfl) (lends_cons (lend_n (av := .one)) (lends_cons (.one _ rfl) (lends_cons (lend_rowX (o := ⟨[.pt 3 0], 69, 1⟩) rfl (lends_cons (lend_pt rfl (lends_cons (lend_n (av := .i kk)) (lends_cons (lend_n (av := .i 1)) (lends_cons (lend_n (av := .i (-1))) (lends_cons (lend_s (id := 4) (n := (psC (pthR rr kk).length (i + 1)).length) (o := ⟨(enc eU8 (psC (pthR rr kk).length (i + 1))), 5, 1⟩) rfl (enc_len (fun _ => rfl) (by first | rfl | (simp; done)))) lends_nil))))) lends_nil) rfl) lends_nil)))))))))))))), trivial⟩ rfl ⟨rfl, rfl, trivial⟩ (fun _ => ⟨.sl _ _ _ trivial, ⟨(by intro c hc; simp at hc; rcases hc with rfl | rfl | rfl | rfl <;> constructor <;> trivial), ⟨(fun c hc => ((inferInstance : FlatL (enc eU8 (psC (pthR rr kk).length (i + 1)))).out c hc).mono (fun _ h => h.elim) id), trivial⟩⟩⟩) rfl (place_cons (ost_map (lm_cons (am_no (a := .i kk)) (lm_cons (am_no (a := .i 1)) (lm_cons (am_no (a := .i (-1))) (lm_cons rfl lm_nil))))) (place_cons (ost_no (cs := (enc eU8 (psC (pthR rr kk).length (i + 1))))) place_nil)) ?_)
   refine mG (.sl 60 0 1) ?_
   refine op0 ?_
   refine awp_seq ?_
   refine seqR ?_
   refine mG (.i (i : Int)) ?_
   refine mG (.q eI (pthR rr kk)) ?_
   refine oG (qN ut42 ?_)
   refine oG (qB (.int .i64 (((pthR rr kk).length : Int) - 1)) (subI om) ?_)
   refine bG ((.bool ((i : Int) == (((pthR rr kk).length : Int) - 1)))) ?_
   refine rU (upd (upd (upd (upd (upd (upd (upd (upd Z75 8 (.i kk)) 9 (.pt 1 0)) 13 (.q eI (List.replicate pa.length (1 : Int)))) 15 (.q eI (pthR rr kk))) 16 (.sl 5 0 ss.length)) 18 (.i (i : Int))) 19 (.sl 60 0 1)) 118 (.b ((i : Int) == (((pthR rr kk).length : Int) - 1)))) (updO (updO (updO (updO (updO (updO (updO (updO (updO (updO (updO (updO (updO noOb 1 (.live ⟨[.one, .q eSec ss, .q eIL pa, .q ePnt pp, .q eIL rr, .one, .one, .one, .i cn, .one, .rp [.one, .q eSec ss, .q eIL pa, .q ePnt pp, .one, .one, .one, .one, .one, .one], .sl 2 0 1], 65, 1⟩)) 2 (.live ⟨[.pt 3 0], 69, 1⟩)) 3 (.live ⟨[.i kk, .i 1, .i (-1), .sl 4 0 ((psC (pthR rr kk).length i).length)], 47, 1⟩)) 4 (.live ⟨(enc eU8 (psC (pthR rr kk).length i)), 5, 1⟩)) 5 (.live ⟨(enc eU8 (stC (pthR rr kk) ss.length i)), 5, 1⟩)) 5 (.live ⟨(enc eU8 ((stC (pthR rr kk) ss.length i).set (((pthR rr kk).getD i 0).toNat) (0 : Int))), 5, 1⟩)) 1 (.live ⟨[.one, .q eSec ss, .q eIL pa, .q ePnt pp, .q eIL rr, .one, .one, .one, .i cn, .one, .rp [.one, .q eSec ss, .q eIL pa, .q ePnt pp, .one, .one, .one, .one, .one, .one], .sl 2 0 1], 65, 1⟩)) 2 (.live ⟨[.pt 3 0], 69, 1⟩)) 3 (.live ⟨[.i kk, .i 1, .i (-1), .sl 4 0 ((psC (pthR rr kk).length (i + 1)).length)], 47, 1⟩)) 4 (.live ⟨(enc eU8 (psC (pthR rr kk).length (i + 1))), 5, 1⟩)) 5 (.live ⟨(enc eU8 ((stC (pthR rr kk) ss.length i).set (((pthR rr kk).getD i 0).toNat) (0 : Int))), 5, 1⟩)) 60 (.live ⟨[.i kk, .i 1, .i (-1), .sl 61 0 ((psC (pthR rr kk).length (i + 1)).length)], 47, 4⟩)) 61 (.live ⟨(enc eU8 (psC (pthR rr kk).length (i + 1))), 5, 1⟩)) ?_
   refine awp_cond ((i : Int) == (((pthR rr kk).length : Int) - 1)) rfl rfl (fun hc6 => ?_) (fun hc6 => ?_)
   ·skip
    have hf10 := (beq_iff_eq).1 hc6
    exfalso; omega
   have hf11 := (beq_eq_false_iff_ne).1 hc6
   refine awp_skip ?_
   refine seqR ?_
   refine mG (.sl 60 0 1) ?_
   refine oG (aop_len rfl rfl rfl rfl ut44 (len_sl rfl) ?_)
   refine bG ((.bool ((1 : Int) != 1))) ?_
   refine mG (.b ((1 : Int) != 1)) ?_
   refine aops_grp 9 134 (.b (((1 : Int) != 1) || (((psC (pthR rr kk).length (i + 1)).getD i 0) != 0))) ?_ ?_
   ·refine (Bool.eq_false_or_eq_true ((1 : Int) != 1)).elim (fun hg12 => ?_) (fun hg12 => ?_)
    ·skip
     have hf13 := (bne_iff_ne).1 hg12
     refine nG hg12 ?_
     refine nG hg12 ?_
     refine nG hg12 ?_
     refine nG hg12 ?_
     refine nG hg12 ?_
     refine nG hg12 ?_
     refine nG hg12 ?_
     refine nG hg12 ?_
     refine oG (qP ((1 : Int) != 1) (.b true) hg12 ?_)
     refine op0 ?_
     exact imp_env (lee_both 134 _ _ (by rw [hg12] <;> rfl) lO)
    have hf14 := (bne_eq_false_iff_eq).1 hg12
    refine oY hg12 (qM (.sl 60 0 1) ?_)
    refine oY hg12 (aop_ixO (k := 0) rfl rfl rfl ut44 sz47 rfl rfl oo ?_)
    refine oY hg12 (qF (.pt 60 0) (.pt 60 3) ft47_3 sz37 ?_)
    refine oY hg12 (qL (.sl 61 0 ((psC (pthR rr kk).length (i + 1)).length)) ag37 ?_)
    refine oY hg12 (qM (.i (i : Int)) ?_)
    refine oY hg12 (aop_ixO (k := i) rfl rfl rfl ut37 sz5 rfl rfl oo ?_)
    refine oY hg12 (aop_ldO (f := eU8) (l := psC (pthR rr kk).length (i + 1)) 0 rfl rfl rfl ag5 rfl rfl rfl (fun _ => rfl) oo rfl ?_)
    refine oY hg12 (qB (.bool (((psC (pthR rr kk).length (i + 1)).getD i 0) != 0)) rfl ?_)
    refine oG (qP ((1 : Int) != 1) (.b (((psC (pthR rr kk).length (i + 1)).getD i 0) != 0)) hg12 ?_)
    refine op0 ?_
    exact imp_env (lee_both 134 _ _ (by rw [hg12] <;> rfl) lO)
   refine mG (.b (((1 : Int) != 1) || (((psC (pthR rr kk).length (i + 1)).getD i 0) != 0))) ?_
   refine aops_grp 10 145 (.b ((((1 : Int) != 1) || (((psC (pthR rr kk).length (i + 1)).getD i 0) != 0)) || (((psC (pthR rr kk).length (i + 1)).getD (i + 1) 0) != 2))) ?_ ?_
   ·refine (Bool.eq_false_or_eq_true (((1 : Int) != 1) || (((psC (pthR rr kk).length (i + 1)).getD i 0) != 0))).elim (fun hg15 => ?_) (fun hg15 => ?_)
    ·skip
     refine nG hg15 ?_
     refine nG hg15 ?_
     refine nG hg15 ?_
     refine nG hg15 ?_
     refine nG hg15 ?_
     refine nG hg15 ?_
     refine nG hg15 ?_
     refine nG hg15 ?_
     refine nG hg15 ?_
     refine oG (qP (((1 : Int) != 1) || (((psC (pthR rr kk).length (i + 1)).getD i 0) != 0)) (.b true) hg15 ?_)
     refine op0 ?_
     exact imp_env (lee_both 145 _ _ (by rw [hg15] <;> rfl) lO)
    obtain ⟨hf16a, hf16b⟩ := or_f hg15
    have hf17 := (bne_eq_false_iff_eq).1 hf16a
    have hf18 := (bne_eq_false_iff_eq).1 hf16b
    refine oY hg15 (qM (.sl 60 0 1) ?_)
    refine oY hg15 (aop_ixO (k := 0) rfl rfl rfl ut44 sz47 rfl rfl oo ?_)
    refine oY hg15 (qF (.pt 60 0) (.pt 60 3) ft47_3 sz37 ?_)
    refine oY hg15 (qL (.sl 61 0 ((psC (pthR rr kk).length (i + 1)).length)) ag37 ?_)
    refine oY hg15 (qM (.i (i : Int)) ?_)
    refine oY hg15 (qB (.int .i64 ((i + 1 : Nat) : Int)) (addN om) ?_)
    refine oY hg15 (aop_ixO (k := i + 1) rfl rfl rfl ut37 sz5 rfl rfl oo ?_)
    refine oY hg15 (aop_ldO (f := eU8) (l := psC (pthR rr kk).length (i + 1)) 0 rfl rfl rfl ag5 rfl rfl rfl (fun _ => rfl) oo rfl ?_)
    refine oY hg15 (qB (.bool (((psC (pthR rr kk).length (i + 1)).getD (i + 1) 0) != 2)) rfl ?_)
    refine oG (qP (((1 : Int) != 1) || (((psC (pthR rr kk).length (i + 1)).getD i 0) != 0)) (.b (((psC (pthR rr kk).length (i + 1)).getD (i + 1) 0) != 2)) hg15 ?_)
    refine op0 ?_
    exact imp_env (lee_both 145 _ _ (by rw [hg15] <;> rfl) lO)
   refine mG (.b ((((1 : Int) != 1) || (((psC (pthR rr kk).length (i + 1)).getD i 0) != 0)) || (((psC (pthR rr kk).length (i + 1)).getD (i + 1) 0) != 2))) ?_
   refine aops_grp 8 154 (.b (((((1 : Int) != 1) || (((psC (pthR rr kk).length (i + 1)).getD i 0) != 0)) || (((psC (pthR rr kk).length (i + 1)).getD (i + 1) 0) != 2)) || ((if (psC (pthR rr kk).length (i + 1)).getD i 0 ≠ 0 then kk else -1) != (-1)))) ?_ ?_
   ·refine (Bool.eq_false_or_eq_true ((((1 : Int) != 1) || (((psC (pthR rr kk).length (i + 1)).getD i 0) != 0)) || (((psC (pthR rr kk).length (i + 1)).getD (i + 1) 0) != 2))).elim (fun hg19 => ?_) (fun hg19 => ?_)
    ·skip
     refine nG hg19 ?_
     refine nG hg19 ?_
     refine nG hg19 ?_
     refine nG hg19 ?_
     refine nG hg19 ?_
     refine nG hg19 ?_
     refine nG hg19 ?_
     refine oG (qP ((((1 : Int) != 1) || (((psC (pthR rr kk).length (i + 1)).getD i 0) != 0)) || (((psC (pthR rr kk).length (i + 1)).getD (i + 1) 0) != 2)) (.b true) hg19 ?_)
     refine op0 ?_
     exact imp_env (lee_both 154 _ _ (by rw [hg19] <;> rfl) lO)
    obtain ⟨hf20a, hf20b⟩ := or_f hg19
    obtain ⟨hf21a, hf21b⟩ := or_f hf20a
    have hf22 := (bne_eq_false_iff_eq).1 hf21a
    have hf23 := (bne_eq_false_iff_eq).1 hf21b
    have hf24 := (bne_eq_false_iff_eq).1 hf20b
    refine oY hg19 (qM (.pt 1 0) ?_)
    refine oY hg19 (qM (.q eI (pthR rr kk)) ?_)
    refine oY hg19 (qM (.i (i : Int)) ?_)
    refine oY hg19 (qX (0 : Int) ut42 sz3 ?_)
    refine oY hg19 (qL (.i ((pthR rr kk).getD i 0)) ag3 ?_)
    refine oY hg19 (callL_ (show Fn Try.prog 13 [.rp [.one, .one, .one, .one, .q eIL rr, .one, .one, .one, .one, .one, .one, .q eLp ([⟨kk, 1, -1, (psC (pthR rr kk).length (i + 1))⟩] : List Lk)], .i ((pthR rr kk).getD i 0)] (.i (if (psC (pthR rr kk).length (i + 1)).getD i 0 ≠ 0 then kk else -1)) from (by have h_ := r_Whose rr [⟨kk, 1, -1, (psC (pthR rr kk).length (i + 1))⟩] ((pthR rr kk).getD i 0) om (by simp) hlkp; rw [who_one hnp om] at h_; exact h_)) rfl rfl rfl rfl rfl bd13 (lends_cons (lend_pt rfl (lends_cons (lend_n (av := .one)) (lends_cons (.one _ rfl) (lends_cons (.one _ rfl) (lends_cons (.one _ rfl) (lends_cons (lend_n (av := .q eIL rr)) (lends_cons (lend_n (av := .one)) (lends_cons (lend_n (av := .one)) (lends_cons (lend_n (av := .one)) (lends_cons (.one _ rfl) (lends_cons (lend_n (av := .one)) (lends_cons (.one _ rfl) (lends_cons (lend_rowX (o := ⟨[.pt 3 0], 69, 1⟩) rfl (lends_cons (lend_pt rfl (lends_cons (lend_n (av := .i kk)) (lends_cons (lend_n (av := .i 1)) (lends_cons (lend_n (av := .i (-1))) (lends_cons (lend_s (id := 4) (n := (psC (pthR rr kk).length (i + 1)).length) (o := ⟨(enc eU8 (psC (pthR rr kk).length (i + 1))), 5, 1⟩) rfl (enc_len (fun _ => rfl) (by first | rfl | (simp; done)))) lends_nil))))) lends_nil) rfl) lends_nil))))))))))))) lS) ?_)
    refine oY hg19 (qB (.bool ((if (psC (pthR rr kk).length (i + 1)).getD i 0 ≠ 0 then kk else -1) != (-1))) rfl ?_)
    refine oG (qP ((((1 : Int) != 1) || (((psC (pthR rr kk).length (i + 1)).getD i 0) != 0)) || (((psC (pthR rr kk).length (i + 1)).getD (i + 1) 0) != 2)) (.b ((if (psC (pthR rr kk).length (i + 1)).getD i 0 ≠ 0 then kk else -1) != (-1))) hg19 ?_)
    refine op0 ?_
    exact imp_env (lee_both 154 _ _ (by rw [hg19] <;> rfl) lO)
   refine mG (.b (((((1 : Int) != 1) || (((psC (pthR rr kk).length (i + 1)).getD i 0) != 0)) || (((psC (pthR rr kk).length (i + 1)).getD (i + 1) 0) != 2)) || ((if (psC (pthR rr kk).length (i + 1)).getD i 0 ≠ 0 then kk else -1) != (-1)))) ?_
   refine aops_grp 10 165 (.b ((((((1 : Int) != 1) || (((psC (pthR rr kk).length (i + 1)).getD i 0) != 0)) || (((psC (pthR rr kk).length (i + 1)).getD (i + 1) 0) != 2)) || ((if (psC (pthR rr kk).length (i + 1)).getD i 0 ≠ 0 then kk else -1) != (-1))) || ((if (psC (pthR rr kk).length (i + 1)).getD (i + 1) 0 ≠ 0 then kk else -1) != kk))) ?_ ?_
   ·refine (Bool.eq_false_or_eq_true (((((1 : Int) != 1) || (((psC (pthR rr kk).length (i + 1)).getD i 0) != 0)) || (((psC (pthR rr kk).length (i + 1)).getD (i + 1) 0) != 2)) || ((if (psC (pthR rr kk).length (i + 1)).getD i 0 ≠ 0 then kk else -1) != (-1)))).elim (fun hg25 => ?_) (fun hg25 => ?_)
    ·skip
     refine nG hg25 ?_
     refine nG hg25 ?_
     refine nG hg25 ?_
     refine nG hg25 ?_
     refine nG hg25 ?_
     refine nG hg25 ?_
     refine nG hg25 ?_
     refine nG hg25 ?_
     refine nG hg25 ?_
     refine oG (qP (((((1 : Int) != 1) || (((psC (pthR rr kk).length (i + 1)).getD i 0) != 0)) || (((psC (pthR rr kk).length (i + 1)).getD (i + 1) 0) != 2)) || ((if (psC (pthR rr kk).length (i + 1)).getD i 0 ≠ 0 then kk else -1) != (-1))) (.b true) hg25 ?_)
     refine op0 ?_
     exact imp_env (lee_both 165 _ _ (by rw [hg25] <;> rfl) lO)
    obtain ⟨hf26a, hf26b⟩ := or_f hg25
    obtain ⟨hf27a, hf27b⟩ := or_f hf26a
    obtain ⟨hf28a, hf28b⟩ := or_f hf27a
    have hf29 := (bne_eq_false_iff_eq).1 hf28a
    have hf30 := (bne_eq_false_iff_eq).1 hf28b
    have hf31 := (bne_eq_false_iff_eq).1 hf27b
    have hf32 := (bne_eq_false_iff_eq).1 hf26b
    refine oY hg25 (qM (.pt 1 0) ?_)
    refine oY hg25 (qM (.q eI (pthR rr kk)) ?_)
    refine oY hg25 (qM (.i (i : Int)) ?_)
    refine oY hg25 (qB (.int .i64 ((i + 1 : Nat) : Int)) (addN om) ?_)
    refine oY hg25 (qX (0 : Int) ut42 sz3 ?_)
    refine oY hg25 (qL (.i ((pthR rr kk).getD (i + 1) 0)) ag3 ?_)
    refine oY hg25 (callL_ (show Fn Try.prog 13 [.rp [.one, .one, .one, .one, .q eIL rr, .one, .one, .one, .one, .one, .one, .q eLp ([⟨kk, 1, -1, (psC (pthR rr kk).length (i + 1))⟩] : List Lk)], .i ((pthR rr kk).getD (i + 1) 0)] (.i (if (psC (pthR rr kk).length (i + 1)).getD (i + 1) 0 ≠ 0 then kk else -1)) from (by have h_ := r_Whose rr [⟨kk, 1, -1, (psC (pthR rr kk).length (i + 1))⟩] ((pthR rr kk).getD (i + 1) 0) om (by simp) hlkp; rw [who_one hnp om] at h_; exact h_)) rfl rfl rfl rfl rfl bd13 (lends_cons (lend_pt rfl (lends_cons (lend_n (av := .one)) (lends_cons (.one _ rfl) (lends_cons (.one _ rfl) (lends_cons (.one _ rfl) (lends_cons (lend_n (av := .q eIL rr)) (lends_cons (lend_n (av := .one)) (lends_cons (lend_n (av := .one)) (lends_cons (lend_n (av := .one)) (lends_cons (.one _ rfl) (lends_cons (lend_n (av := .one)) (lends_cons (.one _ rfl) (lends_cons (lend_rowX (o := ⟨[.pt 3 0], 69, 1⟩) rfl (lends_cons (lend_pt rfl (lends_cons (lend_n (av := .i kk)) (lends_cons (lend_n (av := .i 1)) (lends_cons (lend_n (av := .i (-1))) (lends_cons (lend_s (id := 4) (n := (psC (pthR rr kk).length (i + 1)).length) (o := ⟨(enc eU8 (psC (pthR rr kk).length (i + 1))), 5, 1⟩) rfl (enc_len (fun _ => rfl) (by first | rfl | (simp; done)))) lends_nil))))) lends_nil) rfl) lends_nil))))))))))))) lS) ?_)
    refine oY hg25 (qM (.i kk) ?_)
    refine oY hg25 (qB (.bool ((if (psC (pthR rr kk).length (i + 1)).getD (i + 1) 0 ≠ 0 then kk else -1) != kk)) rfl ?_)
    refine oG (qP (((((1 : Int) != 1) || (((psC (pthR rr kk).length (i + 1)).getD i 0) != 0)) || (((psC (pthR rr kk).length (i + 1)).getD (i + 1) 0) != 2)) || ((if (psC (pthR rr kk).length (i + 1)).getD i 0 ≠ 0 then kk else -1) != (-1))) (.b ((if (psC (pthR rr kk).length (i + 1)).getD (i + 1) 0 ≠ 0 then kk else -1) != kk)) hg25 ?_)
    refine op0 ?_
    exact imp_env (lee_both 165 _ _ (by rw [hg25] <;> rfl) lO)
   refine op0 ?_
   refine rT (upd (upd (upd (upd (upd (upd (upd (upd Z75 8 (.i kk)) 9 (.pt 1 0)) 13 (.q eI (List.replicate pa.length (1 : Int)))) 15 (.q eI (pthR rr kk))) 16 (.sl 5 0 ss.length)) 18 (.i (i : Int))) 19 (.sl 60 0 1)) 165 (.b ((((((1 : Int) != 1) || (((psC (pthR rr kk).length (i + 1)).getD i 0) != 0)) || (((psC (pthR rr kk).length (i + 1)).getD (i + 1) 0) != 2)) || ((if (psC (pthR rr kk).length (i + 1)).getD i 0 ≠ 0 then kk else -1) != (-1))) || ((if (psC (pthR rr kk).length (i + 1)).getD (i + 1) 0 ≠ 0 then kk else -1) != kk)))) (updO (updO (updO (updO (updO (updO (updO (updO (updO (updO (updO (updO (updO noOb 1 (.live ⟨[.one, .q eSec ss, .q eIL pa, .q ePnt pp, .q eIL rr, .one, .one, .one, .i cn, .one, .rp [.one, .q eSec ss, .q eIL pa, .q ePnt pp, .one, .one, .one, .one, .one, .one], .sl 2 0 1], 65, 1⟩)) 2 (.live ⟨[.pt 3 0], 69, 1⟩)) 3 (.live ⟨[.i kk, .i 1, .i (-1), .sl 4 0 ((psC (pthR rr kk).length i).length)], 47, 1⟩)) 4 (.live ⟨(enc eU8 (psC (pthR rr kk).length i)), 5, 1⟩)) 5 (.live ⟨(enc eU8 (stC (pthR rr kk) ss.length i)), 5, 1⟩)) 5 (.live ⟨(enc eU8 ((stC (pthR rr kk) ss.length i).set (((pthR rr kk).getD i 0).toNat) (0 : Int))), 5, 1⟩)) 1 (.live ⟨[.one, .q eSec ss, .q eIL pa, .q ePnt pp, .q eIL rr, .one, .one, .one, .i cn, .one, .rp [.one, .q eSec ss, .q eIL pa, .q ePnt pp, .one, .one, .one, .one, .one, .one], .sl 2 0 1], 65, 1⟩)) 2 (.live ⟨[.pt 3 0], 69, 1⟩)) 3 (.live ⟨[.i kk, .i 1, .i (-1), .sl 4 0 ((psC (pthR rr kk).length (i + 1)).length)], 47, 1⟩)) 4 (.live ⟨(enc eU8 (psC (pthR rr kk).length (i + 1))), 5, 1⟩)) 5 (.live ⟨(enc eU8 ((stC (pthR rr kk) ss.length i).set (((pthR rr kk).getD i 0).toNat) (0 : Int))), 5, 1⟩)) 60 (.live ⟨[.i kk, .i 1, .i (-1), .sl 61 0 ((psC (pthR rr kk).length (i + 1)).length)], 47, 4⟩)) 61 (.live ⟨(enc eU8 (psC (pthR rr kk).length (i + 1))), 5, 1⟩)) ?_
   refine awp_cond ((((((1 : Int) != 1) || (((psC (pthR rr kk).length (i + 1)).getD i 0) != 0)) || (((psC (pthR rr kk).length (i + 1)).getD (i + 1) 0) != 2)) || ((if (psC (pthR rr kk).length (i + 1)).getD i 0 ≠ 0 then kk else -1) != (-1))) || ((if (psC (pthR rr kk).length (i + 1)).getD (i + 1) 0 ≠ 0 then kk else -1) != kk)) rfl rfl (fun hc7 => ?_) (fun hc7 => ?_)
   ·skip
    exfalso; rw [psC_lt om, psC_ge om om] at hc7; simp at hc7
   obtain ⟨hf33a, hf33b⟩ := or_f hc7
   obtain ⟨hf34a, hf34b⟩ := or_f hf33a
   obtain ⟨hf35a, hf35b⟩ := or_f hf34a
   obtain ⟨hf36a, hf36b⟩ := or_f hf35a
   have hf37 := (bne_eq_false_iff_eq).1 hf36a
   have hf38 := (bne_eq_false_iff_eq).1 hf36b
   have hf39 := (bne_eq_false_iff_eq).1 hf35b
   have hf40 := (bne_eq_false_iff_eq).1 hf34b
   have hf41 := (bne_eq_false_iff_eq).1 hf33b
   refine awp_skip ?_
   refine regR ?_
   refine mG (.i (i : Int)) ?_
   refine oG (qB (.int .i64 ((i + 1 : Nat) : Int)) (addN om) ?_)
   refine mG (.i ((i + 1 : Nat) : Int)) ?_
   refine op0 ?_
   show _ ∧ _
   refine ⟨by omega, trivial, ?_⟩
   exact iL [(1, 1), (2, 2), (3, 3), (4, 4), (5, 5)] [((1, 1), .live _), ((2, 2), .live _), ((3, 3), .live _), ((4, 4), .live _), ((5, 5), .live _)] ⟨row_map (o := ⟨[.one, .q eSec ss, .q eIL pa, .q ePnt pp, .q eIL rr, .one, .one, .one, .i cn, .one, .rp [.one, .q eSec ss, .q eIL pa, .q ePnt pp, .one, .one, .one, .one, .one, .one], .sl 2 0 1], 65, 1⟩) rfl (om_ (lm_cons (am_no (a := .one)) (lm_cons (am_no (a := .q eSec ss)) (lm_cons (am_no (a := .q eIL pa)) (lm_cons (am_no (a := .q ePnt pp)) (lm_cons (am_no (a := .q eIL rr)) (lm_cons (am_no (a := .one)) (lm_cons (am_no (a := .one)) (lm_cons (am_no (a := .one)) (lm_cons (am_no (a := .i cn)) (lm_cons (am_no (a := .one)) (lm_cons (am_no (a := .rp [.one, .q eSec ss, .q eIL pa, .q ePnt pp, .one, .one, .one, .one, .one, .one])) (lm_cons rfl lm_nil))))))))))))) (oks_cons (ok_no (a := .one)) (oks_cons (ok_no (a := .q eSec ss)) (oks_cons (ok_no (a := .q eIL pa)) (oks_cons (ok_no (a := .q ePnt pp)) (oks_cons (ok_no (a := .q eIL rr)) (oks_cons (ok_no (a := .one)) (oks_cons (ok_no (a := .one)) (oks_cons (ok_no (a := .one)) (oks_cons (ok_no (a := .i cn)) (oks_cons (ok_no (a := .one)) (oks_cons (ok_no (a := .rp [.one, .q eSec ss, .q eIL pa, .q ePnt pp, .one, .one, .one, .one, .one, .one])) (oks_cons (.sl _ _ _ (by simp)) oks_nil)))))))))))), row_map (o := ⟨[.pt 3 0], 69, 1⟩) rfl (om_ (lm_cons rfl lm_nil)) (oks_cons (.pt _ _ (by simp)) oks_nil), row_map (o := ⟨[.i kk, .i 1, .i (-1), .sl 4 0 ((psC (pthR rr kk).length (i + 1)).length)], 47, 1⟩) rfl (om_ (lm_cons (am_no (a := .i kk)) (lm_cons (am_no (a := .i 1)) (lm_cons (am_no (a := .i (-1))) (lm_cons rfl lm_nil))))) (oks_cons (ok_no (a := .i kk)) (oks_cons (ok_no (a := .i 1)) (oks_cons (ok_no (a := .i (-1))) (oks_cons (.sl _ _ _ (by simp)) oks_nil)))), row_no rfl rfl, row_no rfl (by exact congrArg (fun l_ => LObj.mk (enc eU8 l_) 5 1) hstp.symm), trivial⟩
  refine seqR ?_
  refine mG (.pt 1 0) ?_
  refine mG (.i (i : Int)) ?_
  refine oG (qB (.int .i64 (2 + (i : Int))) (addI om) ?_)
  refine mG (.sl 5 0 ss.length) ?_
  refine mG (.q eI (List.replicate pa.length (1 : Int))) ?_
  refine oG (callG_ false [1, 2, 3, 4, 5] [] (r_StepWDq ss pa pp rr cn kk 1 (-1) (psC (pthR rr kk).length i) (2 + (i : Int)) _ (List.replicate pa.length (1 : Int)) _ _ om hkr (by rw [psC_len om]; omega) om om hq6 (by simp only [List.length_set, stC_len]; omega) (by rw [List.length_replicate]; omega) (by simp only [List.length_set, stC_len]; exact hk3) (by simp only [List.length_set, stC_len, List.length_replicate]; exact hq7) (by rw [hstp]; exact ord_i hnp rfl hk3 om) (by rw [show i + 1 = (pthR rr kk).length by omega]; exact psC_none) (by simp only [List.length_set, stC_len])) rfl rfl rfl rfl rfl bd11 (by decide) ⟨giv_map (o := ⟨[.one, .q eSec ss, .q eIL pa, .q ePnt pp, .q eIL rr, .one, .one, .one, .i cn, .one, .rp [.one, .q eSec ss, .q eIL pa, .q ePnt pp, .one, .one, .one, .one, .one, .one], .sl 2 0 1], 65, 1⟩) rfl (om_ (lm_cons (am_no (a := .one)) (lm_cons (am_no (a := .q eSec ss)) (lm_cons (am_no (a := .q eIL pa)) (lm_cons (am_no (a := .q ePnt pp)) (lm_cons (am_no (a := .q eIL rr)) (lm_cons (am_no (a := .one)) (lm_cons (am_no (a := .one)) (lm_cons (am_no (a := .one)) (lm_cons (am_no (a := .i cn)) (lm_cons (am_no (a := .one)) (lm_cons (am_no (a := .rp [.one, .q eSec ss, .q eIL pa, .q ePnt pp, .one, .one, .one, .one, .one, .one])) (lm_cons rfl lm_nil))))))))))))) (oks_cons (ok_no (a := .one)) (oks_cons (ok_no (a := .q eSec ss)) (oks_cons (ok_no (a := .q eIL pa)) (oks_cons (ok_no (a := .q ePnt pp)) (oks_cons (ok_no (a := .q eIL rr)) (oks_cons (ok_no (a := .one)) (oks_cons (ok_no (a := .one)) (oks_cons (ok_no (a := .one)) (oks_cons (ok_no (a := .i cn)) (oks_cons (ok_no (a := .one)) (oks_cons (ok_no (a := .rp [.one, .q eSec ss, .q eIL pa, .q ePnt pp, .one, .one, .one, .one, .one, .one])) (oks_cons (.sl _ _ _ (by simp)) oks_nil)))))))))))), giv_map (o := ⟨[.pt 3 0], 69, 1⟩) rfl (om_ (lm_cons rfl lm_nil)) (oks_cons (.pt _ _ (by simp)) oks_nil), giv_map (o := ⟨[.i kk, .i 1, .i (-1), .sl 4 0 ((psC (pthR rr kk).length i).length)], 47, 1⟩) rfl (om_ (lm_cons (am_no (a := .i kk)) (lm_cons (am_no (a := .i 1)) (lm_cons (am_no (a := .i (-1))) (lm_cons rfl lm_nil))))) (oks_cons (ok_no (a := .i kk)) (oks_cons (ok_no (a := .i 1)) (oks_cons (ok_no (a := .i (-1))) (oks_cons (.sl _ _ _ (by simp)) oks_nil)))), giv_no (o := ⟨(enc eU8 (psC (pthR rr kk).length i)), 5, 1⟩) rfl rfl, giv_no (o := ⟨(enc eU8 ((stC (pthR rr kk) ss.length i).set (((pthR rr kk).getD i 0).toNat) (0 : Int))), 5, 1⟩) rfl rfl, trivial⟩ ⟨(arg_own (.pt _ _ (by simp)) rfl), (arg_no (a := .i (2 + (i : Int)))), (arg_own (.sl _ _ _ (by simp)) rfl), (arg_no (a := .q eI (List.replicate pa.length (1 : Int)))), trivial⟩ rfl trivial (fun h => by cases h) (am_no (a := .tup [])) (place_cons (ost_map (lm_cons (am_no (a := .one)) (lm_cons (am_no (a := .q eSec ss)) (lm_cons (am_no (a := .q eIL pa)) (lm_cons (am_no (a := .q ePnt pp)) (lm_cons (am_no (a := .q eIL rr)) (lm_cons (am_no (a := .one)) (lm_cons (am_no (a := .one)) (lm_cons (am_no (a := .one)) (lm_cons (am_no (a := .i cn)) (lm_cons (am_no (a := .one)) (lm_cons (am_no (a := .rp [.one, .q eSec ss, .q eIL pa, .q ePnt pp, .one, .one, .one, .one, .one, .one])) (lm_cons rfl lm_nil))))))))))))) (place_cons (ost_no (cs := [.v (.pointer none)])) (place_cons (ost_map (lm_cons (am_no (a := .i kk)) (lm_cons (am_no (a := .i 1)) (lm_cons (am_no (a := .i (-1))) (lm_cons rfl lm_nil))))) (place_cons (ost_no (cs := (enc eU8 (psC (pthR rr kk).length (i + 1))))) (place_cons (ost_no (cs := (enc eU8 ((stC (pthR rr kk) ss.length i).set (((pthR rr kk).getD i 0).toNat) (0 : Int))))) place_nil))))) ?_)
  refine rU (upd (upd (upd (upd (upd (upd Z75 8 (.i kk)) 9 (.pt 1 0)) 13 (.q eI (List.replicate pa.length (1 : Int)))) 15 (.q eI (pthR rr kk))) 16 (.sl 5 0 ss.length)) 18 (.i (i : Int))) (updO (updO (updO (updO (updO (updO (updO (updO (updO (updO (updO noOb 1 (.live ⟨[.one, .q eSec ss, .q eIL pa, .q ePnt pp, .q eIL rr, .one, .one, .one, .i cn, .one, .rp [.one, .q eSec ss, .q eIL pa, .q ePnt pp, .one, .one, .one, .one, .one, .one], .sl 2 0 1], 65, 1⟩)) 2 (.live ⟨[.pt 3 0], 69, 1⟩)) 3 (.live ⟨[.i kk, .i 1, .i (-1), .sl 4 0 ((psC (pthR rr kk).length i).length)], 47, 1⟩)) 4 (.live ⟨(enc eU8 (psC (pthR rr kk).length i)), 5, 1⟩)) 5 (.live ⟨(enc eU8 (stC (pthR rr kk) ss.length i)), 5, 1⟩)) 5 (.live ⟨(enc eU8 ((stC (pthR rr kk) ss.length i).set (((pthR rr kk).getD i 0).toNat) (0 : Int))), 5, 1⟩)) 1 (.live ⟨[.one, .q eSec ss, .q eIL pa, .q ePnt pp, .q eIL rr, .one, .one, .one, .i cn, .one, .rp [.one, .q eSec ss, .q eIL pa, .q ePnt pp, .one, .one, .one, .one, .one, .one], .sl 2 0 0], 65, 1⟩)) 2 (.live Z78)) 3 (.live ⟨[.i kk, .i 1, .i (-1), .sl 4 0 ((psC (pthR rr kk).length (i + 1)).length)], 47, 1⟩)) 4 (.live ⟨(enc eU8 (psC (pthR rr kk).length (i + 1))), 5, 1⟩)) 5 (.live ⟨(enc eU8 ((stC (pthR rr kk) ss.length i).set (((pthR rr kk).getD i 0).toNat) (0 : Int))), 5, 1⟩)) ?_
  refine seqR ?_
  refine mG (.pt 1 0) ?_
  refine oG (callL_ (r_Locks0 ()) rfl rfl rfl rfl rfl bd12 (lends_cons (lend_pt rfl (lends_cons (lend_n (av := .one)) (lends_cons (.one _ rfl) (lends_cons (.one _ rfl) (lends_cons (.one _ rfl) (lends_cons (.one _ rfl) (lends_cons (lend_n (av := .one)) (lends_cons (lend_n (av := .one)) (lends_cons (lend_n (av := .one)) (lends_cons (.one _ rfl) (lends_cons (lend_n (av := .one)) (lends_cons (.one _ rfl) (lends_cons (lend_row0 rfl) lends_nil))))))))))))) lends_nil) ?_)
  refine mG vN ?_
  refine op0 ?_
  refine awp_seq ?_
  refine seqR ?_
  refine mG (.i (i : Int)) ?_
  refine mG (.q eI (pthR rr kk)) ?_
  refine oG (qN ut42 ?_)
  refine oG (qB (.int .i64 (((pthR rr kk).length : Int) - 1)) (subI om) ?_)
  refine bG ((.bool ((i : Int) == (((pthR rr kk).length : Int) - 1)))) ?_
  refine rU (upd (upd (upd (upd (upd (upd (upd (upd Z75 8 (.i kk)) 9 (.pt 1 0)) 13 (.q eI (List.replicate pa.length (1 : Int)))) 15 (.q eI (pthR rr kk))) 16 (.sl 5 0 ss.length)) 18 (.i (i : Int))) 19 vN) 118 (.b ((i : Int) == (((pthR rr kk).length : Int) - 1)))) (updO (updO (updO (updO (updO (updO (updO (updO (updO (updO (updO noOb 1 (.live ⟨[.one, .q eSec ss, .q eIL pa, .q ePnt pp, .q eIL rr, .one, .one, .one, .i cn, .one, .rp [.one, .q eSec ss, .q eIL pa, .q ePnt pp, .one, .one, .one, .one, .one, .one], .sl 2 0 1], 65, 1⟩)) 2 (.live ⟨[.pt 3 0], 69, 1⟩)) 3 (.live ⟨[.i kk, .i 1, .i (-1), .sl 4 0 ((psC (pthR rr kk).length i).length)], 47, 1⟩)) 4 (.live ⟨(enc eU8 (psC (pthR rr kk).length i)), 5, 1⟩)) 5 (.live ⟨(enc eU8 (stC (pthR rr kk) ss.length i)), 5, 1⟩)) 5 (.live ⟨(enc eU8 ((stC (pthR rr kk) ss.length i).set (((pthR rr kk).getD i 0).toNat) (0 : Int))), 5, 1⟩)) 1 (.live ⟨[.one, .q eSec ss, .q eIL pa, .q ePnt pp, .q eIL rr, .one, .one, .one, .i cn, .one, .rp [.one, .q eSec ss, .q eIL pa, .q ePnt pp, .one, .one, .one, .one, .one, .one], .sl 2 0 0], 65, 1⟩)) 2 (.live Z78)) 3 (.live ⟨[.i kk, .i 1, .i (-1), .sl 4 0 ((psC (pthR rr kk).length (i + 1)).length)], 47, 1⟩)) 4 (.live ⟨(enc eU8 (psC (pthR rr kk).length (i + 1))), 5, 1⟩)) 5 (.live ⟨(enc eU8 ((stC (pthR rr kk) ss.length i).set (((pthR rr kk).getD i 0).toNat) (0 : Int))), 5, 1⟩)) ?_
  refine awp_cond ((i : Int) == (((pthR rr kk).length : Int) - 1)) rfl rfl (fun hc6 => ?_) (fun hc6 => ?_)
  ·skip
   have hf42 := (beq_iff_eq).1 hc6
   refine seqR ?_
   refine mG vN ?_
   refine oG (aop_len rfl rfl rfl rfl ut44 (len_nil rfl) ?_)
   refine bG ((.bool true)) ?_
   refine mG (.b true) ?_
   refine rU (upd (upd (upd (upd (upd (upd (upd (upd none_ 6 (.b true)) 8 (.i kk)) 9 (.pt 1 0)) 13 (.q eI (List.replicate pa.length (1 : Int)))) 15 (.q eI (pthR rr kk))) 16 (.sl 5 0 ss.length)) 18 (.i (i : Int))) 19 vN) (updO (updO (updO (updO (updO (updO (updO (updO (updO (updO (updO noOb 1 (.live ⟨[.one, .q eSec ss, .q eIL pa, .q ePnt pp, .q eIL rr, .one, .one, .one, .i cn, .one, .rp [.one, .q eSec ss, .q eIL pa, .q ePnt pp, .one, .one, .one, .one, .one, .one], .sl 2 0 1], 65, 1⟩)) 2 (.live ⟨[.pt 3 0], 69, 1⟩)) 3 (.live ⟨[.i kk, .i 1, .i (-1), .sl 4 0 ((psC (pthR rr kk).length i).length)], 47, 1⟩)) 4 (.live ⟨(enc eU8 (psC (pthR rr kk).length i)), 5, 1⟩)) 5 (.live ⟨(enc eU8 (stC (pthR rr kk) ss.length i)), 5, 1⟩)) 5 (.live ⟨(enc eU8 ((stC (pthR rr kk) ss.length i).set (((pthR rr kk).getD i 0).toNat) (0 : Int))), 5, 1⟩)) 1 (.live ⟨[.one, .q eSec ss, .q eIL pa, .q ePnt pp, .q eIL rr, .one, .one, .one, .i cn, .one, .rp [.one, .q eSec ss, .q eIL pa, .q ePnt pp, .one, .one, .one, .one, .one, .one], .sl 2 0 0], 65, 1⟩)) 2 (.live Z78)) 3 (.live ⟨[.i kk, .i 1, .i (-1), .sl 4 0 ((psC (pthR rr kk).length (i + 1)).length)], 47, 1⟩)) 4 (.live ⟨(enc eU8 (psC (pthR rr kk).length (i + 1))), 5, 1⟩)) 5 (.live ⟨(enc eU8 ((stC (pthR rr kk) ss.length i).set (((pthR rr kk).getD i 0).toNat) (0 : Int))), 5, 1⟩)) ?_
   refine awp_ret ?_
   exact fret (av := .v (.bool true)) rfl rfl rfl
  have hf43 := (beq_eq_false_iff_ne).1 hc6
  exfalso; omega
 have hf44 := of_decide_eq_false hc5
 exfalso; omega
end Go.Lo
