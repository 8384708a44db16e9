/- Walks of Go functions in the logic of values. -/
import Derived.Test.YthfmdljohlolpaaFnEnTy
import Derived.Test.YthfmdljohlolpaaDef
import Derived.Test.YthfmdljohlolpaaRi
import Derived.Test.YthfmdljohlolpaaTd
import Derived.Test.YthfmdljohlolpaaTc
import Derived.Test.YthfmdljohlolpaaTe
import Derived.Test.YthfmdljohlolpaaTg
import Derived.Test.YthfmdljohlolpaaTh
import Derived.Test.YthfmdljohlolpaaFnA
import Derived.Test.YthfmdljohlolpaaFnB
set_option linter.unusedVariables false
set_option linter.unusedSimpArgs false
set_option maxRecDepth 10000
set_option maxHeartbeats 16000000
namespace Go.Lo
open Go.Proofs
theorem l8_three   : Fn Try.prog 9 [] (.v (.bool true)) := by
 have h1 := startT_len (l := ([] : List Tm)) (i := 5) (a := 9) (by decide)
 have h2 := startT_len (i := 3) (a := 9) h1
 have h3 := startT_len (i := 7) (a := 2) h2
 have h4 := end_len 9 (startT (startT (startT ([] : List Tm) 5 9) 3 9) 7 2)
 refine fnE_of_body (N := 18) Try.func9 rfl rfl (resOf1 rfl) (by simp) (fun w0 X hL_ => ?_)
 refine seqR ?_
 refine mG (.b false) ?_
 refine op0 ?_
 refine seqR ?_
 refine opG rfl (callG_ false [] [51, 52] (t_New) rfl rfl rfl rfl rfl bd10 (by decide) trivial trivial rfl ⟨rfl, rfl, trivial⟩ (fun h => by cases h) rfl (place_cons (ost_map (lm_cons rfl lm_nil)) (place_cons (ost_no (cs := (enc eT ([] : List Tm)))) place_nil)) ?_)
 refine mG (.pt 51 0) ?_
 refine op0 ?_
 refine seqR ?_
 refine mG (.pt 51 0) ?_
 refine opG rfl (callG_ false [51, 52] [53] (t_Start ([] : List Tm) 5 9 (by decide)) rfl rfl rfl rfl rfl bd11 (by decide) ⟨giv_map (o := ⟨[.sl 52 0 0], 57, 1⟩) rfl (om_ (lm_cons rfl lm_nil)) (oks_cons (.sl _ _ _ (by simp)) oks_nil), giv_no (o := ⟨(enc eT ([] : List Tm)), 59, 2⟩) rfl rfl, trivial⟩ ⟨(arg_own (.pt _ _ (by simp)) rfl), (arg_no (a := .i 5)), (arg_no (a := .i 9)), trivial⟩ rfl ⟨rfl, trivial⟩ (fun h => by cases h) (am_no (a := .i (errT ([] : List Tm) 5))) (place_cons (ost_map (lm_cons rfl lm_nil)) (place_cons rfl (place_cons (ost_no (cs := (enc eT (startT ([] : List Tm) 5 9)))) place_nil))) ?_)
 refine op0 ?_
 refine rs_ (upd (upd none_ 0 (.b false)) 1 (.pt 51 0)) (updO (updO (updO (updO (updO noOb 51 (.live ⟨[.sl 52 0 0], 57, 1⟩)) 52 (.live ⟨(enc eT ([] : List Tm)), 59, 2⟩)) 51 (.live ⟨[.sl 53 0 ((startT ([] : List Tm) 5 9).length)], 57, 1⟩)) 52 .dead) 53 (.live ⟨(enc eT (startT ([] : List Tm) 5 9)), 59, 2⟩)) (lu rfl (lu rfl ln)) rfl ?_
 refine seqR ?_
 refine mG (.pt 51 0) ?_
 refine opG rfl (callG_ false [51, 53] [54] (t_Start (startT ([] : List Tm) 5 9) 3 9 (by omega)) rfl rfl rfl rfl rfl bd11 (by decide) ⟨giv_map (o := ⟨[.sl 53 0 ((startT ([] : List Tm) 5 9).length)], 57, 1⟩) rfl (om_ (lm_cons rfl lm_nil)) (oks_cons (.sl _ _ _ (by simp)) oks_nil), giv_no (o := ⟨(enc eT (startT ([] : List Tm) 5 9)), 59, 2⟩) rfl rfl, trivial⟩ ⟨(arg_own (.pt _ _ (by simp)) rfl), (arg_no (a := .i 3)), (arg_no (a := .i 9)), trivial⟩ rfl ⟨rfl, trivial⟩ (fun h => by cases h) (am_no (a := .i (errT (startT ([] : List Tm) 5 9) 3))) (place_cons (ost_map (lm_cons rfl lm_nil)) (place_cons rfl (place_cons (ost_no (cs := (enc eT (startT (startT ([] : List Tm) 5 9) 3 9)))) place_nil))) ?_)
 refine op0 ?_
 refine seqR ?_
 refine mG (.pt 51 0) ?_
 refine opG rfl (callG_ false [51, 54] [55] (t_Start (startT (startT ([] : List Tm) 5 9) 3 9) 7 2 (by omega)) rfl rfl rfl rfl rfl bd11 (by decide) ⟨giv_map (o := ⟨[.sl 54 0 ((startT (startT ([] : List Tm) 5 9) 3 9).length)], 57, 1⟩) rfl (om_ (lm_cons rfl lm_nil)) (oks_cons (.sl _ _ _ (by simp)) oks_nil), giv_no (o := ⟨(enc eT (startT (startT ([] : List Tm) 5 9) 3 9)), 59, 2⟩) rfl rfl, trivial⟩ ⟨(arg_own (.pt _ _ (by simp)) rfl), (arg_no (a := .i 7)), (arg_no (a := .i 2)), trivial⟩ rfl ⟨rfl, trivial⟩ (fun h => by cases h) (am_no (a := .i (errT (startT (startT ([] : List Tm) 5 9) 3 9) 7))) (place_cons (ost_map (lm_cons rfl lm_nil)) (place_cons rfl (place_cons (ost_no (cs := (enc eT (startT (startT (startT ([] : List Tm) 5 9) 3 9) 7 2)))) place_nil))) ?_)
 refine op0 ?_
 refine rs_ (upd (upd none_ 0 (.b false)) 1 (.pt 51 0)) (updO (updO (updO (updO (updO (updO (updO (updO (updO (updO (updO noOb 51 (.live ⟨[.sl 52 0 0], 57, 1⟩)) 52 (.live ⟨(enc eT ([] : List Tm)), 59, 2⟩)) 51 (.live ⟨[.sl 53 0 ((startT ([] : List Tm) 5 9).length)], 57, 1⟩)) 52 .dead) 53 (.live ⟨(enc eT (startT ([] : List Tm) 5 9)), 59, 2⟩)) 51 (.live ⟨[.sl 54 0 ((startT (startT ([] : List Tm) 5 9) 3 9).length)], 57, 1⟩)) 53 .dead) 54 (.live ⟨(enc eT (startT (startT ([] : List Tm) 5 9) 3 9)), 59, 2⟩)) 51 (.live ⟨[.sl 55 0 ((startT (startT (startT ([] : List Tm) 5 9) 3 9) 7 2).length)], 57, 1⟩)) 54 .dead) 55 (.live ⟨(enc eT (startT (startT (startT ([] : List Tm) 5 9) 3 9) 7 2)), 59, 2⟩)) (lu rfl (lu rfl ln)) rfl ?_
 refine awp_imp ⟨(upd (upd none_ 0 (.b false)) 1 (.pt 51 0)), (updO noOb 51 (.live ⟨[.q eT (startT (startT (startT ([] : List Tm) 5 9) 3 9) 7 2)], 57, 1⟩))⟩ ?_ ?_
 ·skip
  refine (frz_ [51] [(51, ⟨[.q eT (startT (startT (startT ([] : List Tm) 5 9) 3 9) 7 2)], 57, 1⟩)] rfl (fun _ h => h) ⟨keep_cells (cs := [.sl 55 0 ((startT (startT (startT ([] : List Tm) 5 9) 3 9) 7 2).length)]) (by simp) rfl rfl (frzs_cons (.inr (lend_s (id := 55) (n := (startT (startT (startT ([] : List Tm) 5 9) 3 9) 7 2).length) (o := ⟨(enc eT (startT (startT (startT ([] : List Tm) 5 9) 3 9) 7 2)), 59, 2⟩) rfl (enc_len (fun _ => rfl) (by first | rfl | (simp; done))))) frzs_nil), trivial⟩ (fz_same 1 (.pt 51 0) rfl (fz_same 0 (.b false) rfl fz_none))).trans ?_
  exact imp_ler [(51, 51)] (lerI 51 51 (o := ⟨[.q eT (startT (startT (startT ([] : List Tm) 5 9) 3 9) 7 2)], 57, 1⟩) rfl rfl (sM rfl (sS rfl sr_none))) (keep_of rfl)
 refine seqR ?_
 refine mG (.pt 51 0) ?_
 refine opG rfl (callG_ false [51] [56] (t_Ended (startT (startT (startT ([] : List Tm) 5 9) 3 9) 7 2) 9 (by omega)) rfl rfl rfl rfl rfl bd12 (by decide) ⟨giv_no (o := ⟨[.q eT (startT (startT (startT ([] : List Tm) 5 9) 3 9) 7 2)], 57, 1⟩) rfl rfl, trivial⟩ ⟨(arg_own (.pt _ _ (by simp)) rfl), (arg_no (a := .i 9)), trivial⟩ rfl ⟨rfl, trivial⟩ (fun h => by cases h) rfl (place_cons (ost_no (cs := [.q eT (restL 9 (startT (startT (startT ([] : List Tm) 5 9) 3 9) 7 2))])) (place_cons (ost_no (cs := (enc eI (idsT (endL 9 (startT (startT (startT ([] : List Tm) 5 9) 3 9) 7 2)))))) place_nil)) ?_)
 refine opG rfl (aop_lit rfl rfl rfl ut28 iz3 (by decide) (by decide) rfl rfl ?_)
 refine opG rfl (callL_ (r01_Ints (idsT (endL 9 (startT (startT (startT ([] : List Tm) 5 9) 3 9) 7 2))) [(7 : Int), (3 : Int), (5 : Int)] (by first | omega | (simp; done) | decide | (simp at *; omega))) rfl rfl rfl rfl rfl bd22 (lends_cons (lend_s (id := 56) (n := (idsT (endL 9 (startT (startT (startT ([] : List Tm) 5 9) 3 9) 7 2))).length) (o := ⟨(enc eI (idsT (endL 9 (startT (startT (startT ([] : List Tm) 5 9) 3 9) 7 2)))), 3, 1⟩) rfl (enc_len (fun _ => rfl) (by first | rfl | (simp; done)))) (lends_cons (lend_n (av := .ro 3 [.i 7, .i 3, .i 5])) lends_nil)) ?_)
 refine mG (.b (decide ((idsT (endL 9 (startT (startT (startT ([] : List Tm) 5 9) 3 9) 7 2))) = [(7 : Int), (3 : Int), (5 : Int)]))) ?_
 refine aops_grp 4 17 (.b ((decide ((idsT (endL 9 (startT (startT (startT ([] : List Tm) 5 9) 3 9) 7 2))) = [(7 : Int), (3 : Int), (5 : Int)])) && (((restL 9 (startT (startT (startT ([] : List Tm) 5 9) 3 9) 7 2)).length : Int) == 0))) ?_ ?_
 ·refine (Bool.eq_false_or_eq_true (decide ((idsT (endL 9 (startT (startT (startT ([] : List Tm) 5 9) 3 9) 7 2))) = [(7 : Int), (3 : Int), (5 : Int)]))).elim (fun hg1 => ?_) (fun hg1 => ?_)
  ·skip
   refine opY rfl rfl rfl (by show AV.v (.bool (decide ((idsT (endL 9 (startT (startT (startT ([] : List Tm) 5 9) 3 9) 7 2))) = [(7 : Int), (3 : Int), (5 : Int)]))) = _; rw [hg1]) (aop_move (av := .pt 51 0) (.inl rfl) rfl rfl rfl ?_)
   refine opY rfl rfl rfl (by show AV.v (.bool (decide ((idsT (endL 9 (startT (startT (startT ([] : List Tm) 5 9) 3 9) 7 2))) = [(7 : Int), (3 : Int), (5 : Int)]))) = _; rw [hg1]) (callL_ (t_Len (restL 9 (startT (startT (startT ([] : List Tm) 5 9) 3 9) 7 2)) (by first | omega | (simp; done) | decide | (simp at *; omega))) rfl rfl rfl rfl rfl bd14 (lends_cons (lend_pt rfl (lends_cons (lend_n (av := .q eT (restL 9 (startT (startT (startT ([] : List Tm) 5 9) 3 9) 7 2)))) lends_nil)) lends_nil) ?_)
   refine opY rfl rfl rfl (by show AV.v (.bool (decide ((idsT (endL 9 (startT (startT (startT ([] : List Tm) 5 9) 3 9) 7 2))) = [(7 : Int), (3 : Int), (5 : Int)]))) = _; rw [hg1]) (aop_binI (u := (.bool (((restL 9 (startT (startT (startT ([] : List Tm) 5 9) 3 9) 7 2)).length : Int) == 0))) rfl rfl rfl rfl rfl trivial rfl ?_)
   refine opG rfl (aop_pick (b := (decide ((idsT (endL 9 (startT (startT (startT ([] : List Tm) 5 9) 3 9) 7 2))) = [(7 : Int), (3 : Int), (5 : Int)]))) (av := .b (((restL 9 (startT (startT (startT ([] : List Tm) 5 9) 3 9) 7 2)).length : Int) == 0)) rfl rfl rfl rfl ((congrArg (fun b_ => cond b_ _ _) hg1).trans rfl) ?_)
   refine op0 ?_
   exact imp_env (lee_both 17 _ _ (by rw [hg1] <;> rfl) (lee_out 16 _ rfl (lee_out 15 _ rfl (lee_out 14 _ rfl (lee_same _)))))
  ·skip
   refine nG hg1 ?_
   refine nG hg1 ?_
   refine nG hg1 ?_
   refine opG rfl (aop_pick (b := (decide ((idsT (endL 9 (startT (startT (startT ([] : List Tm) 5 9) 3 9) 7 2))) = [(7 : Int), (3 : Int), (5 : Int)]))) (av := .b false) rfl rfl rfl rfl ((congrArg (fun b_ => cond b_ _ _) hg1).trans rfl) ?_)
   refine op0 ?_
   exact imp_env (lee_both 17 _ _ (by rw [hg1] <;> rfl) (lee_out 16 _ rfl (lee_out 15 _ rfl (lee_out 14 _ rfl (lee_same _)))))
 refine mG (.b ((decide ((idsT (endL 9 (startT (startT (startT ([] : List Tm) 5 9) 3 9) 7 2))) = [(7 : Int), (3 : Int), (5 : Int)])) && (((restL 9 (startT (startT (startT ([] : List Tm) 5 9) 3 9) 7 2)).length : Int) == 0))) ?_
 refine op0 ?_
 refine rs_ (upd none_ 0 (.b ((decide ((idsT (endL 9 (startT (startT (startT ([] : List Tm) 5 9) 3 9) 7 2))) = [(7 : Int), (3 : Int), (5 : Int)])) && (((restL 9 (startT (startT (startT ([] : List Tm) 5 9) 3 9) 7 2)).length : Int) == 0)))) (updO (updO (updO noOb 51 (.live ⟨[.q eT (startT (startT (startT ([] : List Tm) 5 9) 3 9) 7 2)], 57, 1⟩)) 51 (.live ⟨[.q eT (restL 9 (startT (startT (startT ([] : List Tm) 5 9) 3 9) 7 2))], 57, 1⟩)) 56 (.live ⟨(enc eI (idsT (endL 9 (startT (startT (startT ([] : List Tm) 5 9) 3 9) 7 2)))), 3, 1⟩)) (lu rfl ln) rfl ?_
 refine awp_ret ?_
 exact fret (av := .v (.bool ((decide ((idsT (endL 9 (startT (startT (startT ([] : List Tm) 5 9) 3 9) 7 2))) = [(7 : Int), (3 : Int), (5 : Int)])) && (((restL 9 (startT (startT (startT ([] : List Tm) 5 9) 3 9) 7 2)).length : Int) == 0)))) rfl rfl (by rw [three_law])
theorem l8_TimerEnds (l : List Int) (cut : Int) (hw : ∀ x, x ∈ l → I64 x) : Fn Try.prog 3 [.ro l.length (enc eI l), .v (.int .i64 cut)] (.v (.bool true)) := by
 obtain ⟨R, hR⟩ : ∃ R, R = rowK l l.length := ⟨_, rfl⟩
 have hRl : R.length = l.length := by rw [hR, rowK_len]
 have hen := ends_ok (cut := cut) hw hR
 have hln1 := end_len cut R
 have hln2 := end_len 9223372036854775807 (restL cut R)
 have hea := hen.a
 have heb := hen.b
 have hec := hen.c
 have hed := hen.d
 have hee := hen.e
 have hef := hen.f
 refine fnE_of_body (N := 149) Try.func3 rfl rfl (resOf1 rfl) (by simp) (fun w0 X hL_ => ?_)
 refine seqR ?_
 refine mG (.b false) ?_
 refine op0 ?_
 refine awp_seq ?_
 refine seqR ?_
 refine opG rfl (call_ (l8_three) rfl rfl rfl rfl rfl bd9 rfl ?_)
 refine opG rfl (aop_not rfl rfl rfl rfl ?_)
 refine mG (.b false) ?_
 refine opY rfl rfl rfl rfl (aop_move (av := .q eI l) (.inl rfl) rfl rfl rfl ?_)
 refine opY rfl rfl rfl rfl (aop_len rfl rfl rfl rfl ut22 (len_ro rfl) ?_)
 refine opY rfl rfl rfl rfl (aop_binI (u := (.bool (decide ((l.length : Int) > 32)))) rfl rfl rfl rfl rfl trivial rfl ?_)
 refine opG rfl (aop_pick (b := false) (av := .b (decide ((l.length : Int) > 32))) rfl rfl rfl rfl rfl ?_)
 refine op0 ?_
 refine rs_ (upd (upd (upd (upd none_ 0 (.q eI l)) 1 (.i cut)) 4 (.b false)) 18 (.b (decide ((l.length : Int) > 32)))) noOb (lu rfl (lu rfl (lu rfl (lu rfl ln)))) rfl ?_
 refine awp_cond (decide ((l.length : Int) > 32)) rfl rfl (fun hc0 => ?_) (fun hc0 => ?_)
 ·skip
  have hf1 := of_decide_eq_true hc0
  refine seqR ?_
  refine opG rfl (call_ (l8_three) rfl rfl rfl rfl rfl bd9 rfl ?_)
  refine mG (.b true) ?_
  refine op0 ?_
  refine awp_ret ?_
  exact fret (av := .v (.bool true)) rfl rfl (by first | rw [ends_val hen] | rfl)
 ·skip
  have hf2 := of_decide_eq_false hc0
  refine awp_skip ?_
  refine seqR ?_
  refine opG rfl (callG_ false [] [51, 52] (t_New) rfl rfl rfl rfl rfl bd10 (by decide) trivial trivial rfl ⟨rfl, rfl, trivial⟩ (fun h => by cases h) rfl (place_cons (ost_map (lm_cons rfl lm_nil)) (place_cons (ost_no (cs := (enc eT ([] : List Tm)))) place_nil)) ?_)
  refine mG (.pt 51 0) ?_
  refine op0 ?_
  refine awp_seq ?_
  refine seqR ?_
  refine mG (.i 0) ?_
  refine op0 ?_
  refine awp_block ?_
  refine awp_countI (fun i => ⟨(upd (upd (upd (upd (upd none_ 0 (.q eI l)) 1 (.i cut)) 4 (.b false)) 5 (.pt 1 0)) 6 (.i (i : Int))), (updO (updO noOb 1 (.live ⟨[.sl 2 0 ((rowK l i).length)], 57, 1⟩)) 2 (.live ⟨(enc eT (rowK l i)), 59, 2⟩))⟩) (fun i => True) (l.length) ?_ trivial (fun i hk_i hinv => ?_)
  ·skip
   exact imp_ler [(51, 1), (52, 2)] (lerL [(51, 1), (52, 2)] [((51, 1), .live ⟨[.sl 2 0 ((rowK l 0).length)], 57, 1⟩), ((52, 2), .live ⟨(enc eT (rowK l 0)), 59, 2⟩)] rfl (by decide) (by decide) ⟨row_map (o := ⟨[.sl 52 0 0], 57, 1⟩) rfl (by rw [rowK_0]; exact (om_ (lm_cons rfl lm_nil))) (oks_cons (.sl _ _ _ (by simp)) oks_nil), row_no (o := ⟨(enc eT ([] : List Tm)), 59, 2⟩) rfl (by rw [rowK_0] <;> rfl), trivial⟩ (sr_same 6 (.i (0 : Int)) rfl NoI.out (sr_map 5 (.pt 1 0) (by first | exact Ok.sl _ _ _ (by first | decide | simp) | exact Ok.pt _ _ (by first | decide | simp)) rfl (sr_same 4 (.b false) rfl NoI.out (sr_same 1 (.i cut) rfl NoI.out (sr_same 0 (.q eI l) rfl NoI.out sr_none)))))) (keep_of rfl)
  have hrl := rowK_len l i
  refine awp_seq ?_
  refine seqR ?_
  refine mG (.i (i : Int)) ?_
  refine mG (.q eI l) ?_
  refine opG rfl (aop_len rfl rfl rfl rfl ut22 (len_ro rfl) ?_)
  refine bG ((.bool (decide ((i : Int) < (l.length : Int))))) ?_
  refine op0 ?_
  refine rs_ (upd (upd (upd (upd (upd (upd none_ 0 (.q eI l)) 1 (.i cut)) 4 (.b false)) 5 (.pt 1 0)) 6 (.i (i : Int))) 24 (.b (decide ((i : Int) < (l.length : Int))))) (updO (updO noOb 1 (.live ⟨[.sl 2 0 ((rowK l i).length)], 57, 1⟩)) 2 (.live ⟨(enc eT (rowK l i)), 59, 2⟩)) (lu rfl (lu rfl (lu rfl (lu rfl (lu rfl (lu rfl ln)))))) rfl ?_
  refine awp_cond (decide ((i : Int) < (l.length : Int))) rfl rfl (fun hc1 => ?_) (fun hc1 => ?_)
  ·skip
   have hf3 := of_decide_eq_true hc1
   refine awp_skip ?_
   refine awp_seq ?_
   refine awp_block ?_
   refine seqR ?_
   refine mG (.pt 1 0) ?_
   refine mG (.i (i : Int)) ?_
   refine mG (.q eI l) ?_
   refine mG (.i (i : Int)) ?_
   refine opG rfl (aop_ixE 0 rfl rfl rfl ut22 sz2 rfl rfl (fun _ => rfl) rfl (by first | omega | (simp; done) | decide | (simp at *; omega)) ?_)
   refine opG rfl (aop_ld (av := .i (l.getD i 0)) rfl rfl rfl ag2 rfl rfl ?_)
   refine opG rfl (callG_ false [1, 2] [53] (t_Start (rowK l i) i (l.getD i 0) (by omega)) rfl rfl rfl rfl rfl bd11 (by decide) ⟨giv_map (o := ⟨[.sl 2 0 ((rowK l i).length)], 57, 1⟩) rfl (om_ (lm_cons rfl lm_nil)) (oks_cons (.sl _ _ _ (by simp)) oks_nil), giv_no (o := ⟨(enc eT (rowK l i)), 59, 2⟩) rfl rfl, trivial⟩ ⟨(arg_own (.pt _ _ (by simp)) rfl), (arg_no (a := .i (i : Int))), (arg_no (a := .i (l.getD i 0))), trivial⟩ rfl ⟨rfl, trivial⟩ (fun h => by cases h) (am_no (a := .i (errT (rowK l i) (i : Int)))) (place_cons (ost_map (lm_cons rfl lm_nil)) (place_cons rfl (place_cons (ost_no (cs := (enc eT (startT (rowK l i) (i : Int) (l.getD i 0))))) place_nil))) ?_)
   refine bG ((.bool ((errT (rowK l i) (i : Int)) != 0))) ?_
   refine op0 ?_
   refine rs_ (upd (upd (upd (upd (upd (upd none_ 0 (.q eI l)) 1 (.i cut)) 4 (.b false)) 5 (.pt 1 0)) 6 (.i (i : Int))) 34 (.b ((errT (rowK l i) (i : Int)) != 0))) (updO (updO (updO (updO (updO noOb 1 (.live ⟨[.sl 2 0 ((rowK l i).length)], 57, 1⟩)) 2 (.live ⟨(enc eT (rowK l i)), 59, 2⟩)) 1 (.live ⟨[.sl 53 0 ((startT (rowK l i) (i : Int) (l.getD i 0)).length)], 57, 1⟩)) 2 .dead) 53 (.live ⟨(enc eT (startT (rowK l i) (i : Int) (l.getD i 0))), 59, 2⟩)) (lu rfl (lu rfl (lu rfl (lu rfl (lu rfl (lu rfl ln)))))) rfl ?_
   refine awp_cond ((errT (rowK l i) (i : Int)) != 0) rfl rfl (fun hc2 => ?_) (fun hc2 => ?_)
   ·skip
    have hf4 := (bne_iff_ne).1 hc2
    exfalso; rw [rowK_err l (show i < 32 by omega)] at hc2; simp at hc2
   ·skip
    have hf5 := (bne_eq_false_iff_eq).1 hc2
    refine awp_skip ?_
    refine regR ?_
    refine mG (.i (i : Int)) ?_
    refine opG rfl (aop_binI (u := (.int .i64 ((i + 1 : Nat) : Int))) rfl rfl rfl rfl rfl trivial (addN (by omega)) ?_)
    refine mG (.i ((i + 1 : Nat) : Int)) ?_
    refine op0 ?_
    show _ ∧ _
    have hs_ := rowK_step l (show i < 32 by omega)
    refine ⟨by omega, trivial, ?_⟩
    exact imp_ler [(1, 1), (53, 2)] (lerL [(1, 1), (53, 2)] [((1, 1), .live ⟨[.sl 2 0 ((rowK l (i + 1)).length)], 57, 1⟩), ((53, 2), .live ⟨(enc eT (rowK l (i + 1))), 59, 2⟩)] rfl (by decide) (by decide) ⟨row_map (o := ⟨[.sl 53 0 ((startT (rowK l i) (i : Int) (l.getD i 0)).length)], 57, 1⟩) rfl (by rw [← hs_]; exact (om_ (lm_cons rfl lm_nil))) (oks_cons (.sl _ _ _ (by simp)) oks_nil), row_no (o := ⟨(enc eT (startT (rowK l i) (i : Int) (l.getD i 0))), 59, 2⟩) rfl (by rw [← hs_]), trivial⟩ (sr_same 6 (.i ((i + 1) : Int)) rfl NoI.out (sr_map 5 (.pt 1 0) (by first | exact Ok.sl _ _ _ (by first | decide | simp) | exact Ok.pt _ _ (by first | decide | simp)) rfl (sr_same 4 (.b false) rfl NoI.out (sr_same 1 (.i cut) rfl NoI.out (sr_same 0 (.q eI l) rfl NoI.out sr_none)))))) (keep_of rfl)
  ·skip
   have hf6 := of_decide_eq_false hc1
   have hi : i = l.length := by omega
   refine awp_exit ?_
   refine awp_imp ⟨(upd (upd (upd (upd (upd (upd none_ 0 (.q eI l)) 1 (.i cut)) 4 (.b false)) 5 (.pt 1 0)) 6 (.i (i : Int))) 24 (.b (decide ((i : Int) < (l.length : Int))))), (updO noOb 1 (.live ⟨[.q eT R], 57, 1⟩))⟩ ?_ ?_
   ·skip
    refine (frz_ [1] [(1, ⟨[.q eT (rowK l i)], 57, 1⟩)] rfl (fun _ h => h) ⟨keep_cells (cs := [.sl 2 0 ((rowK l i).length)]) (by simp) rfl rfl (frzs_cons (.inr (lend_s (id := 2) (n := (rowK l i).length) (o := ⟨(enc eT (rowK l i)), 59, 2⟩) rfl (enc_len (fun _ => rfl) (by first | rfl | (simp; done))))) frzs_nil), trivial⟩ (fz_same 24 (.b (decide ((i : Int) < (l.length : Int)))) rfl (fz_same 6 (.i (i : Int)) rfl (fz_same 5 (.pt 1 0) rfl (fz_same 4 (.b false) rfl (fz_same 1 (.i cut) rfl (fz_same 0 (.q eI l) rfl fz_none))))))).trans ?_
    exact imp_ler [(1, 1)] (lerI 1 1 (o := ⟨[.q eT (rowK l i)], 57, 1⟩) rfl (by rw [hi, hR]) (sS rfl (sS rfl (sM rfl (sS rfl (sS rfl (sS rfl sr_none))))))) (keep_of rfl)
   refine seqR ?_
   refine mG (.pt 1 0) ?_
   refine mG (.i cut) ?_
   refine opG rfl (callG_ false [1] [54] (t_Ended R cut (by omega)) rfl rfl rfl rfl rfl bd12 (by decide) ⟨giv_no (o := ⟨[.q eT R], 57, 1⟩) rfl rfl, trivial⟩ ⟨(arg_own (.pt _ _ (by simp)) rfl), (arg_no (a := .i cut)), trivial⟩ rfl ⟨rfl, trivial⟩ (fun h => by cases h) rfl (place_cons (ost_no (cs := [.q eT (restL cut R)])) (place_cons (ost_no (cs := (enc eI (idsT (endL cut R))))) place_nil)) ?_)
   refine mG (.sl 54 0 ((idsT (endL cut R)).length)) ?_
   refine op0 ?_
   refine rs_ (upd (upd (upd (upd (upd none_ 0 (.q eI l)) 1 (.i cut)) 4 (.b false)) 5 (.pt 1 0)) 7 (.sl 54 0 ((idsT (endL cut R)).length))) (updO (updO (updO noOb 1 (.live ⟨[.q eT R], 57, 1⟩)) 1 (.live ⟨[.q eT (restL cut R)], 57, 1⟩)) 54 (.live ⟨(enc eI (idsT (endL cut R))), 3, 1⟩)) (lu rfl (lu rfl (lu rfl (lu rfl (lu rfl ln))))) rfl ?_
   refine awp_seq ?_
   refine awp_imp ⟨(upd (upd (upd (upd (upd none_ 0 (.q eI l)) 1 (.i cut)) 4 (.b false)) 5 (.pt 1 0)) 7 (.q eI (idsT (endL cut R)))), (updO noOb 1 (.live ⟨[.q eT (restL cut R)], 57, 1⟩))⟩ ?_ ?_
   ·skip
    refine (frz_ [1] [(1, ⟨[.q eT (restL cut R)], 57, 1⟩)] rfl (fun _ h => h) ⟨keep_cells (cs := [.q eT (restL cut R)]) (by simp) rfl rfl (frzs_cons (.inl rfl) frzs_nil), trivial⟩ (fz_lend 7 (.q eI (idsT (endL cut R))) (lend_s (id := 54) (n := (idsT (endL cut R)).length) (o := ⟨(enc eI (idsT (endL cut R))), 3, 1⟩) rfl (enc_len (fun _ => rfl) (by first | rfl | (simp; done)))) (fz_same 5 (.pt 1 0) rfl (fz_same 4 (.b false) rfl (fz_same 1 (.i cut) rfl (fz_same 0 (.q eI l) rfl fz_none)))))).trans ?_
    exact imp_ler [(1, 1)] (lerI 1 1 (o := ⟨[.q eT (restL cut R)], 57, 1⟩) rfl rfl (sS rfl (sM rfl (sS rfl (sS rfl (sS rfl sr_none)))))) (keep_of rfl)
   refine seqR ?_
   refine mG (.i 0) ?_
   refine op0 ?_
   refine awp_block ?_
   refine awp_countI (fun j => ⟨(upd (upd (upd (upd (upd (upd none_ 0 (.q eI l)) 1 (.i cut)) 4 (.b false)) 5 (.pt 1 0)) 7 (.q eI (idsT (endL cut R)))) 8 (.i (j : Int))), (updO noOb 1 (.live ⟨[.q eT (restL cut R)], 57, 1⟩))⟩) (fun j => True) ((idsT (endL cut R)).length) ?_ trivial (fun j hk_j hinv => ?_)
   ·skip
    exact imp_ler [(1, 1)] (lerI 1 1 rfl rfl (sS rfl (sS rfl (sM rfl (sS rfl (sS rfl (sS rfl sr_none))))))) (keep_of rfl)
   refine awp_seq ?_
   refine seqR ?_
   refine mG (.i (j : Int)) ?_
   refine mG (.q eI (idsT (endL cut R))) ?_
   refine opG rfl (aop_len rfl rfl rfl rfl ut28 (len_ro rfl) ?_)
   refine bG ((.bool (decide ((j : Int) < ((idsT (endL cut R)).length : Int))))) ?_
   refine op0 ?_
   refine rs_ (upd (upd (upd (upd (upd (upd (upd none_ 0 (.q eI l)) 1 (.i cut)) 4 (.b false)) 5 (.pt 1 0)) 7 (.q eI (idsT (endL cut R)))) 8 (.i (j : Int))) 41 (.b (decide ((j : Int) < ((idsT (endL cut R)).length : Int))))) (updO noOb 1 (.live ⟨[.q eT (restL cut R)], 57, 1⟩)) (lu rfl (lu rfl (lu rfl (lu rfl (lu rfl (lu rfl (lu rfl ln))))))) rfl ?_
   refine awp_cond (decide ((j : Int) < ((idsT (endL cut R)).length : Int))) rfl rfl (fun hc3 => ?_) (fun hc3 => ?_)
   ·skip
    have hf7 := of_decide_eq_true hc3
    have hxj := hea j (by omega)
    refine awp_skip ?_
    refine awp_seq ?_
    refine awp_block ?_
    refine seqR ?_
    refine mG (.q eI (idsT (endL cut R))) ?_
    refine mG (.i (j : Int)) ?_
    refine opG rfl (aop_ixE 0 rfl rfl rfl ut28 sz3 rfl rfl (fun _ => rfl) rfl (by first | omega | (simp; done) | decide | (simp at *; omega)) ?_)
    refine opG rfl (aop_ld (av := .i ((idsT (endL cut R)).getD j 0)) rfl rfl rfl ag3 rfl rfl ?_)
    refine bG ((.bool (decide (((idsT (endL cut R)).getD j 0) < 0)))) ?_
    refine mG (.b (decide (((idsT (endL cut R)).getD j 0) < 0))) ?_
    refine aops_grp 8 57 (.b ((decide (((idsT (endL cut R)).getD j 0) < 0)) || (decide (((idsT (endL cut R)).getD j 0) ≥ (l.length : Int))))) ?_ ?_
    ·refine (Bool.eq_false_or_eq_true (decide (((idsT (endL cut R)).getD j 0) < 0))).elim (fun hg8 => ?_) (fun hg8 => ?_)
     ·skip
      have hf9 := of_decide_eq_true hg8
      refine nG hg8 ?_
      refine nG hg8 ?_
      refine nG hg8 ?_
      refine nG hg8 ?_
      refine nG hg8 ?_
      refine nG hg8 ?_
      refine nG hg8 ?_
      refine opG rfl (aop_pick (b := (decide (((idsT (endL cut R)).getD j 0) < 0))) (av := .b true) rfl rfl rfl rfl ((congrArg (fun b_ => cond b_ _ _) hg8).trans rfl) ?_)
      refine op0 ?_
      exact imp_env (lee_both 57 _ _ (by rw [hg8] <;> rfl) (lee_out 56 _ rfl (lee_out 55 _ rfl (lee_out 54 _ rfl (lee_out 53 _ rfl (lee_out 52 _ rfl (lee_out 51 _ rfl (lee_out 50 _ rfl (lee_same _)))))))))
     ·skip
      have hf10 := of_decide_eq_false hg8
      refine opY rfl rfl rfl (by show AV.v (.bool (decide (((idsT (endL cut R)).getD j 0) < 0))) = _; rw [hg8]) (aop_move (av := .q eI (idsT (endL cut R))) (.inl rfl) rfl rfl rfl ?_)
      refine opY rfl rfl rfl (by show AV.v (.bool (decide (((idsT (endL cut R)).getD j 0) < 0))) = _; rw [hg8]) (aop_move (av := .i (j : Int)) (.inl rfl) rfl rfl rfl ?_)
      refine opY rfl rfl rfl (by show AV.v (.bool (decide (((idsT (endL cut R)).getD j 0) < 0))) = _; rw [hg8]) (aop_ixE 0 rfl rfl rfl ut28 sz3 rfl rfl (fun _ => rfl) rfl (by first | omega | (simp; done) | decide | (simp at *; omega)) ?_)
      refine opY rfl rfl rfl (by show AV.v (.bool (decide (((idsT (endL cut R)).getD j 0) < 0))) = _; rw [hg8]) (aop_ld (av := .i ((idsT (endL cut R)).getD j 0)) rfl rfl rfl ag3 rfl rfl ?_)
      refine opY rfl rfl rfl (by show AV.v (.bool (decide (((idsT (endL cut R)).getD j 0) < 0))) = _; rw [hg8]) (aop_move (av := .q eI l) (.inl rfl) rfl rfl rfl ?_)
      refine opY rfl rfl rfl (by show AV.v (.bool (decide (((idsT (endL cut R)).getD j 0) < 0))) = _; rw [hg8]) (aop_len rfl rfl rfl rfl ut22 (len_ro rfl) ?_)
      refine opY rfl rfl rfl (by show AV.v (.bool (decide (((idsT (endL cut R)).getD j 0) < 0))) = _; rw [hg8]) (aop_binI (u := (.bool (decide (((idsT (endL cut R)).getD j 0) ≥ (l.length : Int))))) rfl rfl rfl rfl rfl trivial rfl ?_)
      refine opG rfl (aop_pick (b := (decide (((idsT (endL cut R)).getD j 0) < 0))) (av := .b (decide (((idsT (endL cut R)).getD j 0) ≥ (l.length : Int)))) rfl rfl rfl rfl ((congrArg (fun b_ => cond b_ _ _) hg8).trans rfl) ?_)
      refine op0 ?_
      exact imp_env (lee_both 57 _ _ (by rw [hg8] <;> rfl) (lee_out 56 _ rfl (lee_out 55 _ rfl (lee_out 54 _ rfl (lee_out 53 _ rfl (lee_out 52 _ rfl (lee_out 51 _ rfl (lee_out 50 _ rfl (lee_same _)))))))))
    refine mG (.b ((decide (((idsT (endL cut R)).getD j 0) < 0)) || (decide (((idsT (endL cut R)).getD j 0) ≥ (l.length : Int))))) ?_
    refine aops_grp 10 68 (.b (((decide (((idsT (endL cut R)).getD j 0) < 0)) || (decide (((idsT (endL cut R)).getD j 0) ≥ (l.length : Int)))) || (decide ((l.getD ((idsT (endL cut R)).getD j 0).toNat 0) > cut)))) ?_ ?_
    ·refine (Bool.eq_false_or_eq_true ((decide (((idsT (endL cut R)).getD j 0) < 0)) || (decide (((idsT (endL cut R)).getD j 0) ≥ (l.length : Int))))).elim (fun hg11 => ?_) (fun hg11 => ?_)
     ·skip
      refine nG hg11 ?_
      refine nG hg11 ?_
      refine nG hg11 ?_
      refine nG hg11 ?_
      refine nG hg11 ?_
      refine nG hg11 ?_
      refine nG hg11 ?_
      refine nG hg11 ?_
      refine nG hg11 ?_
      refine opG rfl (aop_pick (b := ((decide (((idsT (endL cut R)).getD j 0) < 0)) || (decide (((idsT (endL cut R)).getD j 0) ≥ (l.length : Int))))) (av := .b true) rfl rfl rfl rfl ((congrArg (fun b_ => cond b_ _ _) hg11).trans rfl) ?_)
      refine op0 ?_
      exact imp_env (lee_both 68 _ _ (by rw [hg11] <;> rfl) (lee_out 67 _ rfl (lee_out 66 _ rfl (lee_out 65 _ rfl (lee_out 64 _ rfl (lee_out 63 _ rfl (lee_out 62 _ rfl (lee_out 61 _ rfl (lee_out 60 _ rfl (lee_out 59 _ rfl (lee_same _)))))))))))
     ·skip
      obtain ⟨hf12a, hf12b⟩ := or_f hg11
      have hf13 := of_decide_eq_false hf12a
      have hf14 := of_decide_eq_false hf12b
      refine opY rfl rfl rfl (by show AV.v (.bool ((decide (((idsT (endL cut R)).getD j 0) < 0)) || (decide (((idsT (endL cut R)).getD j 0) ≥ (l.length : Int))))) = _; rw [hg11]) (aop_move (av := .q eI l) (.inl rfl) rfl rfl rfl ?_)
      refine opY rfl rfl rfl (by show AV.v (.bool ((decide (((idsT (endL cut R)).getD j 0) < 0)) || (decide (((idsT (endL cut R)).getD j 0) ≥ (l.length : Int))))) = _; rw [hg11]) (aop_move (av := .q eI (idsT (endL cut R))) (.inl rfl) rfl rfl rfl ?_)
      refine opY rfl rfl rfl (by show AV.v (.bool ((decide (((idsT (endL cut R)).getD j 0) < 0)) || (decide (((idsT (endL cut R)).getD j 0) ≥ (l.length : Int))))) = _; rw [hg11]) (aop_move (av := .i (j : Int)) (.inl rfl) rfl rfl rfl ?_)
      refine opY rfl rfl rfl (by show AV.v (.bool ((decide (((idsT (endL cut R)).getD j 0) < 0)) || (decide (((idsT (endL cut R)).getD j 0) ≥ (l.length : Int))))) = _; rw [hg11]) (aop_ixE 0 rfl rfl rfl ut28 sz3 rfl rfl (fun _ => rfl) rfl (by first | omega | (simp; done) | decide | (simp at *; omega)) ?_)
      refine opY rfl rfl rfl (by show AV.v (.bool ((decide (((idsT (endL cut R)).getD j 0) < 0)) || (decide (((idsT (endL cut R)).getD j 0) ≥ (l.length : Int))))) = _; rw [hg11]) (aop_ld (av := .i ((idsT (endL cut R)).getD j 0)) rfl rfl rfl ag3 rfl rfl ?_)
      refine opY rfl rfl rfl (by show AV.v (.bool ((decide (((idsT (endL cut R)).getD j 0) < 0)) || (decide (((idsT (endL cut R)).getD j 0) ≥ (l.length : Int))))) = _; rw [hg11]) (aop_ixI 0 rfl rfl rfl ut22 sz2 rfl rfl (fun _ => rfl) rfl (by omega) (by first | omega | (simp; done) | decide | (simp at *; omega)) ?_)
      refine opY rfl rfl rfl (by show AV.v (.bool ((decide (((idsT (endL cut R)).getD j 0) < 0)) || (decide (((idsT (endL cut R)).getD j 0) ≥ (l.length : Int))))) = _; rw [hg11]) (aop_ld (av := .i (l.getD ((idsT (endL cut R)).getD j 0).toNat 0)) rfl rfl rfl ag2 rfl rfl ?_)
      refine opY rfl rfl rfl (by show AV.v (.bool ((decide (((idsT (endL cut R)).getD j 0) < 0)) || (decide (((idsT (endL cut R)).getD j 0) ≥ (l.length : Int))))) = _; rw [hg11]) (aop_move (av := .i cut) (.inl rfl) rfl rfl rfl ?_)
      refine opY rfl rfl rfl (by show AV.v (.bool ((decide (((idsT (endL cut R)).getD j 0) < 0)) || (decide (((idsT (endL cut R)).getD j 0) ≥ (l.length : Int))))) = _; rw [hg11]) (aop_binI (u := (.bool (decide ((l.getD ((idsT (endL cut R)).getD j 0).toNat 0) > cut)))) rfl rfl rfl rfl rfl trivial rfl ?_)
      refine opG rfl (aop_pick (b := ((decide (((idsT (endL cut R)).getD j 0) < 0)) || (decide (((idsT (endL cut R)).getD j 0) ≥ (l.length : Int))))) (av := .b (decide ((l.getD ((idsT (endL cut R)).getD j 0).toNat 0) > cut))) rfl rfl rfl rfl ((congrArg (fun b_ => cond b_ _ _) hg11).trans rfl) ?_)
      refine op0 ?_
      exact imp_env (lee_both 68 _ _ (by rw [hg11] <;> rfl) (lee_out 67 _ rfl (lee_out 66 _ rfl (lee_out 65 _ rfl (lee_out 64 _ rfl (lee_out 63 _ rfl (lee_out 62 _ rfl (lee_out 61 _ rfl (lee_out 60 _ rfl (lee_out 59 _ rfl (lee_same _)))))))))))
    refine op0 ?_
    refine rs_ (upd (upd (upd (upd (upd (upd (upd none_ 0 (.q eI l)) 1 (.i cut)) 4 (.b false)) 5 (.pt 1 0)) 7 (.q eI (idsT (endL cut R)))) 8 (.i (j : Int))) 68 (.b (((decide (((idsT (endL cut R)).getD j 0) < 0)) || (decide (((idsT (endL cut R)).getD j 0) ≥ (l.length : Int)))) || (decide ((l.getD ((idsT (endL cut R)).getD j 0).toNat 0) > cut))))) (updO noOb 1 (.live ⟨[.q eT (restL cut R)], 57, 1⟩)) (lu rfl (lu rfl (lu rfl (lu rfl (lu rfl (lu rfl (lu rfl ln))))))) rfl ?_
    refine awp_cond (((decide (((idsT (endL cut R)).getD j 0) < 0)) || (decide (((idsT (endL cut R)).getD j 0) ≥ (l.length : Int)))) || (decide ((l.getD ((idsT (endL cut R)).getD j 0).toNat 0) > cut))) rfl rfl (fun hc4 => ?_) (fun hc4 => ?_)
    ·skip
     exfalso; simp only [Bool.or_eq_true, decide_eq_true_eq] at hc4; omega
    ·skip
     obtain ⟨hf15a, hf15b⟩ := or_f hc4
     obtain ⟨hf16a, hf16b⟩ := or_f hf15a
     have hf17 := of_decide_eq_false hf16a
     have hf18 := of_decide_eq_false hf16b
     have hf19 := of_decide_eq_false hf15b
     refine awp_skip ?_
     refine regR ?_
     refine mG (.i (j : Int)) ?_
     refine opG rfl (aop_binI (u := (.int .i64 ((j + 1 : Nat) : Int))) rfl rfl rfl rfl rfl trivial (addN (by omega)) ?_)
     refine mG (.i ((j + 1 : Nat) : Int)) ?_
     refine op0 ?_
     show _ ∧ _
     refine ⟨by omega, trivial, ?_⟩
     exact imp_ler [(1, 1)] (lerI 1 1 rfl rfl (sS rfl (sS rfl (sM rfl (sS rfl (sS rfl (sS rfl sr_none))))))) (keep_of rfl)
   ·skip
    have hf20 := of_decide_eq_false hc3
    refine awp_exit ?_
    refine seqR ?_
    refine mG (.pt 1 0) ?_
    refine opG rfl (callG_ false [1] [55] (t_Ended (restL cut R) 9223372036854775807 (by omega)) rfl rfl rfl rfl rfl bd12 (by decide) ⟨giv_no (o := ⟨[.q eT (restL cut R)], 57, 1⟩) rfl rfl, trivial⟩ ⟨(arg_own (.pt _ _ (by simp)) rfl), (arg_no (a := .i 9223372036854775807)), trivial⟩ rfl ⟨rfl, trivial⟩ (fun h => by cases h) rfl (place_cons (ost_no (cs := [.q eT (restL 9223372036854775807 (restL cut R))])) (place_cons (ost_no (cs := (enc eI (idsT (endL 9223372036854775807 (restL cut R)))))) place_nil)) ?_)
    refine mG (.sl 55 0 ((idsT (endL 9223372036854775807 (restL cut R))).length)) ?_
    refine op0 ?_
    refine awp_imp ⟨(upd (upd (upd (upd (upd (upd (upd (upd none_ 0 (.q eI l)) 1 (.i cut)) 4 (.b false)) 5 (.pt 1 0)) 7 (.q eI (idsT (endL cut R)))) 8 (.i (j : Int))) 9 (.q eI (idsT (endL 9223372036854775807 (restL cut R))))) 41 (.b (decide ((j : Int) < ((idsT (endL cut R)).length : Int))))), (updO noOb 1 (.live ⟨[.q eT (restL 9223372036854775807 (restL cut R))], 57, 1⟩))⟩ ?_ ?_
    ·skip
     refine (frz_ [1] [(1, ⟨[.q eT (restL 9223372036854775807 (restL cut R))], 57, 1⟩)] rfl (fun _ h => h) ⟨keep_cells (cs := [.q eT (restL 9223372036854775807 (restL cut R))]) (by simp) rfl rfl (frzs_cons (.inl rfl) frzs_nil), trivial⟩ (fz_same 41 (.b (decide ((j : Int) < ((idsT (endL cut R)).length : Int)))) rfl (fz_lend 9 (.q eI (idsT (endL 9223372036854775807 (restL cut R)))) (lend_s (id := 55) (n := (idsT (endL 9223372036854775807 (restL cut R))).length) (o := ⟨(enc eI (idsT (endL 9223372036854775807 (restL cut R)))), 3, 1⟩) rfl (enc_len (fun _ => rfl) (by first | rfl | (simp; done)))) (fz_same 8 (.i (j : Int)) rfl (fz_same 7 (.q eI (idsT (endL cut R))) rfl (fz_same 5 (.pt 1 0) rfl (fz_same 4 (.b false) rfl (fz_same 1 (.i cut) rfl (fz_same 0 (.q eI l) rfl fz_none))))))))).trans ?_
     exact imp_ler [(1, 1)] (lerI 1 1 (o := ⟨[.q eT (restL 9223372036854775807 (restL cut R))], 57, 1⟩) rfl rfl (sS rfl (sS rfl (sS rfl (sS rfl (sM rfl (sS rfl (sS rfl (sS rfl sr_none))))))))) (keep_of rfl)
    refine seqR ?_
    refine mG (.q eI (idsT (endL cut R))) ?_
    refine opG rfl (aop_appNil 56 rfl rfl rfl rfl ut28 in3 rfl (by decide) rfl rfl (enc_len (fun _ => rfl) rfl) (by omega) (by omega) rfl ?_)
    refine mG (.q eI (idsT (endL 9223372036854775807 (restL cut R)))) ?_
    refine opG rfl (aop_appE (f := eI) (l := idsT (endL cut R)) (l2 := idsT (endL 9223372036854775807 (restL cut R))) 57 rfl rfl rfl rfl ut28 in3 rfl (by decide) rfl rfl rfl rfl rfl rfl (fun _ => rfl) rfl rfl rfl (by first | omega | (simp; done) | decide | (simp at *; omega)) (by first | omega | (simp; done) | decide | (simp at *; omega)) rfl ?_)
    refine opG rfl (callO_ 58 (r01_Rise ((idsT (endL cut R)) ++ (idsT (endL 9223372036854775807 (restL cut R)))) (by first | omega | (simp; done) | decide | (simp at *; omega))) rfl rfl rfl rfl rfl bd13 (lends_cons (lend_s (id := 57) (n := ((idsT (endL cut R)) ++ (idsT (endL 9223372036854775807 (restL cut R)))).length) (o := ⟨(enc eI ((idsT (endL cut R)) ++ (idsT (endL 9223372036854775807 (restL cut R))))), 3, 1⟩) rfl (enc_len (fun _ => rfl) (by first | rfl | (simp; done)))) lends_nil) (.sl _ _ _ trivial) (news1 news0) (free1 rfl) rfl rfl ?_)
    refine mG (.sl 58 0 ((riseL ((idsT (endL cut R)) ++ (idsT (endL 9223372036854775807 (restL cut R))))).length)) ?_
    refine op0 ?_
    refine rs_ (upd (upd (upd (upd (upd (upd (upd none_ 0 (.q eI l)) 1 (.i cut)) 4 (.b false)) 5 (.pt 1 0)) 7 (.q eI (idsT (endL cut R)))) 9 (.q eI (idsT (endL 9223372036854775807 (restL cut R))))) 10 (.sl 58 0 ((riseL ((idsT (endL cut R)) ++ (idsT (endL 9223372036854775807 (restL cut R))))).length))) (updO (updO (updO (updO (updO noOb 1 (.live ⟨[.q eT (restL 9223372036854775807 (restL cut R))], 57, 1⟩)) 56 (.live ⟨(enc eI (idsT (endL cut R))), 3, 1⟩)) 56 .dead) 57 (.live ⟨(enc eI ((idsT (endL cut R)) ++ (idsT (endL 9223372036854775807 (restL cut R))))), 3, 1⟩)) 58 (.live ⟨(enc eI (riseL ((idsT (endL cut R)) ++ (idsT (endL 9223372036854775807 (restL cut R)))))), 3, 1⟩)) (lu rfl (lu rfl (lu rfl (lu rfl (lu rfl (lu rfl (lu rfl ln))))))) rfl ?_
    refine awp_seq ?_
    refine awp_imp ⟨(upd (upd (upd (upd (upd (upd (upd none_ 0 (.q eI l)) 1 (.i cut)) 4 (.b false)) 5 (.pt 1 0)) 7 (.q eI (idsT (endL cut R)))) 9 (.q eI (idsT (endL 9223372036854775807 (restL cut R))))) 10 (.q eI (riseL ((idsT (endL cut R)) ++ (idsT (endL 9223372036854775807 (restL cut R))))))), (updO noOb 1 (.live ⟨[.q eT (restL 9223372036854775807 (restL cut R))], 57, 1⟩))⟩ ?_ ?_
    ·skip
     refine (frz_ [1] [(1, ⟨[.q eT (restL 9223372036854775807 (restL cut R))], 57, 1⟩)] rfl (fun _ h => h) ⟨keep_cells (cs := [.q eT (restL 9223372036854775807 (restL cut R))]) (by simp) rfl rfl (frzs_cons (.inl rfl) frzs_nil), trivial⟩ (fz_lend 10 (.q eI (riseL ((idsT (endL cut R)) ++ (idsT (endL 9223372036854775807 (restL cut R)))))) (lend_s (id := 58) (n := (riseL ((idsT (endL cut R)) ++ (idsT (endL 9223372036854775807 (restL cut R))))).length) (o := ⟨(enc eI (riseL ((idsT (endL cut R)) ++ (idsT (endL 9223372036854775807 (restL cut R)))))), 3, 1⟩) rfl (enc_len (fun _ => rfl) (by first | rfl | (simp; done)))) (fz_same 9 (.q eI (idsT (endL 9223372036854775807 (restL cut R)))) rfl (fz_same 7 (.q eI (idsT (endL cut R))) rfl (fz_same 5 (.pt 1 0) rfl (fz_same 4 (.b false) rfl (fz_same 1 (.i cut) rfl (fz_same 0 (.q eI l) rfl fz_none)))))))).trans ?_
     exact imp_ler [(1, 1)] (lerI 1 1 (o := ⟨[.q eT (restL 9223372036854775807 (restL cut R))], 57, 1⟩) rfl rfl (sS rfl (sS rfl (sS rfl (sM rfl (sS rfl (sS rfl (sS rfl sr_none)))))))) (keep_of rfl)
    refine seqR ?_
    refine mG (.i 0) ?_
    refine op0 ?_
    refine awp_block ?_
    refine awp_countI (fun m => ⟨(upd (upd (upd (upd (upd (upd (upd (upd none_ 0 (.q eI l)) 1 (.i cut)) 4 (.b false)) 5 (.pt 1 0)) 7 (.q eI (idsT (endL cut R)))) 9 (.q eI (idsT (endL 9223372036854775807 (restL cut R))))) 10 (.q eI (riseL ((idsT (endL cut R)) ++ (idsT (endL 9223372036854775807 (restL cut R))))))) 11 (.i (m : Int))), (updO noOb 1 (.live ⟨[.q eT (restL 9223372036854775807 (restL cut R))], 57, 1⟩))⟩) (fun m => True) ((idsT (endL 9223372036854775807 (restL cut R))).length) ?_ trivial (fun m hk_m hinv => ?_)
    ·skip
     exact imp_ler [(1, 1)] (lerI 1 1 rfl rfl (sS rfl (sS rfl (sS rfl (sS rfl (sM rfl (sS rfl (sS rfl (sS rfl sr_none))))))))) (keep_of rfl)
    refine awp_seq ?_
    refine seqR ?_
    refine mG (.i (m : Int)) ?_
    refine mG (.q eI (idsT (endL 9223372036854775807 (restL cut R)))) ?_
    refine opG rfl (aop_len rfl rfl rfl rfl ut28 (len_ro rfl) ?_)
    refine bG ((.bool (decide ((m : Int) < ((idsT (endL 9223372036854775807 (restL cut R))).length : Int))))) ?_
    refine op0 ?_
    refine rs_ (upd (upd (upd (upd (upd (upd (upd (upd (upd none_ 0 (.q eI l)) 1 (.i cut)) 4 (.b false)) 5 (.pt 1 0)) 7 (.q eI (idsT (endL cut R)))) 9 (.q eI (idsT (endL 9223372036854775807 (restL cut R))))) 10 (.q eI (riseL ((idsT (endL cut R)) ++ (idsT (endL 9223372036854775807 (restL cut R))))))) 11 (.i (m : Int))) 79 (.b (decide ((m : Int) < ((idsT (endL 9223372036854775807 (restL cut R))).length : Int))))) (updO noOb 1 (.live ⟨[.q eT (restL 9223372036854775807 (restL cut R))], 57, 1⟩)) (lu rfl (lu rfl (lu rfl (lu rfl (lu rfl (lu rfl (lu rfl (lu rfl (lu rfl ln))))))))) rfl ?_
    refine awp_cond (decide ((m : Int) < ((idsT (endL 9223372036854775807 (restL cut R))).length : Int))) rfl rfl (fun hc5 => ?_) (fun hc5 => ?_)
    ·skip
     have hf21 := of_decide_eq_true hc5
     have hxm := heb m (by omega)
     have hxm1 := ends_c hen m (by omega)
     refine awp_skip ?_
     refine awp_seq ?_
     refine awp_block ?_
     refine awp_seq ?_
     refine (Bool.eq_false_or_eq_true (decide (((idsT (endL 9223372036854775807 (restL cut R))).getD m 0) < 0))).elim (fun hg22 => ?_) (fun hg22 => ?_)
     ·skip
      have hf23 := of_decide_eq_true hg22
      exfalso; omega
     ·skip
      have hf24 := of_decide_eq_false hg22
      refine (Bool.eq_false_or_eq_true (decide (((idsT (endL 9223372036854775807 (restL cut R))).getD m 0) ≥ (l.length : Int)))).elim (fun hg25 => ?_) (fun hg25 => ?_)
      ·skip
       have hf26 := of_decide_eq_true hg25
       exfalso; omega
      ·skip
       have hf27 := of_decide_eq_false hg25
       refine (Bool.eq_false_or_eq_true (decide ((l.getD ((idsT (endL 9223372036854775807 (restL cut R))).getD m 0).toNat 0) ≤ cut))).elim (fun hg28 => ?_) (fun hg28 => ?_)
       ·skip
        have hf29 := of_decide_eq_true hg28
        exfalso; omega
       ·skip
        have hf30 := of_decide_eq_false hg28
        refine (Bool.eq_false_or_eq_true (decide ((m : Int) > 0))).elim (fun hg31 => ?_) (fun hg31 => ?_)
        ·skip
         have hf32 := of_decide_eq_true hg31
         refine awp_draw (m := 47) [(128, .b (decide ((l.getD ((idsT (endL 9223372036854775807 (restL cut R))).getD ((m : Int) - 1).toNat 0).toNat 0) > (l.getD ((idsT (endL 9223372036854775807 (restL cut R))).getD m 0).toNat 0)))), (127, .b (decide ((l.getD ((idsT (endL 9223372036854775807 (restL cut R))).getD ((m : Int) - 1).toNat 0).toNat 0) > (l.getD ((idsT (endL 9223372036854775807 (restL cut R))).getD m 0).toNat 0)))), (126, .b (decide ((l.getD ((idsT (endL 9223372036854775807 (restL cut R))).getD ((m : Int) - 1).toNat 0).toNat 0) > (l.getD ((idsT (endL 9223372036854775807 (restL cut R))).getD m 0).toNat 0)))), (125, .i (l.getD ((idsT (endL 9223372036854775807 (restL cut R))).getD m 0).toNat 0)), (124, .rp (([.i (l.getD ((idsT (endL 9223372036854775807 (restL cut R))).getD m 0).toNat 0)] : List AV) ++ ((enc eI l).drop ((((idsT (endL 9223372036854775807 (restL cut R))).getD m 0).toNat + 1) * 1)))), (123, .i ((idsT (endL 9223372036854775807 (restL cut R))).getD m 0)), (122, .rp (([.i ((idsT (endL 9223372036854775807 (restL cut R))).getD m 0)] : List AV) ++ ((enc eI (idsT (endL 9223372036854775807 (restL cut R)))).drop ((m + 1) * 1)))), (121, .i (m : Int)), (120, .q eI (idsT (endL 9223372036854775807 (restL cut R)))), (119, .q eI l), (118, .i (l.getD ((idsT (endL 9223372036854775807 (restL cut R))).getD ((m : Int) - 1).toNat 0).toNat 0)), (117, .rp (([.i (l.getD ((idsT (endL 9223372036854775807 (restL cut R))).getD ((m : Int) - 1).toNat 0).toNat 0)] : List AV) ++ ((enc eI l).drop ((((idsT (endL 9223372036854775807 (restL cut R))).getD ((m : Int) - 1).toNat 0).toNat + 1) * 1)))), (116, .i ((idsT (endL 9223372036854775807 (restL cut R))).getD ((m : Int) - 1).toNat 0)), (115, .rp (([.i ((idsT (endL 9223372036854775807 (restL cut R))).getD ((m : Int) - 1).toNat 0)] : List AV) ++ ((enc eI (idsT (endL 9223372036854775807 (restL cut R)))).drop ((((m : Int) - 1).toNat + 1) * 1)))), (114, .i ((m : Int) - 1)), (113, .i (m : Int)), (112, .q eI (idsT (endL 9223372036854775807 (restL cut R)))), (111, .q eI l), (110, .b (decide ((m : Int) > 0))), (109, .b (decide ((m : Int) > 0))), (108, .i (m : Int)), (107, .b (decide ((l.getD ((idsT (endL 9223372036854775807 (restL cut R))).getD m 0).toNat 0) ≤ cut))), (106, .b (decide ((l.getD ((idsT (endL 9223372036854775807 (restL cut R))).getD m 0).toNat 0) ≤ cut))), (105, .b (decide ((l.getD ((idsT (endL 9223372036854775807 (restL cut R))).getD m 0).toNat 0) ≤ cut))), (104, .i cut), (103, .i (l.getD ((idsT (endL 9223372036854775807 (restL cut R))).getD m 0).toNat 0)), (102, .rp (([.i (l.getD ((idsT (endL 9223372036854775807 (restL cut R))).getD m 0).toNat 0)] : List AV) ++ ((enc eI l).drop ((((idsT (endL 9223372036854775807 (restL cut R))).getD m 0).toNat + 1) * 1)))), (101, .i ((idsT (endL 9223372036854775807 (restL cut R))).getD m 0)), (100, .rp (([.i ((idsT (endL 9223372036854775807 (restL cut R))).getD m 0)] : List AV) ++ ((enc eI (idsT (endL 9223372036854775807 (restL cut R)))).drop ((m + 1) * 1)))), (99, .i (m : Int)), (98, .q eI (idsT (endL 9223372036854775807 (restL cut R)))), (97, .q eI l), (96, .b (decide (((idsT (endL 9223372036854775807 (restL cut R))).getD m 0) ≥ (l.length : Int)))), (95, .b (decide (((idsT (endL 9223372036854775807 (restL cut R))).getD m 0) ≥ (l.length : Int)))), (94, .b (decide (((idsT (endL 9223372036854775807 (restL cut R))).getD m 0) ≥ (l.length : Int)))), (93, .i (l.length : Int)), (92, .q eI l), (91, .i ((idsT (endL 9223372036854775807 (restL cut R))).getD m 0)), (90, .rp (([.i ((idsT (endL 9223372036854775807 (restL cut R))).getD m 0)] : List AV) ++ ((enc eI (idsT (endL 9223372036854775807 (restL cut R)))).drop ((m + 1) * 1)))), (89, .i (m : Int)), (88, .q eI (idsT (endL 9223372036854775807 (restL cut R)))), (87, .b (decide (((idsT (endL 9223372036854775807 (restL cut R))).getD m 0) < 0))), (86, .b (decide (((idsT (endL 9223372036854775807 (restL cut R))).getD m 0) < 0))), (85, .i ((idsT (endL 9223372036854775807 (restL cut R))).getD m 0)), (84, .rp (([.i ((idsT (endL 9223372036854775807 (restL cut R))).getD m 0)] : List AV) ++ ((enc eI (idsT (endL 9223372036854775807 (restL cut R)))).drop ((m + 1) * 1)))), (83, .i (m : Int)), (82, .q eI (idsT (endL 9223372036854775807 (restL cut R))))] mixed (by kernel_rfl) ?_ ?_
         ·refine ⟨?_, ?_, ?_, ?_, ?_, ?_, ?_, ?_, ?_, ?_, ?_, ?_, ?_, ?_, ?_, ?_, ?_, ?_, ?_, ?_, ?_, ?_, ?_, ?_, ?_, ?_, ?_, ?_, ?_, ?_, ?_, ?_, ?_, ?_, ?_, ?_, ?_, ?_, ?_, ?_, ?_, ?_, ?_, ?_, ?_, ?_, ?_, trivial⟩
          ·exact ⟨82, rfl, blt_lt rfl, fun st hob hE => aop_move (av := .q eI (idsT (endL 9223372036854775807 (restL cut R)))) (.inl rfl) rfl rfl (hE 9 rfl) (by rw [hob]; rfl)⟩
          ·exact ⟨83, rfl, blt_lt rfl, fun st hob hE => aop_move (av := .i (m : Int)) (.inl rfl) rfl rfl (hE 11 rfl) (by rw [hob]; rfl)⟩
          ·exact ⟨84, rfl, blt_lt rfl, fun st hob hE => aop_ixE 0 rfl rfl rfl ut28 sz3 (hE 82 rfl) (hE 83 rfl) (fun _ => rfl) rfl (by first | omega | (simp; done) | decide | (simp at *; omega)) (by rw [hob]; rfl)⟩
          ·exact ⟨85, rfl, blt_lt rfl, fun st hob hE => aop_ld (av := .i ((idsT (endL 9223372036854775807 (restL cut R))).getD m 0)) rfl rfl rfl ag3 (hE 84 rfl) rfl (by rw [hob]; rfl)⟩
          ·exact ⟨86, rfl, blt_lt rfl, fun st hob hE => aop_binI (u := (.bool (decide (((idsT (endL 9223372036854775807 (restL cut R))).getD m 0) < 0)))) rfl rfl rfl (hE 85 rfl) rfl trivial rfl (by rw [hob]; rfl)⟩
          ·exact ⟨87, rfl, blt_lt rfl, fun st hob hE => aop_move (av := .b (decide (((idsT (endL 9223372036854775807 (restL cut R))).getD m 0) < 0))) (.inl rfl) rfl rfl (hE 86 rfl) (by rw [hob]; rfl)⟩
          ·exact gY0 hg22 rfl rfl (blt_lt rfl) rfl ⟨88, rfl, blt_lt rfl, fun st hob hE => aop_move (av := .q eI (idsT (endL 9223372036854775807 (restL cut R)))) (.inl rfl) rfl rfl (hE 9 rfl) (by rw [hob]; rfl)⟩
          ·exact gY0 hg22 rfl rfl (blt_lt rfl) rfl ⟨89, rfl, blt_lt rfl, fun st hob hE => aop_move (av := .i (m : Int)) (.inl rfl) rfl rfl (hE 11 rfl) (by rw [hob]; rfl)⟩
          ·exact gY0 hg22 rfl rfl (blt_lt rfl) rfl ⟨90, rfl, blt_lt rfl, fun st hob hE => aop_ixE 0 rfl rfl rfl ut28 sz3 (hE 88 rfl) (hE 89 rfl) (fun _ => rfl) rfl (by first | omega | (simp; done) | decide | (simp at *; omega)) (by rw [hob]; rfl)⟩
          ·exact gY0 hg22 rfl rfl (blt_lt rfl) rfl ⟨91, rfl, blt_lt rfl, fun st hob hE => aop_ld (av := .i ((idsT (endL 9223372036854775807 (restL cut R))).getD m 0)) rfl rfl rfl ag3 (hE 90 rfl) rfl (by rw [hob]; rfl)⟩
          ·exact gY0 hg22 rfl rfl (blt_lt rfl) rfl ⟨92, rfl, blt_lt rfl, fun st hob hE => aop_move (av := .q eI l) (.inl rfl) rfl rfl (hE 0 rfl) (by rw [hob]; rfl)⟩
          ·exact gY0 hg22 rfl rfl (blt_lt rfl) rfl ⟨93, rfl, blt_lt rfl, fun st hob hE => aop_len rfl rfl rfl rfl ut22 (len_ro (hE 92 rfl)) (by rw [hob]; rfl)⟩
          ·exact gY0 hg22 rfl rfl (blt_lt rfl) rfl ⟨94, rfl, blt_lt rfl, fun st hob hE => aop_binI (u := (.bool (decide (((idsT (endL 9223372036854775807 (restL cut R))).getD m 0) ≥ (l.length : Int))))) rfl rfl rfl (hE 91 rfl) (hE 93 rfl) trivial rfl (by rw [hob]; rfl)⟩
          ·exact ⟨95, rfl, blt_lt rfl, fun st hob hE => aop_pick (b := (decide (((idsT (endL 9223372036854775807 (restL cut R))).getD m 0) < 0))) (av := .b (decide (((idsT (endL 9223372036854775807 (restL cut R))).getD m 0) ≥ (l.length : Int)))) rfl rfl rfl (hE 87 rfl) (by rw [hg22]; exact hE 94 rfl) (by rw [hob]; rfl)⟩
          ·exact ⟨96, rfl, blt_lt rfl, fun st hob hE => aop_move (av := .b (decide (((idsT (endL 9223372036854775807 (restL cut R))).getD m 0) ≥ (l.length : Int)))) (.inl rfl) rfl rfl (hE 95 rfl) (by rw [hob]; rfl)⟩
          ·exact gY0 hg25 rfl rfl (blt_lt rfl) rfl ⟨97, rfl, blt_lt rfl, fun st hob hE => aop_move (av := .q eI l) (.inl rfl) rfl rfl (hE 0 rfl) (by rw [hob]; rfl)⟩
          ·exact gY0 hg25 rfl rfl (blt_lt rfl) rfl ⟨98, rfl, blt_lt rfl, fun st hob hE => aop_move (av := .q eI (idsT (endL 9223372036854775807 (restL cut R)))) (.inl rfl) rfl rfl (hE 9 rfl) (by rw [hob]; rfl)⟩
          ·exact gY0 hg25 rfl rfl (blt_lt rfl) rfl ⟨99, rfl, blt_lt rfl, fun st hob hE => aop_move (av := .i (m : Int)) (.inl rfl) rfl rfl (hE 11 rfl) (by rw [hob]; rfl)⟩
          ·exact gY0 hg25 rfl rfl (blt_lt rfl) rfl ⟨100, rfl, blt_lt rfl, fun st hob hE => aop_ixE 0 rfl rfl rfl ut28 sz3 (hE 98 rfl) (hE 99 rfl) (fun _ => rfl) rfl (by first | omega | (simp; done) | decide | (simp at *; omega)) (by rw [hob]; rfl)⟩
          ·exact gY0 hg25 rfl rfl (blt_lt rfl) rfl ⟨101, rfl, blt_lt rfl, fun st hob hE => aop_ld (av := .i ((idsT (endL 9223372036854775807 (restL cut R))).getD m 0)) rfl rfl rfl ag3 (hE 100 rfl) rfl (by rw [hob]; rfl)⟩
          ·exact gY0 hg25 rfl rfl (blt_lt rfl) rfl ⟨102, rfl, blt_lt rfl, fun st hob hE => aop_ixI 0 rfl rfl rfl ut22 sz2 (hE 97 rfl) (hE 101 rfl) (fun _ => rfl) rfl (by omega) (by first | omega | (simp; done) | decide | (simp at *; omega)) (by rw [hob]; rfl)⟩
          ·exact gY0 hg25 rfl rfl (blt_lt rfl) rfl ⟨103, rfl, blt_lt rfl, fun st hob hE => aop_ld (av := .i (l.getD ((idsT (endL 9223372036854775807 (restL cut R))).getD m 0).toNat 0)) rfl rfl rfl ag2 (hE 102 rfl) rfl (by rw [hob]; rfl)⟩
          ·exact gY0 hg25 rfl rfl (blt_lt rfl) rfl ⟨104, rfl, blt_lt rfl, fun st hob hE => aop_move (av := .i cut) (.inl rfl) rfl rfl (hE 1 rfl) (by rw [hob]; rfl)⟩
          ·exact gY0 hg25 rfl rfl (blt_lt rfl) rfl ⟨105, rfl, blt_lt rfl, fun st hob hE => aop_binI (u := (.bool (decide ((l.getD ((idsT (endL 9223372036854775807 (restL cut R))).getD m 0).toNat 0) ≤ cut)))) rfl rfl rfl (hE 103 rfl) (hE 104 rfl) trivial rfl (by rw [hob]; rfl)⟩
          ·exact ⟨106, rfl, blt_lt rfl, fun st hob hE => aop_pick (b := (decide (((idsT (endL 9223372036854775807 (restL cut R))).getD m 0) ≥ (l.length : Int)))) (av := .b (decide ((l.getD ((idsT (endL 9223372036854775807 (restL cut R))).getD m 0).toNat 0) ≤ cut))) rfl rfl rfl (hE 96 rfl) (by rw [hg25]; exact hE 105 rfl) (by rw [hob]; rfl)⟩
          ·exact ⟨107, rfl, blt_lt rfl, fun st hob hE => aop_move (av := .b (decide ((l.getD ((idsT (endL 9223372036854775807 (restL cut R))).getD m 0).toNat 0) ≤ cut))) (.inl rfl) rfl rfl (hE 106 rfl) (by rw [hob]; rfl)⟩
          ·exact gY0 hg28 rfl rfl (blt_lt rfl) rfl ⟨108, rfl, blt_lt rfl, fun st hob hE => aop_move (av := .i (m : Int)) (.inl rfl) rfl rfl (hE 11 rfl) (by rw [hob]; rfl)⟩
          ·exact gY0 hg28 rfl rfl (blt_lt rfl) rfl ⟨109, rfl, blt_lt rfl, fun st hob hE => aop_binI (u := (.bool (decide ((m : Int) > 0)))) rfl rfl rfl (hE 108 rfl) rfl trivial rfl (by rw [hob]; rfl)⟩
          ·exact gY0 hg28 rfl rfl (blt_lt rfl) rfl ⟨110, rfl, blt_lt rfl, fun st hob hE => aop_move (av := .b (decide ((m : Int) > 0))) (.inl rfl) rfl rfl (hE 109 rfl) (by rw [hob]; rfl)⟩
          ·exact gY1 hg31 rfl rfl (blt_lt rfl) rfl ⟨111, rfl, blt_lt rfl, fun st hob hE => aop_move (av := .q eI l) (.inl rfl) rfl rfl (hE 0 rfl) (by rw [hob]; rfl)⟩
          ·exact gY1 hg31 rfl rfl (blt_lt rfl) rfl ⟨112, rfl, blt_lt rfl, fun st hob hE => aop_move (av := .q eI (idsT (endL 9223372036854775807 (restL cut R)))) (.inl rfl) rfl rfl (hE 9 rfl) (by rw [hob]; rfl)⟩
          ·exact gY1 hg31 rfl rfl (blt_lt rfl) rfl ⟨113, rfl, blt_lt rfl, fun st hob hE => aop_move (av := .i (m : Int)) (.inl rfl) rfl rfl (hE 11 rfl) (by rw [hob]; rfl)⟩
          ·exact gY1 hg31 rfl rfl (blt_lt rfl) rfl ⟨114, rfl, blt_lt rfl, fun st hob hE => aop_binI (u := (.int .i64 ((m : Int) - 1))) rfl rfl rfl (hE 113 rfl) rfl trivial (subI (by omega)) (by rw [hob]; rfl)⟩
          ·exact gY1 hg31 rfl rfl (blt_lt rfl) rfl ⟨115, rfl, blt_lt rfl, fun st hob hE => aop_ixI 0 rfl rfl rfl ut28 sz3 (hE 112 rfl) (hE 114 rfl) (fun _ => rfl) rfl (by omega) (by first | omega | (simp; done) | decide | (simp at *; omega)) (by rw [hob]; rfl)⟩
          ·exact gY1 hg31 rfl rfl (blt_lt rfl) rfl ⟨116, rfl, blt_lt rfl, fun st hob hE => aop_ld (av := .i ((idsT (endL 9223372036854775807 (restL cut R))).getD ((m : Int) - 1).toNat 0)) rfl rfl rfl ag3 (hE 115 rfl) rfl (by rw [hob]; rfl)⟩
          ·exact gY1 hg31 rfl rfl (blt_lt rfl) rfl ⟨117, rfl, blt_lt rfl, fun st hob hE => aop_ixI 0 rfl rfl rfl ut22 sz2 (hE 111 rfl) (hE 116 rfl) (fun _ => rfl) rfl (by omega) (by first | omega | (simp; done) | decide | (simp at *; omega)) (by rw [hob]; rfl)⟩
          ·exact gY1 hg31 rfl rfl (blt_lt rfl) rfl ⟨118, rfl, blt_lt rfl, fun st hob hE => aop_ld (av := .i (l.getD ((idsT (endL 9223372036854775807 (restL cut R))).getD ((m : Int) - 1).toNat 0).toNat 0)) rfl rfl rfl ag2 (hE 117 rfl) rfl (by rw [hob]; rfl)⟩
          ·exact gY1 hg31 rfl rfl (blt_lt rfl) rfl ⟨119, rfl, blt_lt rfl, fun st hob hE => aop_move (av := .q eI l) (.inl rfl) rfl rfl (hE 0 rfl) (by rw [hob]; rfl)⟩
          ·exact gY1 hg31 rfl rfl (blt_lt rfl) rfl ⟨120, rfl, blt_lt rfl, fun st hob hE => aop_move (av := .q eI (idsT (endL 9223372036854775807 (restL cut R)))) (.inl rfl) rfl rfl (hE 9 rfl) (by rw [hob]; rfl)⟩
          ·exact gY1 hg31 rfl rfl (blt_lt rfl) rfl ⟨121, rfl, blt_lt rfl, fun st hob hE => aop_move (av := .i (m : Int)) (.inl rfl) rfl rfl (hE 11 rfl) (by rw [hob]; rfl)⟩
          ·exact gY1 hg31 rfl rfl (blt_lt rfl) rfl ⟨122, rfl, blt_lt rfl, fun st hob hE => aop_ixE 0 rfl rfl rfl ut28 sz3 (hE 120 rfl) (hE 121 rfl) (fun _ => rfl) rfl (by first | omega | (simp; done) | decide | (simp at *; omega)) (by rw [hob]; rfl)⟩
          ·exact gY1 hg31 rfl rfl (blt_lt rfl) rfl ⟨123, rfl, blt_lt rfl, fun st hob hE => aop_ld (av := .i ((idsT (endL 9223372036854775807 (restL cut R))).getD m 0)) rfl rfl rfl ag3 (hE 122 rfl) rfl (by rw [hob]; rfl)⟩
          ·exact gY1 hg31 rfl rfl (blt_lt rfl) rfl ⟨124, rfl, blt_lt rfl, fun st hob hE => aop_ixI 0 rfl rfl rfl ut22 sz2 (hE 119 rfl) (hE 123 rfl) (fun _ => rfl) rfl (by omega) (by first | omega | (simp; done) | decide | (simp at *; omega)) (by rw [hob]; rfl)⟩
          ·exact gY1 hg31 rfl rfl (blt_lt rfl) rfl ⟨125, rfl, blt_lt rfl, fun st hob hE => aop_ld (av := .i (l.getD ((idsT (endL 9223372036854775807 (restL cut R))).getD m 0).toNat 0)) rfl rfl rfl ag2 (hE 124 rfl) rfl (by rw [hob]; rfl)⟩
          ·exact gY1 hg31 rfl rfl (blt_lt rfl) rfl ⟨126, rfl, blt_lt rfl, fun st hob hE => aop_binI (u := (.bool (decide ((l.getD ((idsT (endL 9223372036854775807 (restL cut R))).getD ((m : Int) - 1).toNat 0).toNat 0) > (l.getD ((idsT (endL 9223372036854775807 (restL cut R))).getD m 0).toNat 0))))) rfl rfl rfl (hE 118 rfl) (hE 125 rfl) trivial rfl (by rw [hob]; rfl)⟩
          ·exact gY0 hg28 rfl rfl (blt_lt rfl) rfl ⟨127, rfl, blt_lt rfl, fun st hob hE => aop_pick (b := (decide ((m : Int) > 0))) (av := .b (decide ((l.getD ((idsT (endL 9223372036854775807 (restL cut R))).getD ((m : Int) - 1).toNat 0).toNat 0) > (l.getD ((idsT (endL 9223372036854775807 (restL cut R))).getD m 0).toNat 0)))) rfl rfl rfl (hE 110 rfl) (by rw [hg31]; exact hE 126 rfl) (by rw [hob]; rfl)⟩
          ·exact ⟨128, rfl, blt_lt rfl, fun st hob hE => aop_pick (b := (decide ((l.getD ((idsT (endL 9223372036854775807 (restL cut R))).getD m 0).toNat 0) ≤ cut))) (av := .b (decide ((l.getD ((idsT (endL 9223372036854775807 (restL cut R))).getD ((m : Int) - 1).toNat 0).toNat 0) > (l.getD ((idsT (endL 9223372036854775807 (restL cut R))).getD m 0).toNat 0)))) rfl rfl rfl (hE 107 rfl) (by rw [hg28]; exact hE 127 rfl) (by rw [hob]; rfl)⟩
         refine op0 ?_
         refine awp_cond (decide ((l.getD ((idsT (endL 9223372036854775807 (restL cut R))).getD ((m : Int) - 1).toNat 0).toNat 0) > (l.getD ((idsT (endL 9223372036854775807 (restL cut R))).getD m 0).toNat 0))) rfl rfl (fun hc6 => ?_) (fun hc6 => ?_)
         ·skip
          have hf33 := of_decide_eq_true hc6
          exfalso; simp only [Bool.or_eq_true, Bool.and_eq_true, decide_eq_true_eq] at hc6; omega
         ·skip
          have hf34 := of_decide_eq_false hc6
          refine awp_skip ?_
          refine regR ?_
          refine mG (.i (m : Int)) ?_
          refine opG rfl (aop_binI (u := (.int .i64 ((m + 1 : Nat) : Int))) rfl rfl rfl rfl rfl trivial (addN (by omega)) ?_)
          refine mG (.i ((m + 1 : Nat) : Int)) ?_
          refine op0 ?_
          show _ ∧ _
          refine ⟨by omega, trivial, ?_⟩
          exact imp_ler [(1, 1)] (lerI 1 1 rfl rfl (sS rfl (sS rfl (sS rfl (sS rfl (sM rfl (sS rfl (sS rfl (sS rfl sr_none))))))))) (keep_of rfl)
        ·skip
         have hf35 := of_decide_eq_false hg31
         refine awp_draw (m := 47) [(128, .b false), (127, .b false), (126, .v undef), (125, .v undef), (124, .v undef), (123, .v undef), (122, .v undef), (121, .v undef), (120, .v undef), (119, .v undef), (118, .v undef), (117, .v undef), (116, .v undef), (115, .v undef), (114, .v undef), (113, .v undef), (112, .v undef), (111, .v undef), (110, .b (decide ((m : Int) > 0))), (109, .b (decide ((m : Int) > 0))), (108, .i (m : Int)), (107, .b (decide ((l.getD ((idsT (endL 9223372036854775807 (restL cut R))).getD m 0).toNat 0) ≤ cut))), (106, .b (decide ((l.getD ((idsT (endL 9223372036854775807 (restL cut R))).getD m 0).toNat 0) ≤ cut))), (105, .b (decide ((l.getD ((idsT (endL 9223372036854775807 (restL cut R))).getD m 0).toNat 0) ≤ cut))), (104, .i cut), (103, .i (l.getD ((idsT (endL 9223372036854775807 (restL cut R))).getD m 0).toNat 0)), (102, .rp (([.i (l.getD ((idsT (endL 9223372036854775807 (restL cut R))).getD m 0).toNat 0)] : List AV) ++ ((enc eI l).drop ((((idsT (endL 9223372036854775807 (restL cut R))).getD m 0).toNat + 1) * 1)))), (101, .i ((idsT (endL 9223372036854775807 (restL cut R))).getD m 0)), (100, .rp (([.i ((idsT (endL 9223372036854775807 (restL cut R))).getD m 0)] : List AV) ++ ((enc eI (idsT (endL 9223372036854775807 (restL cut R)))).drop ((m + 1) * 1)))), (99, .i (m : Int)), (98, .q eI (idsT (endL 9223372036854775807 (restL cut R)))), (97, .q eI l), (96, .b (decide (((idsT (endL 9223372036854775807 (restL cut R))).getD m 0) ≥ (l.length : Int)))), (95, .b (decide (((idsT (endL 9223372036854775807 (restL cut R))).getD m 0) ≥ (l.length : Int)))), (94, .b (decide (((idsT (endL 9223372036854775807 (restL cut R))).getD m 0) ≥ (l.length : Int)))), (93, .i (l.length : Int)), (92, .q eI l), (91, .i ((idsT (endL 9223372036854775807 (restL cut R))).getD m 0)), (90, .rp (([.i ((idsT (endL 9223372036854775807 (restL cut R))).getD m 0)] : List AV) ++ ((enc eI (idsT (endL 9223372036854775807 (restL cut R)))).drop ((m + 1) * 1)))), (89, .i (m : Int)), (88, .q eI (idsT (endL 9223372036854775807 (restL cut R)))), (87, .b (decide (((idsT (endL 9223372036854775807 (restL cut R))).getD m 0) < 0))), (86, .b (decide (((idsT (endL 9223372036854775807 (restL cut R))).getD m 0) < 0))), (85, .i ((idsT (endL 9223372036854775807 (restL cut R))).getD m 0)), (84, .rp (([.i ((idsT (endL 9223372036854775807 (restL cut R))).getD m 0)] : List AV) ++ ((enc eI (idsT (endL 9223372036854775807 (restL cut R)))).drop ((m + 1) * 1)))), (83, .i (m : Int)), (82, .q eI (idsT (endL 9223372036854775807 (restL cut R))))] mixed (by kernel_rfl) ?_ ?_
         ·refine ⟨?_, ?_, ?_, ?_, ?_, ?_, ?_, ?_, ?_, ?_, ?_, ?_, ?_, ?_, ?_, ?_, ?_, ?_, ?_, ?_, ?_, ?_, ?_, ?_, ?_, ?_, ?_, ?_, ?_, ?_, ?_, ?_, ?_, ?_, ?_, ?_, ?_, ?_, ?_, ?_, ?_, ?_, ?_, ?_, ?_, ?_, ?_, trivial⟩
          ·exact ⟨82, rfl, blt_lt rfl, fun st hob hE => aop_move (av := .q eI (idsT (endL 9223372036854775807 (restL cut R)))) (.inl rfl) rfl rfl (hE 9 rfl) (by rw [hob]; rfl)⟩
          ·exact ⟨83, rfl, blt_lt rfl, fun st hob hE => aop_move (av := .i (m : Int)) (.inl rfl) rfl rfl (hE 11 rfl) (by rw [hob]; rfl)⟩
          ·exact ⟨84, rfl, blt_lt rfl, fun st hob hE => aop_ixE 0 rfl rfl rfl ut28 sz3 (hE 82 rfl) (hE 83 rfl) (fun _ => rfl) rfl (by first | omega | (simp; done) | decide | (simp at *; omega)) (by rw [hob]; rfl)⟩
          ·exact ⟨85, rfl, blt_lt rfl, fun st hob hE => aop_ld (av := .i ((idsT (endL 9223372036854775807 (restL cut R))).getD m 0)) rfl rfl rfl ag3 (hE 84 rfl) rfl (by rw [hob]; rfl)⟩
          ·exact ⟨86, rfl, blt_lt rfl, fun st hob hE => aop_binI (u := (.bool (decide (((idsT (endL 9223372036854775807 (restL cut R))).getD m 0) < 0)))) rfl rfl rfl (hE 85 rfl) rfl trivial rfl (by rw [hob]; rfl)⟩
          ·exact ⟨87, rfl, blt_lt rfl, fun st hob hE => aop_move (av := .b (decide (((idsT (endL 9223372036854775807 (restL cut R))).getD m 0) < 0))) (.inl rfl) rfl rfl (hE 86 rfl) (by rw [hob]; rfl)⟩
          ·exact gY0 hg22 rfl rfl (blt_lt rfl) rfl ⟨88, rfl, blt_lt rfl, fun st hob hE => aop_move (av := .q eI (idsT (endL 9223372036854775807 (restL cut R)))) (.inl rfl) rfl rfl (hE 9 rfl) (by rw [hob]; rfl)⟩
          ·exact gY0 hg22 rfl rfl (blt_lt rfl) rfl ⟨89, rfl, blt_lt rfl, fun st hob hE => aop_move (av := .i (m : Int)) (.inl rfl) rfl rfl (hE 11 rfl) (by rw [hob]; rfl)⟩
          ·exact gY0 hg22 rfl rfl (blt_lt rfl) rfl ⟨90, rfl, blt_lt rfl, fun st hob hE => aop_ixE 0 rfl rfl rfl ut28 sz3 (hE 88 rfl) (hE 89 rfl) (fun _ => rfl) rfl (by first | omega | (simp; done) | decide | (simp at *; omega)) (by rw [hob]; rfl)⟩
          ·exact gY0 hg22 rfl rfl (blt_lt rfl) rfl ⟨91, rfl, blt_lt rfl, fun st hob hE => aop_ld (av := .i ((idsT (endL 9223372036854775807 (restL cut R))).getD m 0)) rfl rfl rfl ag3 (hE 90 rfl) rfl (by rw [hob]; rfl)⟩
          ·exact gY0 hg22 rfl rfl (blt_lt rfl) rfl ⟨92, rfl, blt_lt rfl, fun st hob hE => aop_move (av := .q eI l) (.inl rfl) rfl rfl (hE 0 rfl) (by rw [hob]; rfl)⟩
          ·exact gY0 hg22 rfl rfl (blt_lt rfl) rfl ⟨93, rfl, blt_lt rfl, fun st hob hE => aop_len rfl rfl rfl rfl ut22 (len_ro (hE 92 rfl)) (by rw [hob]; rfl)⟩
          ·exact gY0 hg22 rfl rfl (blt_lt rfl) rfl ⟨94, rfl, blt_lt rfl, fun st hob hE => aop_binI (u := (.bool (decide (((idsT (endL 9223372036854775807 (restL cut R))).getD m 0) ≥ (l.length : Int))))) rfl rfl rfl (hE 91 rfl) (hE 93 rfl) trivial rfl (by rw [hob]; rfl)⟩
          ·exact ⟨95, rfl, blt_lt rfl, fun st hob hE => aop_pick (b := (decide (((idsT (endL 9223372036854775807 (restL cut R))).getD m 0) < 0))) (av := .b (decide (((idsT (endL 9223372036854775807 (restL cut R))).getD m 0) ≥ (l.length : Int)))) rfl rfl rfl (hE 87 rfl) (by rw [hg22]; exact hE 94 rfl) (by rw [hob]; rfl)⟩
          ·exact ⟨96, rfl, blt_lt rfl, fun st hob hE => aop_move (av := .b (decide (((idsT (endL 9223372036854775807 (restL cut R))).getD m 0) ≥ (l.length : Int)))) (.inl rfl) rfl rfl (hE 95 rfl) (by rw [hob]; rfl)⟩
          ·exact gY0 hg25 rfl rfl (blt_lt rfl) rfl ⟨97, rfl, blt_lt rfl, fun st hob hE => aop_move (av := .q eI l) (.inl rfl) rfl rfl (hE 0 rfl) (by rw [hob]; rfl)⟩
          ·exact gY0 hg25 rfl rfl (blt_lt rfl) rfl ⟨98, rfl, blt_lt rfl, fun st hob hE => aop_move (av := .q eI (idsT (endL 9223372036854775807 (restL cut R)))) (.inl rfl) rfl rfl (hE 9 rfl) (by rw [hob]; rfl)⟩
          ·exact gY0 hg25 rfl rfl (blt_lt rfl) rfl ⟨99, rfl, blt_lt rfl, fun st hob hE => aop_move (av := .i (m : Int)) (.inl rfl) rfl rfl (hE 11 rfl) (by rw [hob]; rfl)⟩
          ·exact gY0 hg25 rfl rfl (blt_lt rfl) rfl ⟨100, rfl, blt_lt rfl, fun st hob hE => aop_ixE 0 rfl rfl rfl ut28 sz3 (hE 98 rfl) (hE 99 rfl) (fun _ => rfl) rfl (by first | omega | (simp; done) | decide | (simp at *; omega)) (by rw [hob]; rfl)⟩
          ·exact gY0 hg25 rfl rfl (blt_lt rfl) rfl ⟨101, rfl, blt_lt rfl, fun st hob hE => aop_ld (av := .i ((idsT (endL 9223372036854775807 (restL cut R))).getD m 0)) rfl rfl rfl ag3 (hE 100 rfl) rfl (by rw [hob]; rfl)⟩
          ·exact gY0 hg25 rfl rfl (blt_lt rfl) rfl ⟨102, rfl, blt_lt rfl, fun st hob hE => aop_ixI 0 rfl rfl rfl ut22 sz2 (hE 97 rfl) (hE 101 rfl) (fun _ => rfl) rfl (by omega) (by first | omega | (simp; done) | decide | (simp at *; omega)) (by rw [hob]; rfl)⟩
          ·exact gY0 hg25 rfl rfl (blt_lt rfl) rfl ⟨103, rfl, blt_lt rfl, fun st hob hE => aop_ld (av := .i (l.getD ((idsT (endL 9223372036854775807 (restL cut R))).getD m 0).toNat 0)) rfl rfl rfl ag2 (hE 102 rfl) rfl (by rw [hob]; rfl)⟩
          ·exact gY0 hg25 rfl rfl (blt_lt rfl) rfl ⟨104, rfl, blt_lt rfl, fun st hob hE => aop_move (av := .i cut) (.inl rfl) rfl rfl (hE 1 rfl) (by rw [hob]; rfl)⟩
          ·exact gY0 hg25 rfl rfl (blt_lt rfl) rfl ⟨105, rfl, blt_lt rfl, fun st hob hE => aop_binI (u := (.bool (decide ((l.getD ((idsT (endL 9223372036854775807 (restL cut R))).getD m 0).toNat 0) ≤ cut)))) rfl rfl rfl (hE 103 rfl) (hE 104 rfl) trivial rfl (by rw [hob]; rfl)⟩
          ·exact ⟨106, rfl, blt_lt rfl, fun st hob hE => aop_pick (b := (decide (((idsT (endL 9223372036854775807 (restL cut R))).getD m 0) ≥ (l.length : Int)))) (av := .b (decide ((l.getD ((idsT (endL 9223372036854775807 (restL cut R))).getD m 0).toNat 0) ≤ cut))) rfl rfl rfl (hE 96 rfl) (by rw [hg25]; exact hE 105 rfl) (by rw [hob]; rfl)⟩
          ·exact ⟨107, rfl, blt_lt rfl, fun st hob hE => aop_move (av := .b (decide ((l.getD ((idsT (endL 9223372036854775807 (restL cut R))).getD m 0).toNat 0) ≤ cut))) (.inl rfl) rfl rfl (hE 106 rfl) (by rw [hob]; rfl)⟩
          ·exact gY0 hg28 rfl rfl (blt_lt rfl) rfl ⟨108, rfl, blt_lt rfl, fun st hob hE => aop_move (av := .i (m : Int)) (.inl rfl) rfl rfl (hE 11 rfl) (by rw [hob]; rfl)⟩
          ·exact gY0 hg28 rfl rfl (blt_lt rfl) rfl ⟨109, rfl, blt_lt rfl, fun st hob hE => aop_binI (u := (.bool (decide ((m : Int) > 0)))) rfl rfl rfl (hE 108 rfl) rfl trivial rfl (by rw [hob]; rfl)⟩
          ·exact gY0 hg28 rfl rfl (blt_lt rfl) rfl ⟨110, rfl, blt_lt rfl, fun st hob hE => aop_move (av := .b (decide ((m : Int) > 0))) (.inl rfl) rfl rfl (hE 109 rfl) (by rw [hob]; rfl)⟩
          ·exact gN1 hg31 rfl rfl (blt_lt rfl) rfl rfl (blt_lt rfl) rfl
          ·exact gN1 hg31 rfl rfl (blt_lt rfl) rfl rfl (blt_lt rfl) rfl
          ·exact gN1 hg31 rfl rfl (blt_lt rfl) rfl rfl (blt_lt rfl) rfl
          ·exact gN1 hg31 rfl rfl (blt_lt rfl) rfl rfl (blt_lt rfl) rfl
          ·exact gN1 hg31 rfl rfl (blt_lt rfl) rfl rfl (blt_lt rfl) rfl
          ·exact gN1 hg31 rfl rfl (blt_lt rfl) rfl rfl (blt_lt rfl) rfl
          ·exact gN1 hg31 rfl rfl (blt_lt rfl) rfl rfl (blt_lt rfl) rfl
          ·exact gN1 hg31 rfl rfl (blt_lt rfl) rfl rfl (blt_lt rfl) rfl
          ·exact gN1 hg31 rfl rfl (blt_lt rfl) rfl rfl (blt_lt rfl) rfl
          ·exact gN1 hg31 rfl rfl (blt_lt rfl) rfl rfl (blt_lt rfl) rfl
          ·exact gN1 hg31 rfl rfl (blt_lt rfl) rfl rfl (blt_lt rfl) rfl
          ·exact gN1 hg31 rfl rfl (blt_lt rfl) rfl rfl (blt_lt rfl) rfl
          ·exact gN1 hg31 rfl rfl (blt_lt rfl) rfl rfl (blt_lt rfl) rfl
          ·exact gN1 hg31 rfl rfl (blt_lt rfl) rfl rfl (blt_lt rfl) rfl
          ·exact gN1 hg31 rfl rfl (blt_lt rfl) rfl rfl (blt_lt rfl) rfl
          ·exact gN1 hg31 rfl rfl (blt_lt rfl) rfl rfl (blt_lt rfl) rfl
          ·exact gY0 hg28 rfl rfl (blt_lt rfl) rfl ⟨127, rfl, blt_lt rfl, fun st hob hE => aop_pick (b := (decide ((m : Int) > 0))) (av := .b false) rfl rfl rfl (hE 110 rfl) (by rw [hg31]; rfl) (by rw [hob]; rfl)⟩
          ·exact ⟨128, rfl, blt_lt rfl, fun st hob hE => aop_pick (b := (decide ((l.getD ((idsT (endL 9223372036854775807 (restL cut R))).getD m 0).toNat 0) ≤ cut))) (av := .b false) rfl rfl rfl (hE 107 rfl) (by rw [hg28]; exact hE 127 rfl) (by rw [hob]; rfl)⟩
         refine op0 ?_
         refine awp_cond false rfl rfl (fun h => by cases h) (fun _ => ?_)
         refine awp_skip ?_
         refine regR ?_
         refine mG (.i (m : Int)) ?_
         refine opG rfl (aop_binI (u := (.int .i64 ((m + 1 : Nat) : Int))) rfl rfl rfl rfl rfl trivial (addN (by omega)) ?_)
         refine mG (.i ((m + 1 : Nat) : Int)) ?_
         refine op0 ?_
         show _ ∧ _
         refine ⟨by omega, trivial, ?_⟩
         exact imp_ler [(1, 1)] (lerI 1 1 rfl rfl (sS rfl (sS rfl (sS rfl (sS rfl (sM rfl (sS rfl (sS rfl (sS rfl sr_none))))))))) (keep_of rfl)
    ·skip
     have hf36 := of_decide_eq_false hc5
     refine awp_exit ?_
     refine seqR ?_
     refine mG (.q eI (riseL ((idsT (endL cut R)) ++ (idsT (endL 9223372036854775807 (restL cut R)))))) ?_
     refine opG rfl (aop_len rfl rfl rfl rfl ut28 (len_ro rfl) ?_)
     refine mG (.q eI l) ?_
     refine opG rfl (aop_len rfl rfl rfl rfl ut22 (len_ro rfl) ?_)
     refine bG ((.bool (((riseL ((idsT (endL cut R)) ++ (idsT (endL 9223372036854775807 (restL cut R))))).length : Int) == (l.length : Int)))) ?_
     refine mG (.b (((riseL ((idsT (endL cut R)) ++ (idsT (endL 9223372036854775807 (restL cut R))))).length : Int) == (l.length : Int))) ?_
     refine aops_grp 9 143 (.b ((((riseL ((idsT (endL cut R)) ++ (idsT (endL 9223372036854775807 (restL cut R))))).length : Int) == (l.length : Int)) && ((((idsT (endL cut R)).length : Int) + ((idsT (endL 9223372036854775807 (restL cut R))).length : Int)) == (l.length : Int)))) ?_ ?_
     ·refine (Bool.eq_false_or_eq_true (((riseL ((idsT (endL cut R)) ++ (idsT (endL 9223372036854775807 (restL cut R))))).length : Int) == (l.length : Int))).elim (fun hg37 => ?_) (fun hg37 => ?_)
      ·skip
       have hf38 := (beq_iff_eq).1 hg37
       refine opY rfl rfl rfl (by show AV.v (.bool (((riseL ((idsT (endL cut R)) ++ (idsT (endL 9223372036854775807 (restL cut R))))).length : Int) == (l.length : Int))) = _; rw [hg37]) (aop_move (av := .q eI (idsT (endL cut R))) (.inl rfl) rfl rfl rfl ?_)
       refine opY rfl rfl rfl (by show AV.v (.bool (((riseL ((idsT (endL cut R)) ++ (idsT (endL 9223372036854775807 (restL cut R))))).length : Int) == (l.length : Int))) = _; rw [hg37]) (aop_len rfl rfl rfl rfl ut28 (len_ro rfl) ?_)
       refine opY rfl rfl rfl (by show AV.v (.bool (((riseL ((idsT (endL cut R)) ++ (idsT (endL 9223372036854775807 (restL cut R))))).length : Int) == (l.length : Int))) = _; rw [hg37]) (aop_move (av := .q eI (idsT (endL 9223372036854775807 (restL cut R)))) (.inl rfl) rfl rfl rfl ?_)
       refine opY rfl rfl rfl (by show AV.v (.bool (((riseL ((idsT (endL cut R)) ++ (idsT (endL 9223372036854775807 (restL cut R))))).length : Int) == (l.length : Int))) = _; rw [hg37]) (aop_len rfl rfl rfl rfl ut28 (len_ro rfl) ?_)
       refine opY rfl rfl rfl (by show AV.v (.bool (((riseL ((idsT (endL cut R)) ++ (idsT (endL 9223372036854775807 (restL cut R))))).length : Int) == (l.length : Int))) = _; rw [hg37]) (aop_binI (u := (.int .i64 (((idsT (endL cut R)).length : Int) + ((idsT (endL 9223372036854775807 (restL cut R))).length : Int)))) rfl rfl rfl rfl rfl trivial (addI (by omega)) ?_)
       refine opY rfl rfl rfl (by show AV.v (.bool (((riseL ((idsT (endL cut R)) ++ (idsT (endL 9223372036854775807 (restL cut R))))).length : Int) == (l.length : Int))) = _; rw [hg37]) (aop_move (av := .q eI l) (.inl rfl) rfl rfl rfl ?_)
       refine opY rfl rfl rfl (by show AV.v (.bool (((riseL ((idsT (endL cut R)) ++ (idsT (endL 9223372036854775807 (restL cut R))))).length : Int) == (l.length : Int))) = _; rw [hg37]) (aop_len rfl rfl rfl rfl ut22 (len_ro rfl) ?_)
       refine opY rfl rfl rfl (by show AV.v (.bool (((riseL ((idsT (endL cut R)) ++ (idsT (endL 9223372036854775807 (restL cut R))))).length : Int) == (l.length : Int))) = _; rw [hg37]) (aop_binI (u := (.bool ((((idsT (endL cut R)).length : Int) + ((idsT (endL 9223372036854775807 (restL cut R))).length : Int)) == (l.length : Int)))) rfl rfl rfl rfl rfl trivial rfl ?_)
       refine opG rfl (aop_pick (b := (((riseL ((idsT (endL cut R)) ++ (idsT (endL 9223372036854775807 (restL cut R))))).length : Int) == (l.length : Int))) (av := .b ((((idsT (endL cut R)).length : Int) + ((idsT (endL 9223372036854775807 (restL cut R))).length : Int)) == (l.length : Int))) rfl rfl rfl rfl ((congrArg (fun b_ => cond b_ _ _) hg37).trans rfl) ?_)
       refine op0 ?_
       exact imp_env (lee_both 143 _ _ (by rw [hg37] <;> rfl) (lee_out 142 _ rfl (lee_out 141 _ rfl (lee_out 140 _ rfl (lee_out 139 _ rfl (lee_out 138 _ rfl (lee_out 137 _ rfl (lee_out 136 _ rfl (lee_out 135 _ rfl (lee_same _))))))))))
      ·skip
       have hf39 := (beq_eq_false_iff_ne).1 hg37
       refine nG hg37 ?_
       refine nG hg37 ?_
       refine nG hg37 ?_
       refine nG hg37 ?_
       refine nG hg37 ?_
       refine nG hg37 ?_
       refine nG hg37 ?_
       refine nG hg37 ?_
       refine opG rfl (aop_pick (b := (((riseL ((idsT (endL cut R)) ++ (idsT (endL 9223372036854775807 (restL cut R))))).length : Int) == (l.length : Int))) (av := .b false) rfl rfl rfl rfl ((congrArg (fun b_ => cond b_ _ _) hg37).trans rfl) ?_)
       refine op0 ?_
       exact imp_env (lee_both 143 _ _ (by rw [hg37] <;> rfl) (lee_out 142 _ rfl (lee_out 141 _ rfl (lee_out 140 _ rfl (lee_out 139 _ rfl (lee_out 138 _ rfl (lee_out 137 _ rfl (lee_out 136 _ rfl (lee_out 135 _ rfl (lee_same _))))))))))
     refine mG (.b ((((riseL ((idsT (endL cut R)) ++ (idsT (endL 9223372036854775807 (restL cut R))))).length : Int) == (l.length : Int)) && ((((idsT (endL cut R)).length : Int) + ((idsT (endL 9223372036854775807 (restL cut R))).length : Int)) == (l.length : Int)))) ?_
     refine aops_grp 4 148 (.b (((((riseL ((idsT (endL cut R)) ++ (idsT (endL 9223372036854775807 (restL cut R))))).length : Int) == (l.length : Int)) && ((((idsT (endL cut R)).length : Int) + ((idsT (endL 9223372036854775807 (restL cut R))).length : Int)) == (l.length : Int))) && (((restL 9223372036854775807 (restL cut R)).length : Int) == 0))) ?_ ?_
     ·refine (Bool.eq_false_or_eq_true ((((riseL ((idsT (endL cut R)) ++ (idsT (endL 9223372036854775807 (restL cut R))))).length : Int) == (l.length : Int)) && ((((idsT (endL cut R)).length : Int) + ((idsT (endL 9223372036854775807 (restL cut R))).length : Int)) == (l.length : Int)))).elim (fun hg40 => ?_) (fun hg40 => ?_)
      ·skip
       obtain ⟨hf41a, hf41b⟩ := and_t hg40
       have hf42 := (beq_iff_eq).1 hf41a
       have hf43 := (beq_iff_eq).1 hf41b
       refine opY rfl rfl rfl (by show AV.v (.bool ((((riseL ((idsT (endL cut R)) ++ (idsT (endL 9223372036854775807 (restL cut R))))).length : Int) == (l.length : Int)) && ((((idsT (endL cut R)).length : Int) + ((idsT (endL 9223372036854775807 (restL cut R))).length : Int)) == (l.length : Int)))) = _; rw [hg40]) (aop_move (av := .pt 1 0) (.inl rfl) rfl rfl rfl ?_)
       refine opY rfl rfl rfl (by show AV.v (.bool ((((riseL ((idsT (endL cut R)) ++ (idsT (endL 9223372036854775807 (restL cut R))))).length : Int) == (l.length : Int)) && ((((idsT (endL cut R)).length : Int) + ((idsT (endL 9223372036854775807 (restL cut R))).length : Int)) == (l.length : Int)))) = _; rw [hg40]) (callL_ (t_Len (restL 9223372036854775807 (restL cut R)) (by first | omega | (simp; done) | decide | (simp at *; omega))) rfl rfl rfl rfl rfl bd14 (lends_cons (lend_pt rfl (lends_cons (lend_n (av := .q eT (restL 9223372036854775807 (restL cut R)))) lends_nil)) lends_nil) ?_)
       refine opY rfl rfl rfl (by show AV.v (.bool ((((riseL ((idsT (endL cut R)) ++ (idsT (endL 9223372036854775807 (restL cut R))))).length : Int) == (l.length : Int)) && ((((idsT (endL cut R)).length : Int) + ((idsT (endL 9223372036854775807 (restL cut R))).length : Int)) == (l.length : Int)))) = _; rw [hg40]) (aop_binI (u := (.bool (((restL 9223372036854775807 (restL cut R)).length : Int) == 0))) rfl rfl rfl rfl rfl trivial rfl ?_)
       refine opG rfl (aop_pick (b := ((((riseL ((idsT (endL cut R)) ++ (idsT (endL 9223372036854775807 (restL cut R))))).length : Int) == (l.length : Int)) && ((((idsT (endL cut R)).length : Int) + ((idsT (endL 9223372036854775807 (restL cut R))).length : Int)) == (l.length : Int)))) (av := .b (((restL 9223372036854775807 (restL cut R)).length : Int) == 0)) rfl rfl rfl rfl ((congrArg (fun b_ => cond b_ _ _) hg40).trans rfl) ?_)
       refine op0 ?_
       exact imp_env (lee_both 148 _ _ (by rw [hg40] <;> rfl) (lee_out 147 _ rfl (lee_out 146 _ rfl (lee_out 145 _ rfl (lee_same _)))))
      ·skip
       refine nG hg40 ?_
       refine nG hg40 ?_
       refine nG hg40 ?_
       refine opG rfl (aop_pick (b := ((((riseL ((idsT (endL cut R)) ++ (idsT (endL 9223372036854775807 (restL cut R))))).length : Int) == (l.length : Int)) && ((((idsT (endL cut R)).length : Int) + ((idsT (endL 9223372036854775807 (restL cut R))).length : Int)) == (l.length : Int)))) (av := .b false) rfl rfl rfl rfl ((congrArg (fun b_ => cond b_ _ _) hg40).trans rfl) ?_)
       refine op0 ?_
       exact imp_env (lee_both 148 _ _ (by rw [hg40] <;> rfl) (lee_out 147 _ rfl (lee_out 146 _ rfl (lee_out 145 _ rfl (lee_same _)))))
     refine mG (.b (((((riseL ((idsT (endL cut R)) ++ (idsT (endL 9223372036854775807 (restL cut R))))).length : Int) == (l.length : Int)) && ((((idsT (endL cut R)).length : Int) + ((idsT (endL 9223372036854775807 (restL cut R))).length : Int)) == (l.length : Int))) && (((restL 9223372036854775807 (restL cut R)).length : Int) == 0))) ?_
     refine op0 ?_
     refine rs_ (upd none_ 4 (.b (((((riseL ((idsT (endL cut R)) ++ (idsT (endL 9223372036854775807 (restL cut R))))).length : Int) == (l.length : Int)) && ((((idsT (endL cut R)).length : Int) + ((idsT (endL 9223372036854775807 (restL cut R))).length : Int)) == (l.length : Int))) && (((restL 9223372036854775807 (restL cut R)).length : Int) == 0)))) (updO noOb 1 (.live ⟨[.q eT (restL 9223372036854775807 (restL cut R))], 57, 1⟩)) (lu rfl ln) rfl ?_
     refine awp_ret ?_
     exact fret (av := .v (.bool (((((riseL ((idsT (endL cut R)) ++ (idsT (endL 9223372036854775807 (restL cut R))))).length : Int) == (l.length : Int)) && ((((idsT (endL cut R)).length : Int) + ((idsT (endL 9223372036854775807 (restL cut R))).length : Int)) == (l.length : Int))) && (((restL 9223372036854775807 (restL cut R)).length : Int) == 0)))) rfl rfl (by first | rw [ends_val hen] | rfl)
end Go.Lo
