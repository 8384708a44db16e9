/- Walks of Go functions in the logic of values. -/
import Derived.Test.YthfmdljohlolpaaFnFuTy
import Derived.Test.YthfmdljohlolpaaDef
import Derived.Test.YthfmdljohlolpaaTd
import Derived.Test.YthfmdljohlolpaaTc
import Derived.Test.YthfmdljohlolpaaTe
import Derived.Test.YthfmdljohlolpaaTg
import Derived.Test.YthfmdljohlolpaaFnA
import Derived.Test.YthfmdljohlolpaaFnB
set_option linter.unusedVariables false
set_option linter.unusedSimpArgs false
set_option maxRecDepth 10000
set_option maxHeartbeats 16000000
namespace Go.Lo
open Go.Proofs
theorem l8_three   : Fn Try.prog 9 [] (.v (.bool true)) := by
 have h1 := startT_len (l := ([] : List Tm)) (i := 5) (a := 9) (by decide)
 have h2 := startT_len (i := 3) (a := 9) h1
 have h3 := startT_len (i := 7) (a := 2) h2
 have h4 := end_len 9 (startT (startT (startT ([] : List Tm) 5 9) 3 9) 7 2)
 refine fnE_of_body (N := 18) Try.func9 rfl rfl (resOf1 rfl) (by simp) (fun w0 X hL_ => ?_)
 refine seqR ?_
 refine mG (.b false) ?_
 refine op0 ?_
 refine seqR ?_
 refine opG rfl (callG_ false [] [51, 52] (t_New) rfl rfl rfl rfl rfl bd10 (by decide) trivial trivial rfl ⟨rfl, rfl, trivial⟩ (fun h => by cases h) rfl (place_cons (ost_map (lm_cons rfl lm_nil)) (place_cons (ost_no (cs := (enc eT ([] : List Tm)))) place_nil)) ?_)
 refine mG (.pt 51 0) ?_
 refine op0 ?_
 refine seqR ?_
 refine mG (.pt 51 0) ?_
 refine opG rfl (callG_ false [51, 52] [53] (t_Start ([] : List Tm) 5 9 (by decide)) rfl rfl rfl rfl rfl bd11 (by decide) ⟨giv_map (o := ⟨[.sl 52 0 0], 57, 1⟩) rfl (om_ (lm_cons rfl lm_nil)) (oks_cons (.sl _ _ _ (by simp)) oks_nil), giv_no (o := ⟨(enc eT ([] : List Tm)), 59, 2⟩) rfl rfl, trivial⟩ ⟨(arg_own (.pt _ _ (by simp)) rfl), (arg_no (a := .i 5)), (arg_no (a := .i 9)), trivial⟩ rfl ⟨rfl, trivial⟩ (fun h => by cases h) (am_no (a := .i (errT ([] : List Tm) 5))) (place_cons (ost_map (lm_cons rfl lm_nil)) (place_cons rfl (place_cons (ost_no (cs := (enc eT (startT ([] : List Tm) 5 9)))) place_nil))) ?_)
 refine op0 ?_
 refine rs_ (upd (upd none_ 0 (.b false)) 1 (.pt 51 0)) (updO (updO (updO (updO (updO noOb 51 (.live ⟨[.sl 52 0 0], 57, 1⟩)) 52 (.live ⟨(enc eT ([] : List Tm)), 59, 2⟩)) 51 (.live ⟨[.sl 53 0 ((startT ([] : List Tm) 5 9).length)], 57, 1⟩)) 52 .dead) 53 (.live ⟨(enc eT (startT ([] : List Tm) 5 9)), 59, 2⟩)) (lu rfl (lu rfl ln)) rfl ?_
 refine seqR ?_
 refine mG (.pt 51 0) ?_
 refine opG rfl (callG_ false [51, 53] [54] (t_Start (startT ([] : List Tm) 5 9) 3 9 (by omega)) rfl rfl rfl rfl rfl bd11 (by decide) ⟨giv_map (o := ⟨[.sl 53 0 ((startT ([] : List Tm) 5 9).length)], 57, 1⟩) rfl (om_ (lm_cons rfl lm_nil)) (oks_cons (.sl _ _ _ (by simp)) oks_nil), giv_no (o := ⟨(enc eT (startT ([] : List Tm) 5 9)), 59, 2⟩) rfl rfl, trivial⟩ ⟨(arg_own (.pt _ _ (by simp)) rfl), (arg_no (a := .i 3)), (arg_no (a := .i 9)), trivial⟩ rfl ⟨rfl, trivial⟩ (fun h => by cases h) (am_no (a := .i (errT (startT ([] : List Tm) 5 9) 3))) (place_cons (ost_map (lm_cons rfl lm_nil)) (place_cons rfl (place_cons (ost_no (cs := (enc eT (startT (startT ([] : List Tm) 5 9) 3 9)))) place_nil))) ?_)
 refine op0 ?_
 refine seqR ?_
 refine mG (.pt 51 0) ?_
 refine opG rfl (callG_ false [51, 54] [55] (t_Start (startT (startT ([] : List Tm) 5 9) 3 9) 7 2 (by omega)) rfl rfl rfl rfl rfl bd11 (by decide) ⟨giv_map (o := ⟨[.sl 54 0 ((startT (startT ([] : List Tm) 5 9) 3 9).length)], 57, 1⟩) rfl (om_ (lm_cons rfl lm_nil)) (oks_cons (.sl _ _ _ (by simp)) oks_nil), giv_no (o := ⟨(enc eT (startT (startT ([] : List Tm) 5 9) 3 9)), 59, 2⟩) rfl rfl, trivial⟩ ⟨(arg_own (.pt _ _ (by simp)) rfl), (arg_no (a := .i 7)), (arg_no (a := .i 2)), trivial⟩ rfl ⟨rfl, trivial⟩ (fun h => by cases h) (am_no (a := .i (errT (startT (startT ([] : List Tm) 5 9) 3 9) 7))) (place_cons (ost_map (lm_cons rfl lm_nil)) (place_cons rfl (place_cons (ost_no (cs := (enc eT (startT (startT (startT ([] : List Tm) 5 9) 3 9) 7 2)))) place_nil))) ?_)
 refine op0 ?_
 refine rs_ (upd (upd none_ 0 (.b false)) 1 (.pt 51 0)) (updO (updO (updO (updO (updO (updO (updO (updO (updO (updO (updO noOb 51 (.live ⟨[.sl 52 0 0], 57, 1⟩)) 52 (.live ⟨(enc eT ([] : List Tm)), 59, 2⟩)) 51 (.live ⟨[.sl 53 0 ((startT ([] : List Tm) 5 9).length)], 57, 1⟩)) 52 .dead) 53 (.live ⟨(enc eT (startT ([] : List Tm) 5 9)), 59, 2⟩)) 51 (.live ⟨[.sl 54 0 ((startT (startT ([] : List Tm) 5 9) 3 9).length)], 57, 1⟩)) 53 .dead) 54 (.live ⟨(enc eT (startT (startT ([] : List Tm) 5 9) 3 9)), 59, 2⟩)) 51 (.live ⟨[.sl 55 0 ((startT (startT (startT ([] : List Tm) 5 9) 3 9) 7 2).length)], 57, 1⟩)) 54 .dead) 55 (.live ⟨(enc eT (startT (startT (startT ([] : List Tm) 5 9) 3 9) 7 2)), 59, 2⟩)) (lu rfl (lu rfl ln)) rfl ?_
 refine awp_imp ⟨(upd (upd none_ 0 (.b false)) 1 (.pt 51 0)), (updO noOb 51 (.live ⟨[.q eT (startT (startT (startT ([] : List Tm) 5 9) 3 9) 7 2)], 57, 1⟩))⟩ ?_ ?_
 ·skip
  refine (frz_ [51] [(51, ⟨[.q eT (startT (startT (startT ([] : List Tm) 5 9) 3 9) 7 2)], 57, 1⟩)] rfl (fun _ h => h) ⟨keep_cells (cs := [.sl 55 0 ((startT (startT (startT ([] : List Tm) 5 9) 3 9) 7 2).length)]) (by simp) rfl rfl (frzs_cons (.inr (lend_s (id := 55) (n := (startT (startT (startT ([] : List Tm) 5 9) 3 9) 7 2).length) (o := ⟨(enc eT (startT (startT (startT ([] : List Tm) 5 9) 3 9) 7 2)), 59, 2⟩) rfl (enc_len (fun _ => rfl) (by first | rfl | (simp; done))))) frzs_nil), trivial⟩ (fz_same 1 (.pt 51 0) rfl (fz_same 0 (.b false) rfl fz_none))).trans ?_
  exact imp_ler [(51, 51)] (lerI 51 51 (o := ⟨[.q eT (startT (startT (startT ([] : List Tm) 5 9) 3 9) 7 2)], 57, 1⟩) rfl rfl (sM rfl (sS rfl sr_none))) (keep_of rfl)
 refine seqR ?_
 refine mG (.pt 51 0) ?_
 refine opG rfl (callG_ false [51] [56] (t_Ended (startT (startT (startT ([] : List Tm) 5 9) 3 9) 7 2) 9 (by omega)) rfl rfl rfl rfl rfl bd12 (by decide) ⟨giv_no (o := ⟨[.q eT (startT (startT (startT ([] : List Tm) 5 9) 3 9) 7 2)], 57, 1⟩) rfl rfl, trivial⟩ ⟨(arg_own (.pt _ _ (by simp)) rfl), (arg_no (a := .i 9)), trivial⟩ rfl ⟨rfl, trivial⟩ (fun h => by cases h) rfl (place_cons (ost_no (cs := [.q eT (restL 9 (startT (startT (startT ([] : List Tm) 5 9) 3 9) 7 2))])) (place_cons (ost_no (cs := (enc eI (idsT (endL 9 (startT (startT (startT ([] : List Tm) 5 9) 3 9) 7 2)))))) place_nil)) ?_)
 refine opG rfl (aop_lit rfl rfl rfl ut28 iz3 (by decide) (by decide) rfl rfl ?_)
 refine opG rfl (callL_ (r01_Ints (idsT (endL 9 (startT (startT (startT ([] : List Tm) 5 9) 3 9) 7 2))) [(7 : Int), (3 : Int), (5 : Int)] (by first | omega | (simp; done) | decide | (simp at *; omega))) rfl rfl rfl rfl rfl bd22 (lends_cons (lend_s (id := 56) (n := (idsT (endL 9 (startT (startT (startT ([] : List Tm) 5 9) 3 9) 7 2))).length) (o := ⟨(enc eI (idsT (endL 9 (startT (startT (startT ([] : List Tm) 5 9) 3 9) 7 2)))), 3, 1⟩) rfl (enc_len (fun _ => rfl) (by first | rfl | (simp; done)))) (lends_cons (lend_n (av := .ro 3 [.i 7, .i 3, .i 5])) lends_nil)) ?_)
 refine mG (.b (decide ((idsT (endL 9 (startT (startT (startT ([] : List Tm) 5 9) 3 9) 7 2))) = [(7 : Int), (3 : Int), (5 : Int)]))) ?_
 refine aops_grp 4 17 (.b ((decide ((idsT (endL 9 (startT (startT (startT ([] : List Tm) 5 9) 3 9) 7 2))) = [(7 : Int), (3 : Int), (5 : Int)])) && (((restL 9 (startT (startT (startT ([] : List Tm) 5 9) 3 9) 7 2)).length : Int) == 0))) ?_ ?_
 ·refine (Bool.eq_false_or_eq_true (decide ((idsT (endL 9 (startT (startT (startT ([] : List Tm) 5 9) 3 9) 7 2))) = [(7 : Int), (3 : Int), (5 : Int)]))).elim (fun hg1 => ?_) (fun hg1 => ?_)
  ·skip
   refine opY rfl rfl rfl (by show AV.v (.bool (decide ((idsT (endL 9 (startT (startT (startT ([] : List Tm) 5 9) 3 9) 7 2))) = [(7 : Int), (3 : Int), (5 : Int)]))) = _; rw [hg1]) (aop_move (av := .pt 51 0) (.inl rfl) rfl rfl rfl ?_)
   refine opY rfl rfl rfl (by show AV.v (.bool (decide ((idsT (endL 9 (startT (startT (startT ([] : List Tm) 5 9) 3 9) 7 2))) = [(7 : Int), (3 : Int), (5 : Int)]))) = _; rw [hg1]) (callL_ (t_Len (restL 9 (startT (startT (startT ([] : List Tm) 5 9) 3 9) 7 2)) (by first | omega | (simp; done) | decide | (simp at *; omega))) rfl rfl rfl rfl rfl bd14 (lends_cons (lend_pt rfl (lends_cons (lend_n (av := .q eT (restL 9 (startT (startT (startT ([] : List Tm) 5 9) 3 9) 7 2)))) lends_nil)) lends_nil) ?_)
   refine opY rfl rfl rfl (by show AV.v (.bool (decide ((idsT (endL 9 (startT (startT (startT ([] : List Tm) 5 9) 3 9) 7 2))) = [(7 : Int), (3 : Int), (5 : Int)]))) = _; rw [hg1]) (aop_binI (u := (.bool (((restL 9 (startT (startT (startT ([] : List Tm) 5 9) 3 9) 7 2)).length : Int) == 0))) rfl rfl rfl rfl rfl trivial rfl ?_)
   refine opG rfl (aop_pick (b := (decide ((idsT (endL 9 (startT (startT (startT ([] : List Tm) 5 9) 3 9) 7 2))) = [(7 : Int), (3 : Int), (5 : Int)]))) (av := .b (((restL 9 (startT (startT (startT ([] : List Tm) 5 9) 3 9) 7 2)).length : Int) == 0)) rfl rfl rfl rfl ((congrArg (fun b_ => cond b_ _ _) hg1).trans rfl) ?_)
   refine op0 ?_
   exact imp_env (lee_both 17 _ _ (by rw [hg1] <;> rfl) (lee_out 16 _ rfl (lee_out 15 _ rfl (lee_out 14 _ rfl (lee_same _)))))
  ·skip
   refine nG hg1 ?_
   refine nG hg1 ?_
   refine nG hg1 ?_
   refine opG rfl (aop_pick (b := (decide ((idsT (endL 9 (startT (startT (startT ([] : List Tm) 5 9) 3 9) 7 2))) = [(7 : Int), (3 : Int), (5 : Int)]))) (av := .b false) rfl rfl rfl rfl ((congrArg (fun b_ => cond b_ _ _) hg1).trans rfl) ?_)
   refine op0 ?_
   exact imp_env (lee_both 17 _ _ (by rw [hg1] <;> rfl) (lee_out 16 _ rfl (lee_out 15 _ rfl (lee_out 14 _ rfl (lee_same _)))))
 refine mG (.b ((decide ((idsT (endL 9 (startT (startT (startT ([] : List Tm) 5 9) 3 9) 7 2))) = [(7 : Int), (3 : Int), (5 : Int)])) && (((restL 9 (startT (startT (startT ([] : List Tm) 5 9) 3 9) 7 2)).length : Int) == 0))) ?_
 refine op0 ?_
 refine rs_ (upd none_ 0 (.b ((decide ((idsT (endL 9 (startT (startT (startT ([] : List Tm) 5 9) 3 9) 7 2))) = [(7 : Int), (3 : Int), (5 : Int)])) && (((restL 9 (startT (startT (startT ([] : List Tm) 5 9) 3 9) 7 2)).length : Int) == 0)))) (updO (updO (updO noOb 51 (.live ⟨[.q eT (startT (startT (startT ([] : List Tm) 5 9) 3 9) 7 2)], 57, 1⟩)) 51 (.live ⟨[.q eT (restL 9 (startT (startT (startT ([] : List Tm) 5 9) 3 9) 7 2))], 57, 1⟩)) 56 (.live ⟨(enc eI (idsT (endL 9 (startT (startT (startT ([] : List Tm) 5 9) 3 9) 7 2)))), 3, 1⟩)) (lu rfl ln) rfl ?_
 refine awp_ret ?_
 exact fret (av := .v (.bool ((decide ((idsT (endL 9 (startT (startT (startT ([] : List Tm) 5 9) 3 9) 7 2))) = [(7 : Int), (3 : Int), (5 : Int)])) && (((restL 9 (startT (startT (startT ([] : List Tm) 5 9) 3 9) 7 2)).length : Int) == 0)))) rfl rfl (by rw [three_law])
theorem l8_TimerFull (n a : Int) (hn : 0 ≤ n ∧ n ≤ 255) : Fn Try.prog 4 [.v (.int .u8 n), .v (.int .i64 a)] (.v (.bool true)) := by
 have hk : 0 ≤ n % 32 ∧ n % 32 < 32 := by omega
 obtain ⟨kf, hkf⟩ : ∃ kf, kf = n % 32 := ⟨_, rfl⟩
 refine fnE_of_body (N := 62) Try.func4 rfl rfl (resOf1 rfl) (by simp) (fun w0 X hL_ => ?_)
 refine seqR ?_
 refine mG (.b false) ?_
 refine op0 ?_
 refine awp_seq ?_
 refine seqR ?_
 refine opG rfl (call_ (l8_three) rfl rfl rfl rfl rfl bd9 rfl ?_)
 refine opG rfl (aop_not rfl rfl rfl rfl ?_)
 refine op0 ?_
 refine awp_cond false rfl rfl (fun h => by cases h) (fun _ => ?_)
 refine awp_skip ?_
 refine seqR ?_
 refine opG rfl (callG_ false [] [51, 52] (t_New) rfl rfl rfl rfl rfl bd10 (by decide) trivial trivial rfl ⟨rfl, rfl, trivial⟩ (fun h => by cases h) rfl (place_cons (ost_map (lm_cons rfl lm_nil)) (place_cons (ost_no (cs := (enc eT ([] : List Tm)))) place_nil)) ?_)
 refine mG (.pt 51 0) ?_
 refine op0 ?_
 refine rs_ (upd (upd (upd (upd none_ 0 (.v (.int .u8 n))) 1 (.i a)) 4 (.b false)) 5 (.pt 51 0)) (updO (updO noOb 51 (.live ⟨[.sl 52 0 0], 57, 1⟩)) 52 (.live ⟨(enc eT ([] : List Tm)), 59, 2⟩)) (lu rfl (lu rfl (lu rfl (lu rfl ln)))) rfl ?_
 refine awp_seq ?_
 refine seqR ?_
 refine mG (.i 0) ?_
 refine op0 ?_
 refine awp_block ?_
 refine awp_countI (fun i => ⟨(upd (upd (upd (upd (upd none_ 0 (.v (.int .u8 n))) 1 (.i a)) 4 (.b false)) 5 (.pt 1 0)) 6 (.i (i : Int))), (updO (updO noOb 1 (.live ⟨[.sl 2 0 ((rowF a i).length)], 57, 1⟩)) 2 (.live ⟨(enc eT (rowF a i)), 59, 2⟩))⟩) (fun i => True) (32) ?_ trivial (fun i hk_i hinv => ?_)
 ·skip
  exact imp_ler [(51, 1), (52, 2)] (lerL [(51, 1), (52, 2)] [((51, 1), .live ⟨[.sl 2 0 ((rowF a 0).length)], 57, 1⟩), ((52, 2), .live ⟨(enc eT (rowF a 0)), 59, 2⟩)] rfl (by decide) (by decide) ⟨row_map (o := ⟨[.sl 52 0 0], 57, 1⟩) rfl (om_ (lm_cons rfl lm_nil)) (oks_cons (.sl _ _ _ (by simp)) oks_nil), row_no (o := ⟨(enc eT ([] : List Tm)), 59, 2⟩) rfl rfl, trivial⟩ (sr_same 6 (.i (0 : Int)) rfl NoI.out (sr_map 5 (.pt 1 0) (by first | exact Ok.sl _ _ _ (by first | decide | simp) | exact Ok.pt _ _ (by first | decide | simp)) rfl (sr_same 4 (.b false) rfl NoI.out (sr_same 1 (.i a) rfl NoI.out (sr_same 0 (.v (.int .u8 n)) rfl NoI.out sr_none)))))) (keep_of rfl)
 have hrl := rowF_len a i
 refine awp_seq ?_
 refine seqR ?_
 refine mG (.i (i : Int)) ?_
 refine bG ((.bool (decide ((i : Int) < 32)))) ?_
 refine op0 ?_
 refine awp_cond (decide ((i : Int) < 32)) rfl rfl (fun hc1 => ?_) (fun hc1 => ?_)
 ·skip
  have hf1 := of_decide_eq_true hc1
  refine awp_skip ?_
  refine awp_seq ?_
  refine awp_block ?_
  refine seqR ?_
  refine mG (.pt 1 0) ?_
  refine mG (.i (i : Int)) ?_
  refine mG (.i a) ?_
  refine opG rfl (callG_ false [1, 2] [53] (t_Start (rowF a i) i a (by omega)) rfl rfl rfl rfl rfl bd11 (by decide) ⟨giv_map (o := ⟨[.sl 2 0 ((rowF a i).length)], 57, 1⟩) rfl (om_ (lm_cons rfl lm_nil)) (oks_cons (.sl _ _ _ (by simp)) oks_nil), giv_no (o := ⟨(enc eT (rowF a i)), 59, 2⟩) rfl rfl, trivial⟩ ⟨(arg_own (.pt _ _ (by simp)) rfl), (arg_no (a := .i (i : Int))), (arg_no (a := .i a)), trivial⟩ rfl ⟨rfl, trivial⟩ (fun h => by cases h) (am_no (a := .i (errT (rowF a i) (i : Int)))) (place_cons (ost_map (lm_cons rfl lm_nil)) (place_cons rfl (place_cons (ost_no (cs := (enc eT (startT (rowF a i) (i : Int) a)))) place_nil))) ?_)
  refine bG ((.bool ((errT (rowF a i) (i : Int)) != 0))) ?_
  refine op0 ?_
  refine rs_ (upd (upd (upd (upd (upd (upd none_ 0 (.v (.int .u8 n))) 1 (.i a)) 4 (.b false)) 5 (.pt 1 0)) 6 (.i (i : Int))) 19 (.b ((errT (rowF a i) (i : Int)) != 0))) (updO (updO (updO (updO (updO noOb 1 (.live ⟨[.sl 2 0 ((rowF a i).length)], 57, 1⟩)) 2 (.live ⟨(enc eT (rowF a i)), 59, 2⟩)) 1 (.live ⟨[.sl 53 0 ((startT (rowF a i) (i : Int) a).length)], 57, 1⟩)) 2 .dead) 53 (.live ⟨(enc eT (startT (rowF a i) (i : Int) a)), 59, 2⟩)) (lu rfl (lu rfl (lu rfl (lu rfl (lu rfl (lu rfl ln)))))) rfl ?_
  refine awp_cond ((errT (rowF a i) (i : Int)) != 0) rfl rfl (fun hc2 => ?_) (fun hc2 => ?_)
  ·skip
   have hf2 := (bne_iff_ne).1 hc2
   exfalso; rw [fill_err a (show i < 32 by omega)] at hc2; simp at hc2
  ·skip
   have hf3 := (bne_eq_false_iff_eq).1 hc2
   refine awp_skip ?_
   refine regR ?_
   refine mG (.i (i : Int)) ?_
   refine opG rfl (aop_binI (u := (.int .i64 ((i + 1 : Nat) : Int))) rfl rfl rfl rfl rfl trivial (addN (by omega)) ?_)
   refine mG (.i ((i + 1 : Nat) : Int)) ?_
   refine op0 ?_
   show _ ∧ _
   have hs_ := fill_step a (show i < 32 by omega)
   refine ⟨by omega, trivial, ?_⟩
   exact imp_ler [(1, 1), (53, 2)] (lerL [(1, 1), (53, 2)] [((1, 1), .live ⟨[.sl 2 0 ((rowF a (i + 1)).length)], 57, 1⟩), ((53, 2), .live ⟨(enc eT (rowF a (i + 1))), 59, 2⟩)] rfl (by decide) (by decide) ⟨row_map (o := ⟨[.sl 53 0 ((startT (rowF a i) (i : Int) a).length)], 57, 1⟩) rfl (by rw [← hs_]; exact (om_ (lm_cons rfl lm_nil))) (oks_cons (.sl _ _ _ (by simp)) oks_nil), row_no (o := ⟨(enc eT (startT (rowF a i) (i : Int) a)), 59, 2⟩) rfl (by rw [← hs_]), trivial⟩ (sr_same 6 (.i ((i + 1) : Int)) rfl NoI.out (sr_map 5 (.pt 1 0) (by first | exact Ok.sl _ _ _ (by first | decide | simp) | exact Ok.pt _ _ (by first | decide | simp)) rfl (sr_same 4 (.b false) rfl NoI.out (sr_same 1 (.i a) rfl NoI.out (sr_same 0 (.v (.int .u8 n)) rfl NoI.out sr_none)))))) (keep_of rfl)
 ·skip
  have hf4 := of_decide_eq_false hc1
  have hi : i = 32 := by omega
  refine awp_exit ?_
  obtain ⟨L, hL⟩ : ∃ L, L = rowF a 32 := ⟨_, rfl⟩
  obtain ⟨f0, f1, f2, f3, f4, f5, f6, f7⟩ := fl_facts hL (show 0 ≤ kf ∧ kf < 32 by omega)
  have g1 := startT_len (l := L) (i := 32) (a := a) (by omega)
  have g2 := startT_len (i := -1) (a := a) g1
  have g3 := startT_len (i := kf) (a := a) g2
  have g4 := delT_len (l := startT (startT (startT L 32 a) (-1) a) kf a) (i := kf)
  have g5 := startT_len (l := delT (startT (startT (startT L 32 a) (-1) a) kf a) kf) (i := 32) (a := a) (by omega)
  refine awp_imp ⟨(upd (upd (upd (upd (upd (upd (upd none_ 0 (.v (.int .u8 n))) 1 (.i a)) 4 (.b false)) 5 (.pt 1 0)) 6 (.i (i : Int))) 11 (.i (i : Int))) 12 (.b (decide ((i : Int) < 32)))), (updO (updO noOb 1 (.live ⟨[.sl 2 0 L.length], 57, 1⟩)) 2 (.live ⟨(enc eT L), 59, 2⟩))⟩ ?_ ?_
  ·skip
   exact imp_ler [(1, 1), (2, 2)] (lerL [(1, 1), (2, 2)] [((1, 1), .live ⟨[.sl 2 0 L.length], 57, 1⟩), ((2, 2), .live ⟨(enc eT L), 59, 2⟩)] rfl (by decide) (by decide) ⟨row_map (o := ⟨[.sl 2 0 ((rowF a i).length)], 57, 1⟩) rfl (by rw [hi, ← hL]; exact (om_ (lm_cons rfl lm_nil))) (oks_cons (.sl _ _ _ (by simp)) oks_nil), row_no (o := ⟨(enc eT (rowF a i)), 59, 2⟩) rfl (by rw [hi, hL]), trivial⟩ (sr_same 12 (.b (decide ((i : Int) < 32))) rfl NoI.out (sr_same 11 (.i (i : Int)) rfl NoI.out (sr_same 6 (.i (i : Int)) rfl NoI.out (sr_map 5 (.pt 1 0) (by first | exact Ok.sl _ _ _ (by first | decide | simp) | exact Ok.pt _ _ (by first | decide | simp)) rfl (sr_same 4 (.b false) rfl NoI.out (sr_same 1 (.i a) rfl NoI.out (sr_same 0 (.v (.int .u8 n)) rfl NoI.out sr_none)))))))) (keep_of rfl)
  refine seqR ?_
  refine mG (.v (.int .u8 n)) ?_
  refine opG rfl (aop_binI (u := (.int .u8 (n % 32))) rfl rfl rfl rfl rfl (by show _ ≠ _; decide) (remI (by omega)) ?_)
  refine opG rfl (aop_conv' rfl rfl rfl ut5 ut3 rfl (IntWalk.i64_in _ (by omega)) ?_)
  refine opG rfl (aop_eqv (d := 7) (a := .i (n % 32)) (b := .i kf) (aop_move (av := .i (n % 32)) (.inr rfl) rfl rfl rfl rfl) (by rw [hkf] <;> rfl) ?_)
  refine op0 ?_
  refine rs_ (upd (upd (upd (upd none_ 1 (.i a)) 4 (.b false)) 5 (.pt 1 0)) 7 (.i kf)) (updO (updO noOb 1 (.live ⟨[.sl 2 0 L.length], 57, 1⟩)) 2 (.live ⟨(enc eT L), 59, 2⟩)) (lu rfl (lu rfl (lu rfl (lu rfl ln)))) rfl ?_
  refine seqR ?_
  refine mG (.pt 1 0) ?_
  refine mG (.i a) ?_
  refine opG rfl (callG_ false [1, 2] [54] (t_Start L 32 a (by first | omega | (simp; done) | decide | (simp at *; omega))) rfl rfl rfl rfl rfl bd11 (by decide) ⟨giv_map (o := ⟨[.sl 2 0 L.length], 57, 1⟩) rfl (om_ (lm_cons rfl lm_nil)) (oks_cons (.sl _ _ _ (by simp)) oks_nil), giv_no (o := ⟨(enc eT L), 59, 2⟩) rfl rfl, trivial⟩ ⟨(arg_own (.pt _ _ (by simp)) rfl), (arg_no (a := .i 32)), (arg_no (a := .i a)), trivial⟩ rfl ⟨rfl, trivial⟩ (fun h => by cases h) (am_no (a := .i (errT L 32))) (place_cons (ost_map (lm_cons rfl lm_nil)) (place_cons rfl (place_cons (ost_no (cs := (enc eT (startT L 32 a)))) place_nil))) ?_)
  refine opG rfl (aop_eqv (d := 26) (a := .b ((errT L 32) == 6)) (b := .b true) (aop_binI (u := (.bool ((errT L 32) == 6))) rfl rfl rfl rfl rfl trivial rfl rfl) (by rw [f1] <;> rfl) ?_)
  refine aops_rs (upd (upd (upd (upd (upd none_ 1 (.i a)) 4 (.b false)) 5 (.pt 1 0)) 7 (.i kf)) 26 (.b true)) (updO (updO (updO (updO (updO noOb 1 (.live ⟨[.sl 2 0 L.length], 57, 1⟩)) 2 (.live ⟨(enc eT L), 59, 2⟩)) 1 (.live ⟨[.sl 54 0 ((startT L 32 a).length)], 57, 1⟩)) 2 .dead) 54 (.live ⟨(enc eT (startT L 32 a)), 59, 2⟩)) (lu rfl (lu rfl (lu rfl (lu rfl (lu rfl ln))))) rfl ?_
  refine mG (.b true) ?_
  refine opY rfl rfl rfl rfl (aop_move (av := .pt 1 0) (.inl rfl) rfl rfl rfl ?_)
  refine opY rfl rfl rfl rfl (aop_move (av := .i a) (.inl rfl) rfl rfl rfl ?_)
  refine opY rfl rfl rfl rfl (callG_ false [1, 54] [55] (t_Start (startT L 32 a) (-1) a (by first | omega | (simp; done) | decide | (simp at *; omega))) rfl rfl rfl rfl rfl bd11 (by decide) ⟨giv_map (o := ⟨[.sl 54 0 ((startT L 32 a).length)], 57, 1⟩) rfl (om_ (lm_cons rfl lm_nil)) (oks_cons (.sl _ _ _ (by simp)) oks_nil), giv_no (o := ⟨(enc eT (startT L 32 a)), 59, 2⟩) rfl rfl, trivial⟩ ⟨(arg_own (.pt _ _ (by simp)) rfl), (arg_no (a := .i (-1))), (arg_no (a := .i a)), trivial⟩ rfl ⟨rfl, trivial⟩ (fun h => by cases h) (am_no (a := .i (errT (startT L 32 a) (-1)))) (place_cons (ost_map (lm_cons rfl lm_nil)) (place_cons rfl (place_cons (ost_no (cs := (enc eT (startT (startT L 32 a) (-1) a)))) place_nil))) ?_)
  refine opY rfl rfl rfl rfl (aop_eqv (d := 31) (a := .b ((errT (startT L 32 a) (-1)) == 6)) (b := .b true) (aop_binI (u := (.bool ((errT (startT L 32 a) (-1)) == 6))) rfl rfl rfl rfl rfl trivial rfl rfl) (by rw [f2] <;> rfl) ?_)
  refine opG rfl (aop_eqv (d := 32) (a := .b true) (b := .b true) (aop_pick (b := true) (av := .b true) rfl rfl rfl rfl rfl rfl) (by rfl) ?_)
  refine aops_rs (upd (upd (upd (upd (upd none_ 1 (.i a)) 4 (.b false)) 5 (.pt 1 0)) 7 (.i kf)) 32 (.b true)) (updO (updO (updO (updO (updO (updO (updO (updO noOb 1 (.live ⟨[.sl 2 0 L.length], 57, 1⟩)) 2 (.live ⟨(enc eT L), 59, 2⟩)) 1 (.live ⟨[.sl 54 0 ((startT L 32 a).length)], 57, 1⟩)) 2 .dead) 54 (.live ⟨(enc eT (startT L 32 a)), 59, 2⟩)) 1 (.live ⟨[.sl 55 0 ((startT (startT L 32 a) (-1) a).length)], 57, 1⟩)) 54 .dead) 55 (.live ⟨(enc eT (startT (startT L 32 a) (-1) a)), 59, 2⟩)) (lu rfl (lu rfl (lu rfl (lu rfl (lu rfl ln))))) rfl ?_
  refine mG (.b true) ?_
  refine opY rfl rfl rfl rfl (aop_move (av := .pt 1 0) (.inl rfl) rfl rfl rfl ?_)
  refine opY rfl rfl rfl rfl (aop_move (av := .i kf) (.inl rfl) rfl rfl rfl ?_)
  refine opY rfl rfl rfl rfl (aop_move (av := .i a) (.inl rfl) rfl rfl rfl ?_)
  refine opY rfl rfl rfl rfl (callG_ false [1, 55] [56] (t_Start (startT (startT L 32 a) (-1) a) kf a (by first | omega | (simp; done) | decide | (simp at *; omega))) rfl rfl rfl rfl rfl bd11 (by decide) ⟨giv_map (o := ⟨[.sl 55 0 ((startT (startT L 32 a) (-1) a).length)], 57, 1⟩) rfl (om_ (lm_cons rfl lm_nil)) (oks_cons (.sl _ _ _ (by simp)) oks_nil), giv_no (o := ⟨(enc eT (startT (startT L 32 a) (-1) a)), 59, 2⟩) rfl rfl, trivial⟩ ⟨(arg_own (.pt _ _ (by simp)) rfl), (arg_no (a := .i kf)), (arg_no (a := .i a)), trivial⟩ rfl ⟨rfl, trivial⟩ (fun h => by cases h) (am_no (a := .i (errT (startT (startT L 32 a) (-1) a) kf))) (place_cons (ost_map (lm_cons rfl lm_nil)) (place_cons rfl (place_cons (ost_no (cs := (enc eT (startT (startT (startT L 32 a) (-1) a) kf a)))) place_nil))) ?_)
  refine opY rfl rfl rfl rfl (aop_eqv (d := 38) (a := .b ((errT (startT (startT L 32 a) (-1) a) kf) == 0)) (b := .b true) (aop_binI (u := (.bool ((errT (startT (startT L 32 a) (-1) a) kf) == 0))) rfl rfl rfl rfl rfl trivial rfl rfl) (by rw [f3] <;> rfl) ?_)
  refine opG rfl (aop_eqv (d := 39) (a := .b true) (b := .b true) (aop_pick (b := true) (av := .b true) rfl rfl rfl rfl rfl rfl) (by rfl) ?_)
  refine aops_rs (upd (upd (upd (upd (upd none_ 1 (.i a)) 4 (.b false)) 5 (.pt 1 0)) 7 (.i kf)) 39 (.b true)) (updO (updO (updO (updO (updO (updO (updO (updO (updO (updO (updO noOb 1 (.live ⟨[.sl 2 0 L.length], 57, 1⟩)) 2 (.live ⟨(enc eT L), 59, 2⟩)) 1 (.live ⟨[.sl 54 0 ((startT L 32 a).length)], 57, 1⟩)) 2 .dead) 54 (.live ⟨(enc eT (startT L 32 a)), 59, 2⟩)) 1 (.live ⟨[.sl 55 0 ((startT (startT L 32 a) (-1) a).length)], 57, 1⟩)) 54 .dead) 55 (.live ⟨(enc eT (startT (startT L 32 a) (-1) a)), 59, 2⟩)) 1 (.live ⟨[.sl 56 0 ((startT (startT (startT L 32 a) (-1) a) kf a).length)], 57, 1⟩)) 55 .dead) 56 (.live ⟨(enc eT (startT (startT (startT L 32 a) (-1) a) kf a)), 59, 2⟩)) (lu rfl (lu rfl (lu rfl (lu rfl (lu rfl ln))))) rfl ?_
  refine mG (.b true) ?_
  refine opY rfl rfl rfl rfl (aop_move (av := .pt 1 0) (.inl rfl) rfl rfl rfl ?_)
  refine opY rfl rfl rfl rfl (callL_ (t_Len (startT (startT (startT L 32 a) (-1) a) kf a) (by first | omega | (simp; done) | decide | (simp at *; omega))) rfl rfl rfl rfl rfl bd14 (lends_cons (lend_pt rfl (lends_cons (lend_s (id := 56) (n := (startT (startT (startT L 32 a) (-1) a) kf a).length) (o := ⟨(enc eT (startT (startT (startT L 32 a) (-1) a) kf a)), 59, 2⟩) rfl (enc_len (fun _ => rfl) (by first | rfl | (simp; done)))) lends_nil)) lends_nil) ?_)
  refine opY rfl rfl rfl rfl (aop_eqv (d := 43) (a := .b (((startT (startT (startT L 32 a) (-1) a) kf a).length : Int) == 32)) (b := .b true) (aop_binI (u := (.bool (((startT (startT (startT L 32 a) (-1) a) kf a).length : Int) == 32))) rfl rfl rfl rfl rfl trivial rfl rfl) (by rw [f4] <;> rfl) ?_)
  refine opG rfl (aop_eqv (d := 44) (a := .b true) (b := .b true) (aop_pick (b := true) (av := .b true) rfl rfl rfl rfl rfl rfl) (by rfl) ?_)
  refine aops_rs (upd (upd (upd (upd (upd none_ 1 (.i a)) 4 (.b false)) 5 (.pt 1 0)) 7 (.i kf)) 44 (.b true)) (updO (updO (updO (updO (updO (updO (updO (updO (updO (updO (updO noOb 1 (.live ⟨[.sl 2 0 L.length], 57, 1⟩)) 2 (.live ⟨(enc eT L), 59, 2⟩)) 1 (.live ⟨[.sl 54 0 ((startT L 32 a).length)], 57, 1⟩)) 2 .dead) 54 (.live ⟨(enc eT (startT L 32 a)), 59, 2⟩)) 1 (.live ⟨[.sl 55 0 ((startT (startT L 32 a) (-1) a).length)], 57, 1⟩)) 54 .dead) 55 (.live ⟨(enc eT (startT (startT L 32 a) (-1) a)), 59, 2⟩)) 1 (.live ⟨[.sl 56 0 ((startT (startT (startT L 32 a) (-1) a) kf a).length)], 57, 1⟩)) 55 .dead) 56 (.live ⟨(enc eT (startT (startT (startT L 32 a) (-1) a) kf a)), 59, 2⟩)) (lu rfl (lu rfl (lu rfl (lu rfl (lu rfl ln))))) rfl ?_
  refine mG (.b true) ?_
  refine opY rfl rfl rfl rfl (aop_move (av := .pt 1 0) (.inl rfl) rfl rfl rfl ?_)
  refine opY rfl rfl rfl rfl (aop_move (av := .i kf) (.inl rfl) rfl rfl rfl ?_)
  refine opY rfl rfl rfl rfl (callG_ false [1, 56] [] (t_Stop (startT (startT (startT L 32 a) (-1) a) kf a) kf (by first | omega | (simp; done) | decide | (simp at *; omega))) rfl rfl rfl rfl rfl bd15 (by decide) ⟨giv_map (o := ⟨[.sl 56 0 ((startT (startT (startT L 32 a) (-1) a) kf a).length)], 57, 1⟩) rfl (om_ (lm_cons rfl lm_nil)) (oks_cons (.sl _ _ _ (by simp)) oks_nil), giv_no (o := ⟨(enc eT (startT (startT (startT L 32 a) (-1) a) kf a)), 59, 2⟩) rfl rfl, trivial⟩ ⟨(arg_own (.pt _ _ (by simp)) rfl), (arg_no (a := .i kf)), trivial⟩ rfl trivial (fun h => by cases h) (am_no (a := .b (hasT (startT (startT (startT L 32 a) (-1) a) kf a) kf))) (place_cons (ost_map (lm_cons rfl lm_nil)) (place_cons (ost_no (cs := (enc eT (delT (startT (startT (startT L 32 a) (-1) a) kf a) kf)))) place_nil)) ?_)
  refine opG rfl (aop_eqv (d := 49) (a := .b (hasT (startT (startT (startT L 32 a) (-1) a) kf a) kf)) (b := .b true) (aop_pick (b := true) (av := .b (hasT (startT (startT (startT L 32 a) (-1) a) kf a) kf)) rfl rfl rfl rfl rfl rfl) (by rw [f5] <;> rfl) ?_)
  refine aops_rs (upd (upd (upd (upd (upd none_ 1 (.i a)) 4 (.b false)) 5 (.pt 1 0)) 7 (.i kf)) 49 (.b true)) (updO (updO (updO (updO (updO (updO (updO (updO (updO (updO (updO (updO (updO noOb 1 (.live ⟨[.sl 2 0 L.length], 57, 1⟩)) 2 (.live ⟨(enc eT L), 59, 2⟩)) 1 (.live ⟨[.sl 54 0 ((startT L 32 a).length)], 57, 1⟩)) 2 .dead) 54 (.live ⟨(enc eT (startT L 32 a)), 59, 2⟩)) 1 (.live ⟨[.sl 55 0 ((startT (startT L 32 a) (-1) a).length)], 57, 1⟩)) 54 .dead) 55 (.live ⟨(enc eT (startT (startT L 32 a) (-1) a)), 59, 2⟩)) 1 (.live ⟨[.sl 56 0 ((startT (startT (startT L 32 a) (-1) a) kf a).length)], 57, 1⟩)) 55 .dead) 56 (.live ⟨(enc eT (startT (startT (startT L 32 a) (-1) a) kf a)), 59, 2⟩)) 1 (.live ⟨[.sl 56 0 ((delT (startT (startT (startT L 32 a) (-1) a) kf a) kf).length)], 57, 1⟩)) 56 (.live ⟨(enc eT (delT (startT (startT (startT L 32 a) (-1) a) kf a) kf)), 59, 2⟩)) (lu rfl (lu rfl (lu rfl (lu rfl (lu rfl ln))))) rfl ?_
  refine mG (.b true) ?_
  refine opY rfl rfl rfl rfl (aop_move (av := .pt 1 0) (.inl rfl) rfl rfl rfl ?_)
  refine opY rfl rfl rfl rfl (aop_move (av := .i a) (.inl rfl) rfl rfl rfl ?_)
  refine opY rfl rfl rfl rfl (callG_ false [1, 56] [57] (t_Start (delT (startT (startT (startT L 32 a) (-1) a) kf a) kf) 32 a (by first | omega | (simp; done) | decide | (simp at *; omega))) rfl rfl rfl rfl rfl bd11 (by decide) ⟨giv_map (o := ⟨[.sl 56 0 ((delT (startT (startT (startT L 32 a) (-1) a) kf a) kf).length)], 57, 1⟩) rfl (om_ (lm_cons rfl lm_nil)) (oks_cons (.sl _ _ _ (by simp)) oks_nil), giv_no (o := ⟨(enc eT (delT (startT (startT (startT L 32 a) (-1) a) kf a) kf)), 59, 2⟩) rfl rfl, trivial⟩ ⟨(arg_own (.pt _ _ (by simp)) rfl), (arg_no (a := .i 32)), (arg_no (a := .i a)), trivial⟩ rfl ⟨rfl, trivial⟩ (fun h => by cases h) (am_no (a := .i (errT (delT (startT (startT (startT L 32 a) (-1) a) kf a) kf) 32))) (place_cons (ost_map (lm_cons rfl lm_nil)) (place_cons rfl (place_cons (ost_no (cs := (enc eT (startT (delT (startT (startT (startT L 32 a) (-1) a) kf a) kf) 32 a)))) place_nil))) ?_)
  refine opY rfl rfl rfl rfl (aop_eqv (d := 54) (a := .b ((errT (delT (startT (startT (startT L 32 a) (-1) a) kf a) kf) 32) == 0)) (b := .b true) (aop_binI (u := (.bool ((errT (delT (startT (startT (startT L 32 a) (-1) a) kf a) kf) 32) == 0))) rfl rfl rfl rfl rfl trivial rfl rfl) (by rw [f6] <;> rfl) ?_)
  refine opG rfl (aop_eqv (d := 55) (a := .b true) (b := .b true) (aop_pick (b := true) (av := .b true) rfl rfl rfl rfl rfl rfl) (by rfl) ?_)
  refine aops_rs (upd (upd (upd (upd none_ 4 (.b false)) 5 (.pt 1 0)) 7 (.i kf)) 55 (.b true)) (updO (updO (updO (updO (updO (updO (updO (updO (updO (updO (updO (updO (updO (updO (updO (updO noOb 1 (.live ⟨[.sl 2 0 L.length], 57, 1⟩)) 2 (.live ⟨(enc eT L), 59, 2⟩)) 1 (.live ⟨[.sl 54 0 ((startT L 32 a).length)], 57, 1⟩)) 2 .dead) 54 (.live ⟨(enc eT (startT L 32 a)), 59, 2⟩)) 1 (.live ⟨[.sl 55 0 ((startT (startT L 32 a) (-1) a).length)], 57, 1⟩)) 54 .dead) 55 (.live ⟨(enc eT (startT (startT L 32 a) (-1) a)), 59, 2⟩)) 1 (.live ⟨[.sl 56 0 ((startT (startT (startT L 32 a) (-1) a) kf a).length)], 57, 1⟩)) 55 .dead) 56 (.live ⟨(enc eT (startT (startT (startT L 32 a) (-1) a) kf a)), 59, 2⟩)) 1 (.live ⟨[.sl 56 0 ((delT (startT (startT (startT L 32 a) (-1) a) kf a) kf).length)], 57, 1⟩)) 56 (.live ⟨(enc eT (delT (startT (startT (startT L 32 a) (-1) a) kf a) kf)), 59, 2⟩)) 1 (.live ⟨[.sl 57 0 ((startT (delT (startT (startT (startT L 32 a) (-1) a) kf a) kf) 32 a).length)], 57, 1⟩)) 56 .dead) 57 (.live ⟨(enc eT (startT (delT (startT (startT (startT L 32 a) (-1) a) kf a) kf) 32 a)), 59, 2⟩)) (lu rfl (lu rfl (lu rfl (lu rfl ln)))) rfl ?_
  refine mG (.b true) ?_
  refine opY rfl rfl rfl rfl (aop_move (av := .pt 1 0) (.inl rfl) rfl rfl rfl ?_)
  refine opY rfl rfl rfl rfl (aop_move (av := .i kf) (.inl rfl) rfl rfl rfl ?_)
  refine opY rfl rfl rfl rfl (callG_ false [1, 57] [] (t_Stop (startT (delT (startT (startT (startT L 32 a) (-1) a) kf a) kf) 32 a) kf (by first | omega | (simp; done) | decide | (simp at *; omega))) rfl rfl rfl rfl rfl bd15 (by decide) ⟨giv_map (o := ⟨[.sl 57 0 ((startT (delT (startT (startT (startT L 32 a) (-1) a) kf a) kf) 32 a).length)], 57, 1⟩) rfl (om_ (lm_cons rfl lm_nil)) (oks_cons (.sl _ _ _ (by simp)) oks_nil), giv_no (o := ⟨(enc eT (startT (delT (startT (startT (startT L 32 a) (-1) a) kf a) kf) 32 a)), 59, 2⟩) rfl rfl, trivial⟩ ⟨(arg_own (.pt _ _ (by simp)) rfl), (arg_no (a := .i kf)), trivial⟩ rfl trivial (fun h => by cases h) (am_no (a := .b (hasT (startT (delT (startT (startT (startT L 32 a) (-1) a) kf a) kf) 32 a) kf))) (place_cons (ost_map (lm_cons rfl lm_nil)) (place_cons (ost_no (cs := (enc eT (delT (startT (delT (startT (startT (startT L 32 a) (-1) a) kf a) kf) 32 a) kf)))) place_nil)) ?_)
  refine opY rfl rfl rfl rfl (aop_eqv (d := 60) (a := .b (!(hasT (startT (delT (startT (startT (startT L 32 a) (-1) a) kf a) kf) 32 a) kf))) (b := .b true) (aop_not rfl rfl rfl rfl rfl) (by rw [f7] <;> rfl) ?_)
  refine opG rfl (aop_pick (b := true) (av := .b true) rfl rfl rfl rfl rfl ?_)
  refine mG (.b true) ?_
  refine op0 ?_
  refine rs_ (upd none_ 4 (.b true)) (updO (updO (updO (updO (updO (updO (updO (updO (updO (updO (updO (updO (updO (updO (updO (updO (updO (updO noOb 1 (.live ⟨[.sl 2 0 L.length], 57, 1⟩)) 2 (.live ⟨(enc eT L), 59, 2⟩)) 1 (.live ⟨[.sl 54 0 ((startT L 32 a).length)], 57, 1⟩)) 2 .dead) 54 (.live ⟨(enc eT (startT L 32 a)), 59, 2⟩)) 1 (.live ⟨[.sl 55 0 ((startT (startT L 32 a) (-1) a).length)], 57, 1⟩)) 54 .dead) 55 (.live ⟨(enc eT (startT (startT L 32 a) (-1) a)), 59, 2⟩)) 1 (.live ⟨[.sl 56 0 ((startT (startT (startT L 32 a) (-1) a) kf a).length)], 57, 1⟩)) 55 .dead) 56 (.live ⟨(enc eT (startT (startT (startT L 32 a) (-1) a) kf a)), 59, 2⟩)) 1 (.live ⟨[.sl 56 0 ((delT (startT (startT (startT L 32 a) (-1) a) kf a) kf).length)], 57, 1⟩)) 56 (.live ⟨(enc eT (delT (startT (startT (startT L 32 a) (-1) a) kf a) kf)), 59, 2⟩)) 1 (.live ⟨[.sl 57 0 ((startT (delT (startT (startT (startT L 32 a) (-1) a) kf a) kf) 32 a).length)], 57, 1⟩)) 56 .dead) 57 (.live ⟨(enc eT (startT (delT (startT (startT (startT L 32 a) (-1) a) kf a) kf) 32 a)), 59, 2⟩)) 1 (.live ⟨[.sl 57 0 ((delT (startT (delT (startT (startT (startT L 32 a) (-1) a) kf a) kf) 32 a) kf).length)], 57, 1⟩)) 57 (.live ⟨(enc eT (delT (startT (delT (startT (startT (startT L 32 a) (-1) a) kf a) kf) 32 a) kf)), 59, 2⟩)) (lu rfl ln) rfl ?_
  refine awp_ret ?_
  exact fret (av := .v (.bool true)) rfl rfl rfl
end Go.Lo
