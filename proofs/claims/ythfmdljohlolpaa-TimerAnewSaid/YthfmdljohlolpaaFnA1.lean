/- Walks of Go functions in the logic of values. -/
import Derived.Test.YthfmdljohlolpaaFnA1Ty
import Derived.Test.YthfmdljohlolpaaDef
import Derived.Test.YthfmdljohlolpaaTd
import Derived.Test.YthfmdljohlolpaaTc
import Derived.Test.YthfmdljohlolpaaTe
import Derived.Test.YthfmdljohlolpaaFnA
import Derived.Test.YthfmdljohlolpaaFnB
set_option linter.unusedVariables false
set_option linter.unusedSimpArgs false
set_option maxRecDepth 10000
set_option maxHeartbeats 16000000
namespace Go.Lo
open Go.Proofs
theorem l8_three   : Fn Try.prog 9 [] (.v (.bool true)) := by
 have h1 := startT_len (l := ([] : List Tm)) (i := 5) (a := 9) (by decide)
 have h2 := startT_len (i := 3) (a := 9) h1
 have h3 := startT_len (i := 7) (a := 2) h2
 have h4 := end_len 9 (startT (startT (startT ([] : List Tm) 5 9) 3 9) 7 2)
 refine fnE_of_body (N := 18) Try.func9 rfl rfl (resOf1 rfl) (by simp) (fun w0 X hL_ => ?_)
 refine seqR ?_
 refine mG (.b false) ?_
 refine op0 ?_
 refine seqR ?_
 refine opG rfl (callG_ false [] [51, 52] (t_New) rfl rfl rfl rfl rfl bd10 (by decide) trivial trivial rfl ⟨rfl, rfl, trivial⟩ (fun h => by cases h) rfl (place_cons (ost_map (lm_cons rfl lm_nil)) (place_cons (ost_no (cs := (enc eT ([] : List Tm)))) place_nil)) ?_)
 refine mG (.pt 51 0) ?_
 refine op0 ?_
 refine seqR ?_
 refine mG (.pt 51 0) ?_
 refine opG rfl (callG_ false [51, 52] [53] (t_Start ([] : List Tm) 5 9 (by decide)) rfl rfl rfl rfl rfl bd11 (by decide) ⟨giv_map (o := ⟨[.sl 52 0 0], 57, 1⟩) rfl (om_ (lm_cons rfl lm_nil)) (oks_cons (.sl _ _ _ (by simp)) oks_nil), giv_no (o := ⟨(enc eT ([] : List Tm)), 59, 2⟩) rfl rfl, trivial⟩ ⟨(arg_own (.pt _ _ (by simp)) rfl), (arg_no (a := .i 5)), (arg_no (a := .i 9)), trivial⟩ rfl ⟨rfl, trivial⟩ (fun h => by cases h) (am_no (a := .i (errT ([] : List Tm) 5))) (place_cons (ost_map (lm_cons rfl lm_nil)) (place_cons rfl (place_cons (ost_no (cs := (enc eT (startT ([] : List Tm) 5 9)))) place_nil))) ?_)
 refine op0 ?_
 refine rs_ (upd (upd none_ 0 (.b false)) 1 (.pt 51 0)) (updO (updO (updO (updO (updO noOb 51 (.live ⟨[.sl 52 0 0], 57, 1⟩)) 52 (.live ⟨(enc eT ([] : List Tm)), 59, 2⟩)) 51 (.live ⟨[.sl 53 0 ((startT ([] : List Tm) 5 9).length)], 57, 1⟩)) 52 .dead) 53 (.live ⟨(enc eT (startT ([] : List Tm) 5 9)), 59, 2⟩)) (lu rfl (lu rfl ln)) rfl ?_
 refine seqR ?_
 refine mG (.pt 51 0) ?_
 refine opG rfl (callG_ false [51, 53] [54] (t_Start (startT ([] : List Tm) 5 9) 3 9 (by omega)) rfl rfl rfl rfl rfl bd11 (by decide) ⟨giv_map (o := ⟨[.sl 53 0 ((startT ([] : List Tm) 5 9).length)], 57, 1⟩) rfl (om_ (lm_cons rfl lm_nil)) (oks_cons (.sl _ _ _ (by simp)) oks_nil), giv_no (o := ⟨(enc eT (startT ([] : List Tm) 5 9)), 59, 2⟩) rfl rfl, trivial⟩ ⟨(arg_own (.pt _ _ (by simp)) rfl), (arg_no (a := .i 3)), (arg_no (a := .i 9)), trivial⟩ rfl ⟨rfl, trivial⟩ (fun h => by cases h) (am_no (a := .i (errT (startT ([] : List Tm) 5 9) 3))) (place_cons (ost_map (lm_cons rfl lm_nil)) (place_cons rfl (place_cons (ost_no (cs := (enc eT (startT (startT ([] : List Tm) 5 9) 3 9)))) place_nil))) ?_)
 refine op0 ?_
 refine seqR ?_
 refine mG (.pt 51 0) ?_
 refine opG rfl (callG_ false [51, 54] [55] (t_Start (startT (startT ([] : List Tm) 5 9) 3 9) 7 2 (by omega)) rfl rfl rfl rfl rfl bd11 (by decide) ⟨giv_map (o := ⟨[.sl 54 0 ((startT (startT ([] : List Tm) 5 9) 3 9).length)], 57, 1⟩) rfl (om_ (lm_cons rfl lm_nil)) (oks_cons (.sl _ _ _ (by simp)) oks_nil), giv_no (o := ⟨(enc eT (startT (startT ([] : List Tm) 5 9) 3 9)), 59, 2⟩) rfl rfl, trivial⟩ ⟨(arg_own (.pt _ _ (by simp)) rfl), (arg_no (a := .i 7)), (arg_no (a := .i 2)), trivial⟩ rfl ⟨rfl, trivial⟩ (fun h => by cases h) (am_no (a := .i (errT (startT (startT ([] : List Tm) 5 9) 3 9) 7))) (place_cons (ost_map (lm_cons rfl lm_nil)) (place_cons rfl (place_cons (ost_no (cs := (enc eT (startT (startT (startT ([] : List Tm) 5 9) 3 9) 7 2)))) place_nil))) ?_)
 refine op0 ?_
 refine rs_ (upd (upd none_ 0 (.b false)) 1 (.pt 51 0)) (updO (updO (updO (updO (updO (updO (updO (updO (updO (updO (updO noOb 51 (.live ⟨[.sl 52 0 0], 57, 1⟩)) 52 (.live ⟨(enc eT ([] : List Tm)), 59, 2⟩)) 51 (.live ⟨[.sl 53 0 ((startT ([] : List Tm) 5 9).length)], 57, 1⟩)) 52 .dead) 53 (.live ⟨(enc eT (startT ([] : List Tm) 5 9)), 59, 2⟩)) 51 (.live ⟨[.sl 54 0 ((startT (startT ([] : List Tm) 5 9) 3 9).length)], 57, 1⟩)) 53 .dead) 54 (.live ⟨(enc eT (startT (startT ([] : List Tm) 5 9) 3 9)), 59, 2⟩)) 51 (.live ⟨[.sl 55 0 ((startT (startT (startT ([] : List Tm) 5 9) 3 9) 7 2).length)], 57, 1⟩)) 54 .dead) 55 (.live ⟨(enc eT (startT (startT (startT ([] : List Tm) 5 9) 3 9) 7 2)), 59, 2⟩)) (lu rfl (lu rfl ln)) rfl ?_
 refine awp_imp ⟨(upd (upd none_ 0 (.b false)) 1 (.pt 51 0)), (updO noOb 51 (.live ⟨[.q eT (startT (startT (startT ([] : List Tm) 5 9) 3 9) 7 2)], 57, 1⟩))⟩ ?_ ?_
 ·skip
  refine (frz_ [51] [(51, ⟨[.q eT (startT (startT (startT ([] : List Tm) 5 9) 3 9) 7 2)], 57, 1⟩)] rfl (fun _ h => h) ⟨keep_cells (cs := [.sl 55 0 ((startT (startT (startT ([] : List Tm) 5 9) 3 9) 7 2).length)]) (by simp) rfl rfl (frzs_cons (.inr (lend_s (id := 55) (n := (startT (startT (startT ([] : List Tm) 5 9) 3 9) 7 2).length) (o := ⟨(enc eT (startT (startT (startT ([] : List Tm) 5 9) 3 9) 7 2)), 59, 2⟩) rfl (enc_len (fun _ => rfl) (by first | rfl | (simp; done))))) frzs_nil), trivial⟩ (fz_same 1 (.pt 51 0) rfl (fz_same 0 (.b false) rfl fz_none))).trans ?_
  exact imp_ler [(51, 51)] (lerI 51 51 (o := ⟨[.q eT (startT (startT (startT ([] : List Tm) 5 9) 3 9) 7 2)], 57, 1⟩) rfl rfl (sM rfl (sS rfl sr_none))) (keep_of rfl)
 refine seqR ?_
 refine mG (.pt 51 0) ?_
 refine opG rfl (callG_ false [51] [56] (t_Ended (startT (startT (startT ([] : List Tm) 5 9) 3 9) 7 2) 9 (by omega)) rfl rfl rfl rfl rfl bd12 (by decide) ⟨giv_no (o := ⟨[.q eT (startT (startT (startT ([] : List Tm) 5 9) 3 9) 7 2)], 57, 1⟩) rfl rfl, trivial⟩ ⟨(arg_own (.pt _ _ (by simp)) rfl), (arg_no (a := .i 9)), trivial⟩ rfl ⟨rfl, trivial⟩ (fun h => by cases h) rfl (place_cons (ost_no (cs := [.q eT (restL 9 (startT (startT (startT ([] : List Tm) 5 9) 3 9) 7 2))])) (place_cons (ost_no (cs := (enc eI (idsT (endL 9 (startT (startT (startT ([] : List Tm) 5 9) 3 9) 7 2)))))) place_nil)) ?_)
 refine opG rfl (aop_lit rfl rfl rfl ut28 iz3 (by decide) (by decide) rfl rfl ?_)
 refine opG rfl (callL_ (r01_Ints (idsT (endL 9 (startT (startT (startT ([] : List Tm) 5 9) 3 9) 7 2))) [(7 : Int), (3 : Int), (5 : Int)] (by first | omega | (simp; done) | decide | (simp at *; omega))) rfl rfl rfl rfl rfl bd22 (lends_cons (lend_s (id := 56) (n := (idsT (endL 9 (startT (startT (startT ([] : List Tm) 5 9) 3 9) 7 2))).length) (o := ⟨(enc eI (idsT (endL 9 (startT (startT (startT ([] : List Tm) 5 9) 3 9) 7 2)))), 3, 1⟩) rfl (enc_len (fun _ => rfl) (by first | rfl | (simp; done)))) (lends_cons (lend_n (av := .ro 3 [.i 7, .i 3, .i 5])) lends_nil)) ?_)
 refine mG (.b (decide ((idsT (endL 9 (startT (startT (startT ([] : List Tm) 5 9) 3 9) 7 2))) = [(7 : Int), (3 : Int), (5 : Int)]))) ?_
 refine aops_grp 4 17 (.b ((decide ((idsT (endL 9 (startT (startT (startT ([] : List Tm) 5 9) 3 9) 7 2))) = [(7 : Int), (3 : Int), (5 : Int)])) && (((restL 9 (startT (startT (startT ([] : List Tm) 5 9) 3 9) 7 2)).length : Int) == 0))) ?_ ?_
 ·refine (Bool.eq_false_or_eq_true (decide ((idsT (endL 9 (startT (startT (startT ([] : List Tm) 5 9) 3 9) 7 2))) = [(7 : Int), (3 : Int), (5 : Int)]))).elim (fun hg1 => ?_) (fun hg1 => ?_)
  ·skip
   refine opY rfl rfl rfl (by show AV.v (.bool (decide ((idsT (endL 9 (startT (startT (startT ([] : List Tm) 5 9) 3 9) 7 2))) = [(7 : Int), (3 : Int), (5 : Int)]))) = _; rw [hg1]) (aop_move (av := .pt 51 0) (.inl rfl) rfl rfl rfl ?_)
   refine opY rfl rfl rfl (by show AV.v (.bool (decide ((idsT (endL 9 (startT (startT (startT ([] : List Tm) 5 9) 3 9) 7 2))) = [(7 : Int), (3 : Int), (5 : Int)]))) = _; rw [hg1]) (callL_ (t_Len (restL 9 (startT (startT (startT ([] : List Tm) 5 9) 3 9) 7 2)) (by first | omega | (simp; done) | decide | (simp at *; omega))) rfl rfl rfl rfl rfl bd14 (lends_cons (lend_pt rfl (lends_cons (lend_n (av := .q eT (restL 9 (startT (startT (startT ([] : List Tm) 5 9) 3 9) 7 2)))) lends_nil)) lends_nil) ?_)
   refine opY rfl rfl rfl (by show AV.v (.bool (decide ((idsT (endL 9 (startT (startT (startT ([] : List Tm) 5 9) 3 9) 7 2))) = [(7 : Int), (3 : Int), (5 : Int)]))) = _; rw [hg1]) (aop_binI (u := (.bool (((restL 9 (startT (startT (startT ([] : List Tm) 5 9) 3 9) 7 2)).length : Int) == 0))) rfl rfl rfl rfl rfl trivial rfl ?_)
   refine opG rfl (aop_pick (b := (decide ((idsT (endL 9 (startT (startT (startT ([] : List Tm) 5 9) 3 9) 7 2))) = [(7 : Int), (3 : Int), (5 : Int)]))) (av := .b (((restL 9 (startT (startT (startT ([] : List Tm) 5 9) 3 9) 7 2)).length : Int) == 0)) rfl rfl rfl rfl ((congrArg (fun b_ => cond b_ _ _) hg1).trans rfl) ?_)
   refine op0 ?_
   exact imp_env (lee_both 17 _ _ (by rw [hg1] <;> rfl) (lee_out 16 _ rfl (lee_out 15 _ rfl (lee_out 14 _ rfl (lee_same _)))))
  ·skip
   refine nG hg1 ?_
   refine nG hg1 ?_
   refine nG hg1 ?_
   refine opG rfl (aop_pick (b := (decide ((idsT (endL 9 (startT (startT (startT ([] : List Tm) 5 9) 3 9) 7 2))) = [(7 : Int), (3 : Int), (5 : Int)]))) (av := .b false) rfl rfl rfl rfl ((congrArg (fun b_ => cond b_ _ _) hg1).trans rfl) ?_)
   refine op0 ?_
   exact imp_env (lee_both 17 _ _ (by rw [hg1] <;> rfl) (lee_out 16 _ rfl (lee_out 15 _ rfl (lee_out 14 _ rfl (lee_same _)))))
 refine mG (.b ((decide ((idsT (endL 9 (startT (startT (startT ([] : List Tm) 5 9) 3 9) 7 2))) = [(7 : Int), (3 : Int), (5 : Int)])) && (((restL 9 (startT (startT (startT ([] : List Tm) 5 9) 3 9) 7 2)).length : Int) == 0))) ?_
 refine op0 ?_
 refine rs_ (upd none_ 0 (.b ((decide ((idsT (endL 9 (startT (startT (startT ([] : List Tm) 5 9) 3 9) 7 2))) = [(7 : Int), (3 : Int), (5 : Int)])) && (((restL 9 (startT (startT (startT ([] : List Tm) 5 9) 3 9) 7 2)).length : Int) == 0)))) (updO (updO (updO noOb 51 (.live ⟨[.q eT (startT (startT (startT ([] : List Tm) 5 9) 3 9) 7 2)], 57, 1⟩)) 51 (.live ⟨[.q eT (restL 9 (startT (startT (startT ([] : List Tm) 5 9) 3 9) 7 2))], 57, 1⟩)) 56 (.live ⟨(enc eI (idsT (endL 9 (startT (startT (startT ([] : List Tm) 5 9) 3 9) 7 2)))), 3, 1⟩)) (lu rfl ln) rfl ?_
 refine awp_ret ?_
 exact fret (av := .v (.bool ((decide ((idsT (endL 9 (startT (startT (startT ([] : List Tm) 5 9) 3 9) 7 2))) = [(7 : Int), (3 : Int), (5 : Int)])) && (((restL 9 (startT (startT (startT ([] : List Tm) 5 9) 3 9) 7 2)).length : Int) == 0)))) rfl rfl (by rw [three_law])
theorem l8_TimerAnew (a b id_ : Int) (hb : I64 b) : Fn Try.prog 6 [.v (.int .i64 a), .v (.int .i64 b), .v (.int .i64 id_)] (.v (.bool true)) := by
 have hn1 := startT_len (l := ([] : List Tm)) (i := id_) (a := a) (by decide)
 have hil_ := end_len (b - 1) [(⟨id_, b⟩ : Tm)]
 have hil2_ := end_len b [(⟨id_, b⟩ : Tm)]
 refine fnE_of_body (N := 67) Try.func6 rfl rfl (resOf1 rfl) (by simp) (fun w0 X hL_ => ?_)
 refine seqR ?_
 refine mG (.b false) ?_
 refine op0 ?_
 refine seqR ?_
 refine opG rfl (callG_ false [] [51, 52] (t_New) rfl rfl rfl rfl rfl bd10 (by decide) trivial trivial rfl ⟨rfl, rfl, trivial⟩ (fun h => by cases h) rfl (place_cons (ost_map (lm_cons rfl lm_nil)) (place_cons (ost_no (cs := (enc eT ([] : List Tm)))) place_nil)) ?_)
 refine mG (.pt 51 0) ?_
 refine op0 ?_
 refine seqR ?_
 refine mG (.pt 51 0) ?_
 refine mG (.i id_) ?_
 refine mG (.i a) ?_
 refine opG rfl (callG_ false [51, 52] [53] (t_Start ([] : List Tm) id_ a (by decide)) rfl rfl rfl rfl rfl bd11 (by decide) ⟨giv_map (o := ⟨[.sl 52 0 0], 57, 1⟩) rfl (om_ (lm_cons rfl lm_nil)) (oks_cons (.sl _ _ _ (by simp)) oks_nil), giv_no (o := ⟨(enc eT ([] : List Tm)), 59, 2⟩) rfl rfl, trivial⟩ ⟨(arg_own (.pt _ _ (by simp)) rfl), (arg_no (a := .i id_)), (arg_no (a := .i a)), trivial⟩ rfl ⟨rfl, trivial⟩ (fun h => by cases h) (am_no (a := .i (errT ([] : List Tm) id_))) (place_cons (ost_map (lm_cons rfl lm_nil)) (place_cons rfl (place_cons (ost_no (cs := (enc eT (startT ([] : List Tm) id_ a)))) place_nil))) ?_)
 refine mG (.pt 51 0) ?_
 refine mG (.i id_) ?_
 refine mG (.i b) ?_
 refine opG rfl (callG_ false [51, 53] [54] (t_Start (startT ([] : List Tm) id_ a) id_ b (by omega)) rfl rfl rfl rfl rfl bd11 (by decide) ⟨giv_map (o := ⟨[.sl 53 0 ((startT ([] : List Tm) id_ a).length)], 57, 1⟩) rfl (om_ (lm_cons rfl lm_nil)) (oks_cons (.sl _ _ _ (by simp)) oks_nil), giv_no (o := ⟨(enc eT (startT ([] : List Tm) id_ a)), 59, 2⟩) rfl rfl, trivial⟩ ⟨(arg_own (.pt _ _ (by simp)) rfl), (arg_no (a := .i id_)), (arg_no (a := .i b)), trivial⟩ rfl ⟨rfl, trivial⟩ (fun h => by cases h) (am_no (a := .i (errT (startT ([] : List Tm) id_ a) id_))) (place_cons (ost_map (lm_cons rfl lm_nil)) (place_cons rfl (place_cons (ost_no (cs := (enc eT (startT (startT ([] : List Tm) id_ a) id_ b)))) place_nil))) ?_)
 refine opG rfl (aop_eqv (d := 8) (a := .i (errT ([] : List Tm) id_)) (b := .i 0) (aop_move (av := .i (errT ([] : List Tm) id_)) (.inr rfl) rfl rfl rfl rfl) (by rw [anew_e1] <;> rfl) ?_)
 refine opG rfl (aop_eqv (d := 9) (a := .i (errT (startT ([] : List Tm) id_ a) id_)) (b := .i 0) (aop_move (av := .i (errT (startT ([] : List Tm) id_ a) id_)) (.inr rfl) rfl rfl rfl rfl) (by rw [anew_e2] <;> rfl) ?_)
 refine op0 ?_
 refine rs_ (upd (upd (upd (upd (upd (upd none_ 1 (.i b)) 2 (.i id_)) 6 (.b false)) 7 (.pt 51 0)) 8 (.i 0)) 9 (.i 0)) (updO (updO (updO (updO (updO (updO (updO (updO noOb 51 (.live ⟨[.sl 52 0 0], 57, 1⟩)) 52 (.live ⟨(enc eT ([] : List Tm)), 59, 2⟩)) 51 (.live ⟨[.sl 53 0 ((startT ([] : List Tm) id_ a).length)], 57, 1⟩)) 52 .dead) 53 (.live ⟨(enc eT (startT ([] : List Tm) id_ a)), 59, 2⟩)) 51 (.live ⟨[.sl 54 0 ((startT (startT ([] : List Tm) id_ a) id_ b).length)], 57, 1⟩)) 53 .dead) 54 (.live ⟨(enc eT (startT (startT ([] : List Tm) id_ a) id_ b)), 59, 2⟩)) (lu rfl (lu rfl (lu rfl (lu rfl (lu rfl (lu rfl ln)))))) rfl ?_
 refine awp_imp ⟨(upd (upd (upd (upd (upd (upd none_ 1 (.i b)) 2 (.i id_)) 6 (.b false)) 7 (.pt 51 0)) 8 (.i 0)) 9 (.i 0)), (updO noOb 51 (.live ⟨[.ro 1 (enc eT [(⟨id_, b⟩ : Tm)])], 57, 1⟩))⟩ ?_ ?_
 ·skip
  refine (frz_ [51] [(51, ⟨[.q eT (startT (startT ([] : List Tm) id_ a) id_ b)], 57, 1⟩)] rfl (fun _ h => h) ⟨keep_cells (cs := [.sl 54 0 ((startT (startT ([] : List Tm) id_ a) id_ b).length)]) (by simp) rfl rfl (frzs_cons (.inr (lend_s (id := 54) (n := (startT (startT ([] : List Tm) id_ a) id_ b).length) (o := ⟨(enc eT (startT (startT ([] : List Tm) id_ a) id_ b)), 59, 2⟩) rfl (enc_len (fun _ => rfl) (by first | rfl | (simp; done))))) frzs_nil), trivial⟩ (fz_same 9 (.i 0) rfl (fz_same 8 (.i 0) rfl (fz_same 7 (.pt 51 0) rfl (fz_same 6 (.b false) rfl (fz_same 2 (.i id_) rfl (fz_same 1 (.i b) rfl fz_none))))))).trans ?_
  exact imp_ler [(51, 51)] (lerI 51 51 (o := ⟨[.q eT (startT (startT ([] : List Tm) id_ a) id_ b)], 57, 1⟩) rfl (by rw [anew_1] <;> rfl) (sS rfl (sS rfl (sM rfl (sS rfl (sS rfl (sS rfl sr_none))))))) (keep_of rfl)
 refine seqR ?_
 refine mG (.pt 51 0) ?_
 refine mG (.i id_) ?_
 refine mG (.i b) ?_
 refine opG rfl (callL_ (t_Left [(⟨id_, b⟩ : Tm)] id_ b (by first | omega | (simp; done) | decide | (simp at *; omega))) rfl rfl rfl rfl rfl bd20 (lends_cons (lend_pt rfl (lends_cons (lend_n (av := .ro 1 (enc eT [(⟨id_, b⟩ : Tm)]))) lends_nil)) (lends_cons (lend_n (av := .i id_)) (lends_cons (lend_n (av := .i b)) lends_nil))) ?_)
 refine mG (.tup [.i (leftT [(⟨id_, b⟩ : Tm)] id_ b), .b (hasT [(⟨id_, b⟩ : Tm)] id_)]) ?_
 refine opG rfl (aop_extract rfl rfl rfl rfl rfl ?_)
 refine opG rfl (aop_extract rfl rfl rfl rfl rfl ?_)
 refine opG rfl (aop_eqv (d := 10) (a := .i (leftT [(⟨id_, b⟩ : Tm)] id_ b)) (b := .i 0) (aop_move (av := .i (leftT [(⟨id_, b⟩ : Tm)] id_ b)) (.inr rfl) rfl rfl rfl rfl) (by rw [anew_l] <;> rfl) ?_)
 refine opG rfl (aop_eqv (d := 11) (a := .b (hasT [(⟨id_, b⟩ : Tm)] id_)) (b := .b true) (aop_move (av := .b (hasT [(⟨id_, b⟩ : Tm)] id_)) (.inr rfl) rfl rfl rfl rfl) (by rw [anew_h] <;> rfl) ?_)
 refine op0 ?_
 refine rs_ (upd (upd (upd (upd (upd (upd (upd (upd none_ 1 (.i b)) 2 (.i id_)) 6 (.b false)) 7 (.pt 51 0)) 8 (.i 0)) 9 (.i 0)) 10 (.i 0)) 11 (.b true)) (updO noOb 51 (.live ⟨[.ro 1 (enc eT [(⟨id_, b⟩ : Tm)])], 57, 1⟩)) (lu rfl (lu rfl (lu rfl (lu rfl (lu rfl (lu rfl (lu rfl (lu rfl ln)))))))) rfl ?_
 refine awp_seq ?_
 refine seqR ?_
 refine opG rfl (call_ (l8_three) rfl rfl rfl rfl rfl bd9 rfl ?_)
 refine opG rfl (aop_not rfl rfl rfl rfl ?_)
 refine mG (.b false) ?_
 refine opY rfl rfl rfl rfl (aop_move (av := .i 0) (.inl rfl) rfl rfl rfl ?_)
 refine opY rfl rfl rfl rfl (aop_binI (u := (.bool ((0 : Int) != 0))) rfl rfl rfl rfl rfl trivial rfl ?_)
 refine opG rfl (aop_pick (b := false) (av := .b ((0 : Int) != 0)) rfl rfl rfl rfl rfl ?_)
 refine mG (.b ((0 : Int) != 0)) ?_
 refine aops_grp 3 37 (.b (((0 : Int) != 0) || ((0 : Int) != 0))) ?_ ?_
 ·refine (Bool.eq_false_or_eq_true ((0 : Int) != 0)).elim (fun hg1 => ?_) (fun hg1 => ?_)
  ·skip
   have hf2 := (bne_iff_ne).1 hg1
   refine nG hg1 ?_
   refine nG hg1 ?_
   refine opG rfl (aop_pick (b := ((0 : Int) != 0)) (av := .b true) rfl rfl rfl rfl ((congrArg (fun b_ => cond b_ _ _) hg1).trans rfl) ?_)
   refine op0 ?_
   exact imp_env (lee_both 37 _ _ (by rw [hg1] <;> rfl) (lee_out 36 _ rfl (lee_out 35 _ rfl (lee_same _))))
  ·skip
   have hf3 := (bne_eq_false_iff_eq).1 hg1
   refine opY rfl rfl rfl (by show AV.v (.bool ((0 : Int) != 0)) = _; rw [hg1]) (aop_move (av := .i 0) (.inl rfl) rfl rfl rfl ?_)
   refine opY rfl rfl rfl (by show AV.v (.bool ((0 : Int) != 0)) = _; rw [hg1]) (aop_binI (u := (.bool ((0 : Int) != 0))) rfl rfl rfl rfl rfl trivial rfl ?_)
   refine opG rfl (aop_pick (b := ((0 : Int) != 0)) (av := .b ((0 : Int) != 0)) rfl rfl rfl rfl ((congrArg (fun b_ => cond b_ _ _) hg1).trans rfl) ?_)
   refine op0 ?_
   exact imp_env (lee_both 37 _ _ (by rw [hg1] <;> rfl) (lee_out 36 _ rfl (lee_out 35 _ rfl (lee_same _))))
 refine mG (.b (((0 : Int) != 0) || ((0 : Int) != 0))) ?_
 refine aops_grp 3 41 (.b ((((0 : Int) != 0) || ((0 : Int) != 0)) || ((0 : Int) != 0))) ?_ ?_
 ·refine (Bool.eq_false_or_eq_true (((0 : Int) != 0) || ((0 : Int) != 0))).elim (fun hg4 => ?_) (fun hg4 => ?_)
  ·skip
   refine nG hg4 ?_
   refine nG hg4 ?_
   refine opG rfl (aop_pick (b := (((0 : Int) != 0) || ((0 : Int) != 0))) (av := .b true) rfl rfl rfl rfl ((congrArg (fun b_ => cond b_ _ _) hg4).trans rfl) ?_)
   refine op0 ?_
   exact imp_env (lee_both 41 _ _ (by rw [hg4] <;> rfl) (lee_out 40 _ rfl (lee_out 39 _ rfl (lee_same _))))
  ·skip
   obtain ⟨hf5a, hf5b⟩ := or_f hg4
   have hf6 := (bne_eq_false_iff_eq).1 hf5a
   have hf7 := (bne_eq_false_iff_eq).1 hf5b
   refine opY rfl rfl rfl (by show AV.v (.bool (((0 : Int) != 0) || ((0 : Int) != 0))) = _; rw [hg4]) (aop_move (av := .i 0) (.inl rfl) rfl rfl rfl ?_)
   refine opY rfl rfl rfl (by show AV.v (.bool (((0 : Int) != 0) || ((0 : Int) != 0))) = _; rw [hg4]) (aop_binI (u := (.bool ((0 : Int) != 0))) rfl rfl rfl rfl rfl trivial rfl ?_)
   refine opG rfl (aop_pick (b := (((0 : Int) != 0) || ((0 : Int) != 0))) (av := .b ((0 : Int) != 0)) rfl rfl rfl rfl ((congrArg (fun b_ => cond b_ _ _) hg4).trans rfl) ?_)
   refine op0 ?_
   exact imp_env (lee_both 41 _ _ (by rw [hg4] <;> rfl) (lee_out 40 _ rfl (lee_out 39 _ rfl (lee_same _))))
 refine mG (.b ((((0 : Int) != 0) || ((0 : Int) != 0)) || ((0 : Int) != 0))) ?_
 refine aops_grp 3 45 (.b (((((0 : Int) != 0) || ((0 : Int) != 0)) || ((0 : Int) != 0)) && true)) ?_ ?_
 ·refine (Bool.eq_false_or_eq_true ((((0 : Int) != 0) || ((0 : Int) != 0)) || ((0 : Int) != 0))).elim (fun hg8 => ?_) (fun hg8 => ?_)
  ·skip
   refine nG hg8 ?_
   refine nG hg8 ?_
   refine opG rfl (aop_pick (b := ((((0 : Int) != 0) || ((0 : Int) != 0)) || ((0 : Int) != 0))) (av := .b true) rfl rfl rfl rfl ((congrArg (fun b_ => cond b_ _ _) hg8).trans rfl) ?_)
   refine op0 ?_
   exact imp_env (lee_both 45 _ _ (by rw [hg8] <;> rfl) (lee_out 44 _ rfl (lee_out 43 _ rfl (lee_same _))))
  ·skip
   obtain ⟨hf9a, hf9b⟩ := or_f hg8
   obtain ⟨hf10a, hf10b⟩ := or_f hf9a
   have hf11 := (bne_eq_false_iff_eq).1 hf10a
   have hf12 := (bne_eq_false_iff_eq).1 hf10b
   have hf13 := (bne_eq_false_iff_eq).1 hf9b
   refine opY rfl rfl rfl (by show AV.v (.bool ((((0 : Int) != 0) || ((0 : Int) != 0)) || ((0 : Int) != 0))) = _; rw [hg8]) (aop_move (av := .b true) (.inl rfl) rfl rfl rfl ?_)
   refine opY rfl rfl rfl (by show AV.v (.bool ((((0 : Int) != 0) || ((0 : Int) != 0)) || ((0 : Int) != 0))) = _; rw [hg8]) (aop_not rfl rfl rfl rfl ?_)
   refine opG rfl (aop_pick (b := ((((0 : Int) != 0) || ((0 : Int) != 0)) || ((0 : Int) != 0))) (av := .b false) rfl rfl rfl rfl ((congrArg (fun b_ => cond b_ _ _) hg8).trans rfl) ?_)
   refine op0 ?_
   exact imp_env (lee_both 45 _ _ (by rw [hg8] <;> rfl) (lee_out 44 _ rfl (lee_out 43 _ rfl (lee_same _))))
 refine mG (.b (((((0 : Int) != 0) || ((0 : Int) != 0)) || ((0 : Int) != 0)) && true)) ?_
 refine aops_grp 4 50 (.b ((((((0 : Int) != 0) || ((0 : Int) != 0)) || ((0 : Int) != 0)) && true) || (([(⟨id_, b⟩ : Tm)].length : Int) != 1))) ?_ ?_
 ·refine (Bool.eq_false_or_eq_true (((((0 : Int) != 0) || ((0 : Int) != 0)) || ((0 : Int) != 0)) && true)).elim (fun hg14 => ?_) (fun hg14 => ?_)
  ·skip
   obtain ⟨hf15a, hf15b⟩ := and_t hg14
   refine nG hg14 ?_
   refine nG hg14 ?_
   refine nG hg14 ?_
   refine opG rfl (aop_pick (b := (((((0 : Int) != 0) || ((0 : Int) != 0)) || ((0 : Int) != 0)) && true)) (av := .b true) rfl rfl rfl rfl ((congrArg (fun b_ => cond b_ _ _) hg14).trans rfl) ?_)
   refine op0 ?_
   exact imp_env (lee_both 50 _ _ (by rw [hg14] <;> rfl) (lee_out 49 _ rfl (lee_out 48 _ rfl (lee_out 47 _ rfl (lee_same _)))))
  ·skip
   refine opY rfl rfl rfl (by show AV.v (.bool (((((0 : Int) != 0) || ((0 : Int) != 0)) || ((0 : Int) != 0)) && true)) = _; rw [hg14]) (aop_move (av := .pt 51 0) (.inl rfl) rfl rfl rfl ?_)
   refine opY rfl rfl rfl (by show AV.v (.bool (((((0 : Int) != 0) || ((0 : Int) != 0)) || ((0 : Int) != 0)) && true)) = _; rw [hg14]) (callL_ (t_Len [(⟨id_, b⟩ : Tm)] (by first | omega | (simp; done) | decide | (simp at *; omega))) rfl rfl rfl rfl rfl bd14 (lends_cons (lend_pt rfl (lends_cons (lend_n (av := .ro 1 (enc eT [(⟨id_, b⟩ : Tm)]))) lends_nil)) lends_nil) ?_)
   refine opY rfl rfl rfl (by show AV.v (.bool (((((0 : Int) != 0) || ((0 : Int) != 0)) || ((0 : Int) != 0)) && true)) = _; rw [hg14]) (aop_binI (u := (.bool (([(⟨id_, b⟩ : Tm)].length : Int) != 1))) rfl rfl rfl rfl rfl trivial rfl ?_)
   refine opG rfl (aop_pick (b := (((((0 : Int) != 0) || ((0 : Int) != 0)) || ((0 : Int) != 0)) && true)) (av := .b (([(⟨id_, b⟩ : Tm)].length : Int) != 1)) rfl rfl rfl rfl ((congrArg (fun b_ => cond b_ _ _) hg14).trans rfl) ?_)
   refine op0 ?_
   exact imp_env (lee_both 50 _ _ (by rw [hg14] <;> rfl) (lee_out 49 _ rfl (lee_out 48 _ rfl (lee_out 47 _ rfl (lee_same _)))))
 refine op0 ?_
 refine rs_ (upd (upd (upd (upd (upd none_ 1 (.i b)) 2 (.i id_)) 6 (.b false)) 7 (.pt 51 0)) 50 (.b ((((((0 : Int) != 0) || ((0 : Int) != 0)) || ((0 : Int) != 0)) && true) || (([(⟨id_, b⟩ : Tm)].length : Int) != 1)))) (updO noOb 51 (.live ⟨[.ro 1 (enc eT [(⟨id_, b⟩ : Tm)])], 57, 1⟩)) (lu rfl (lu rfl (lu rfl (lu rfl (lu rfl ln))))) rfl ?_
 refine awp_cond ((((((0 : Int) != 0) || ((0 : Int) != 0)) || ((0 : Int) != 0)) && true) || (([(⟨id_, b⟩ : Tm)].length : Int) != 1)) rfl rfl (fun hc0 => ?_) (fun hc0 => ?_)
 ·skip
  exfalso; simp at hc0
 ·skip
  obtain ⟨hf16a, hf16b⟩ := or_f hc0
  have hf17 := (bne_eq_false_iff_eq).1 hf16b
  refine awp_skip ?_
  refine awp_seq ?_
  refine seqR ?_
  refine mG (.i b) ?_
  refine bG ((.bool (decide (b > (-9223372036854775808))))) ?_
  refine mG (.b (decide (b > (-9223372036854775808)))) ?_
  refine aops_cut 7 ⟨(upd (upd (upd (upd (upd none_ 1 (.i b)) 2 (.i id_)) 6 (.b false)) 7 (.pt 51 0)) 60 (.b ((decide (b > (-9223372036854775808))) && (((idsT (endL (b - 1) [(⟨id_, b⟩ : Tm)])).length : Int) != 0)))), (updO noOb 51 (.live ⟨[.ro 1 (enc eT [(⟨id_, b⟩ : Tm)])], 57, 1⟩))⟩ ?_ ?_
  ·refine (Bool.eq_false_or_eq_true (decide (b > (-9223372036854775808)))).elim (fun hg18 => ?_) (fun hg18 => ?_)
   ·skip
    have hf19 := of_decide_eq_true hg18
    refine opY rfl rfl rfl (by show AV.v (.bool (decide (b > (-9223372036854775808)))) = _; rw [hg18]) (aop_move (av := .pt 51 0) (.inl rfl) rfl rfl rfl ?_)
    refine opY rfl rfl rfl (by show AV.v (.bool (decide (b > (-9223372036854775808)))) = _; rw [hg18]) (aop_move (av := .i b) (.inl rfl) rfl rfl rfl ?_)
    refine opY rfl rfl rfl (by show AV.v (.bool (decide (b > (-9223372036854775808)))) = _; rw [hg18]) (aop_binI (u := (.int .i64 (b - 1))) rfl rfl rfl rfl rfl trivial (subMin (by omega) hb) ?_)
    refine opY rfl rfl rfl (by show AV.v (.bool (decide (b > (-9223372036854775808)))) = _; rw [hg18]) (callG_ false [51] [55] (t_Ended [(⟨id_, b⟩ : Tm)] (b - 1) (by first | omega | (simp; done) | decide | (simp at *; omega))) rfl rfl rfl rfl rfl bd12 (by decide) ⟨giv_no (o := ⟨[.ro 1 (enc eT [(⟨id_, b⟩ : Tm)])], 57, 1⟩) rfl rfl, trivial⟩ ⟨(arg_own (.pt _ _ (by simp)) rfl), (arg_no (a := .i (b - 1))), trivial⟩ rfl ⟨rfl, trivial⟩ (fun h => by cases h) rfl (place_cons (ost_no (cs := [.q eT (restL (b - 1) [(⟨id_, b⟩ : Tm)])])) (place_cons (ost_no (cs := (enc eI (idsT (endL (b - 1) [(⟨id_, b⟩ : Tm)]))))) place_nil)) ?_)
    refine opY rfl rfl rfl (by show AV.v (.bool (decide (b > (-9223372036854775808)))) = _; rw [hg18]) (aop_len rfl rfl rfl rfl ut28 (len_sl rfl) ?_)
    refine opY rfl rfl rfl (by show AV.v (.bool (decide (b > (-9223372036854775808)))) = _; rw [hg18]) (aop_binI (u := (.bool (((idsT (endL (b - 1) [(⟨id_, b⟩ : Tm)])).length : Int) != 0))) rfl rfl rfl rfl rfl trivial rfl ?_)
    refine opG rfl (aop_pick (b := (decide (b > (-9223372036854775808)))) (av := .b (((idsT (endL (b - 1) [(⟨id_, b⟩ : Tm)])).length : Int) != 0)) rfl rfl rfl rfl (by rw [hg18] <;> rfl) ?_)
    refine op0 ?_
    exact imp_ler [(51, 51)] (lerI 51 51 (o := ⟨[.q eT (restL (b - 1) [(⟨id_, b⟩ : Tm)])], 57, 1⟩) rfl (by rw [(anew_n id_ b).2] <;> rfl) (sS (by show AV.v (.bool (((idsT (endL (b - 1) [(⟨id_, b⟩ : Tm)])).length : Int) != 0)) = AV.v (.bool ((decide (b > (-9223372036854775808))) && (((idsT (endL (b - 1) [(⟨id_, b⟩ : Tm)])).length : Int) != 0))); rw [hg18] <;> rfl) (sM rfl (sS rfl (sS rfl (sS rfl sr_none)))))) (keep_of rfl)
   ·skip
    have hf20 := of_decide_eq_false hg18
    refine nG hg18 ?_
    refine nG hg18 ?_
    refine nG hg18 ?_
    refine nG hg18 ?_
    refine nG hg18 ?_
    refine nG hg18 ?_
    refine opG rfl (aop_pick (b := (decide (b > (-9223372036854775808)))) (av := .b false) rfl rfl rfl rfl (by rw [hg18] <;> rfl) ?_)
    refine op0 ?_
    exact imp_ler [(51, 51)] (lerI 51 51 rfl rfl (sS (by show AV.v (.bool false) = AV.v (.bool ((decide (b > (-9223372036854775808))) && (((idsT (endL (b - 1) [(⟨id_, b⟩ : Tm)])).length : Int) != 0))); rw [hg18] <;> rfl) (sM rfl (sS rfl (sS rfl (sS rfl sr_none)))))) (keep_of rfl)
  refine op0 ?_
  refine awp_cond ((decide (b > (-9223372036854775808))) && (((idsT (endL (b - 1) [(⟨id_, b⟩ : Tm)])).length : Int) != 0)) rfl rfl (fun hc1 => ?_) (fun hc1 => ?_)
  ·skip
   obtain ⟨hf21a, hf21b⟩ := and_t hc1
   have hf22 := of_decide_eq_true hf21a
   have hf23 := (bne_iff_ne).1 hf21b
   exfalso; rw [(anew_n id_ b).1] at hc1; simp [idsT] at hc1
  ·skip
   refine awp_skip ?_
   refine seqR ?_
   refine mG (.pt 51 0) ?_
   refine mG (.i b) ?_
   refine opG rfl (callG_ false [51] [56] (t_Ended [(⟨id_, b⟩ : Tm)] b (by first | omega | (simp; done) | decide | (simp at *; omega))) rfl rfl rfl rfl rfl bd12 (by decide) ⟨giv_no (o := ⟨[.ro 1 (enc eT [(⟨id_, b⟩ : Tm)])], 57, 1⟩) rfl rfl, trivial⟩ ⟨(arg_own (.pt _ _ (by simp)) rfl), (arg_no (a := .i b)), trivial⟩ rfl ⟨rfl, trivial⟩ (fun h => by cases h) rfl (place_cons (ost_no (cs := [.q eT (restL b [(⟨id_, b⟩ : Tm)])])) (place_cons (ost_no (cs := (enc eI (idsT (endL b [(⟨id_, b⟩ : Tm)]))))) place_nil)) ?_)
   refine mG (.i id_) ?_
   refine opG rfl (aop_lit rfl rfl rfl ut28 iz3 (by decide) (by decide) rfl rfl ?_)
   refine opG rfl (callL_ (r01_Ints (idsT (endL b [(⟨id_, b⟩ : Tm)])) [(id_ : Int)] (by first | omega | (simp; done) | decide | (simp at *; omega))) rfl rfl rfl rfl rfl bd22 (lends_cons (lend_s (id := 56) (n := (idsT (endL b [(⟨id_, b⟩ : Tm)])).length) (o := ⟨(enc eI (idsT (endL b [(⟨id_, b⟩ : Tm)]))), 3, 1⟩) rfl (enc_len (fun _ => rfl) (by first | rfl | (simp; done)))) (lends_cons (lend_n (av := .ro 1 [.i id_])) lends_nil)) ?_)
   refine mG (.b (decide ((idsT (endL b [(⟨id_, b⟩ : Tm)])) = [(id_ : Int)]))) ?_
   refine op0 ?_
   refine rs_ (upd none_ 6 (.b (decide ((idsT (endL b [(⟨id_, b⟩ : Tm)])) = [(id_ : Int)])))) (updO (updO (updO noOb 51 (.live ⟨[.ro 1 (enc eT [(⟨id_, b⟩ : Tm)])], 57, 1⟩)) 51 (.live ⟨[.q eT (restL b [(⟨id_, b⟩ : Tm)])], 57, 1⟩)) 56 (.live ⟨(enc eI (idsT (endL b [(⟨id_, b⟩ : Tm)]))), 3, 1⟩)) (lu rfl ln) rfl ?_
   refine awp_ret ?_
   exact fret (av := .v (.bool (decide ((idsT (endL b [(⟨id_, b⟩ : Tm)])) = [(id_ : Int)])))) rfl rfl (by rw [anew_y]; simp)
end Go.Lo
