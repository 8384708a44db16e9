/- Walks of Go functions in the logic of values. -/
import Derived.Test.YthfmdljohlolpaaFnNTy
import Derived.Test.YthfmdljohlolpaaDef
import Derived.Test.YthfmdljohlolpaaTd
import Derived.Test.YthfmdljohlolpaaTc
import Derived.Test.YthfmdljohlolpaaTe
import Derived.Test.YthfmdljohlolpaaFnA
import Derived.Test.YthfmdljohlolpaaFnB
set_option linter.unusedVariables false
set_option linter.unusedSimpArgs false
set_option maxRecDepth 10000
set_option maxHeartbeats 16000000
namespace Go.Lo
open Go.Proofs
theorem l8_three   : Fn Try.prog 9 [] (.v (.bool true)) := by
 have h1 := startT_len (l := ([] : List Tm)) (i := 5) (a := 9) (by decide)
 have h2 := startT_len (i := 3) (a := 9) h1
 have h3 := startT_len (i := 7) (a := 2) h2
 have h4 := end_len 9 (startT (startT (startT ([] : List Tm) 5 9) 3 9) 7 2)
 refine fnE_of_body (N := 18) Try.func9 rfl rfl (resOf1 rfl) (by simp) (fun w0 X hL_ => ?_)
 refine seqR ?_
 refine mG (.b false) ?_
 refine op0 ?_
 refine seqR ?_
 refine opG rfl (callG_ false [] [51, 52] (t_New) rfl rfl rfl rfl rfl bd10 (by decide) trivial trivial rfl ⟨rfl, rfl, trivial⟩ (fun h => by cases h) rfl (place_cons (ost_map (lm_cons rfl lm_nil)) (place_cons (ost_no (cs := (enc eT ([] : List Tm)))) place_nil)) ?_)
 refine mG (.pt 51 0) ?_
 refine op0 ?_
 refine seqR ?_
 refine mG (.pt 51 0) ?_
 refine opG rfl (callG_ false [51, 52] [53] (t_Start ([] : List Tm) 5 9 (by decide)) rfl rfl rfl rfl rfl bd11 (by decide) ⟨giv_map (o := ⟨[.sl 52 0 0], 57, 1⟩) rfl (om_ (lm_cons rfl lm_nil)) (oks_cons (.sl _ _ _ (by simp)) oks_nil), giv_no (o := ⟨(enc eT ([] : List Tm)), 59, 2⟩) rfl rfl, trivial⟩ ⟨(arg_own (.pt _ _ (by simp)) rfl), (arg_no (a := .i 5)), (arg_no (a := .i 9)), trivial⟩ rfl ⟨rfl, trivial⟩ (fun h => by cases h) (am_no (a := .i (errT ([] : List Tm) 5))) (place_cons (ost_map (lm_cons rfl lm_nil)) (place_cons rfl (place_cons (ost_no (cs := (enc eT (startT ([] : List Tm) 5 9)))) place_nil))) ?_)
 refine op0 ?_
 refine rs_ (upd (upd none_ 0 (.b false)) 1 (.pt 51 0)) (updO (updO (updO (updO (updO noOb 51 (.live ⟨[.sl 52 0 0], 57, 1⟩)) 52 (.live ⟨(enc eT ([] : List Tm)), 59, 2⟩)) 51 (.live ⟨[.sl 53 0 ((startT ([] : List Tm) 5 9).length)], 57, 1⟩)) 52 .dead) 53 (.live ⟨(enc eT (startT ([] : List Tm) 5 9)), 59, 2⟩)) (lu rfl (lu rfl ln)) rfl ?_
 refine seqR ?_
 refine mG (.pt 51 0) ?_
 refine opG rfl (callG_ false [51, 53] [54] (t_Start (startT ([] : List Tm) 5 9) 3 9 (by omega)) rfl rfl rfl rfl rfl bd11 (by decide) ⟨giv_map (o := ⟨[.sl 53 0 ((startT ([] : List Tm) 5 9).length)], 57, 1⟩) rfl (om_ (lm_cons rfl lm_nil)) (oks_cons (.sl _ _ _ (by simp)) oks_nil), giv_no (o := ⟨(enc eT (startT ([] : List Tm) 5 9)), 59, 2⟩) rfl rfl, trivial⟩ ⟨(arg_own (.pt _ _ (by simp)) rfl), (arg_no (a := .i 3)), (arg_no (a := .i 9)), trivial⟩ rfl ⟨rfl, trivial⟩ (fun h => by cases h) (am_no (a := .i (errT (startT ([] : List Tm) 5 9) 3))) (place_cons (ost_map (lm_cons rfl lm_nil)) (place_cons rfl (place_cons (ost_no (cs := (enc eT (startT (startT ([] : List Tm) 5 9) 3 9)))) place_nil))) ?_)
 refine op0 ?_
 refine seqR ?_
 refine mG (.pt 51 0) ?_
 refine opG rfl (callG_ false [51, 54] [55] (t_Start (startT (startT ([] : List Tm) 5 9) 3 9) 7 2 (by omega)) rfl rfl rfl rfl rfl bd11 (by decide) ⟨giv_map (o := ⟨[.sl 54 0 ((startT (startT ([] : List Tm) 5 9) 3 9).length)], 57, 1⟩) rfl (om_ (lm_cons rfl lm_nil)) (oks_cons (.sl _ _ _ (by simp)) oks_nil), giv_no (o := ⟨(enc eT (startT (startT ([] : List Tm) 5 9) 3 9)), 59, 2⟩) rfl rfl, trivial⟩ ⟨(arg_own (.pt _ _ (by simp)) rfl), (arg_no (a := .i 7)), (arg_no (a := .i 2)), trivial⟩ rfl ⟨rfl, trivial⟩ (fun h => by cases h) (am_no (a := .i (errT (startT (startT ([] : List Tm) 5 9) 3 9) 7))) (place_cons (ost_map (lm_cons rfl lm_nil)) (place_cons rfl (place_cons (ost_no (cs := (enc eT (startT (startT (startT ([] : List Tm) 5 9) 3 9) 7 2)))) place_nil))) ?_)
 refine op0 ?_
 refine rs_ (upd (upd none_ 0 (.b false)) 1 (.pt 51 0)) (updO (updO (updO (updO (updO (updO (updO (updO (updO (updO (updO noOb 51 (.live ⟨[.sl 52 0 0], 57, 1⟩)) 52 (.live ⟨(enc eT ([] : List Tm)), 59, 2⟩)) 51 (.live ⟨[.sl 53 0 ((startT ([] : List Tm) 5 9).length)], 57, 1⟩)) 52 .dead) 53 (.live ⟨(enc eT (startT ([] : List Tm) 5 9)), 59, 2⟩)) 51 (.live ⟨[.sl 54 0 ((startT (startT ([] : List Tm) 5 9) 3 9).length)], 57, 1⟩)) 53 .dead) 54 (.live ⟨(enc eT (startT (startT ([] : List Tm) 5 9) 3 9)), 59, 2⟩)) 51 (.live ⟨[.sl 55 0 ((startT (startT (startT ([] : List Tm) 5 9) 3 9) 7 2).length)], 57, 1⟩)) 54 .dead) 55 (.live ⟨(enc eT (startT (startT (startT ([] : List Tm) 5 9) 3 9) 7 2)), 59, 2⟩)) (lu rfl (lu rfl ln)) rfl ?_
 refine awp_imp ⟨(upd (upd none_ 0 (.b false)) 1 (.pt 51 0)), (updO noOb 51 (.live ⟨[.q eT (startT (startT (startT ([] : List Tm) 5 9) 3 9) 7 2)], 57, 1⟩))⟩ ?_ ?_
 ·skip
  refine (frz_ [51] [(51, ⟨[.q eT (startT (startT (startT ([] : List Tm) 5 9) 3 9) 7 2)], 57, 1⟩)] rfl (fun _ h => h) ⟨keep_cells (cs := [.sl 55 0 ((startT (startT (startT ([] : List Tm) 5 9) 3 9) 7 2).length)]) (by simp) rfl rfl (frzs_cons (.inr (lend_s (id := 55) (n := (startT (startT (startT ([] : List Tm) 5 9) 3 9) 7 2).length) (o := ⟨(enc eT (startT (startT (startT ([] : List Tm) 5 9) 3 9) 7 2)), 59, 2⟩) rfl (enc_len (fun _ => rfl) (by first | rfl | (simp; done))))) frzs_nil), trivial⟩ (fz_same 1 (.pt 51 0) rfl (fz_same 0 (.b false) rfl fz_none))).trans ?_
  exact imp_ler [(51, 51)] (lerI 51 51 (o := ⟨[.q eT (startT (startT (startT ([] : List Tm) 5 9) 3 9) 7 2)], 57, 1⟩) rfl rfl (sM rfl (sS rfl sr_none))) (keep_of rfl)
 refine seqR ?_
 refine mG (.pt 51 0) ?_
 refine opG rfl (callG_ false [51] [56] (t_Ended (startT (startT (startT ([] : List Tm) 5 9) 3 9) 7 2) 9 (by omega)) rfl rfl rfl rfl rfl bd12 (by decide) ⟨giv_no (o := ⟨[.q eT (startT (startT (startT ([] : List Tm) 5 9) 3 9) 7 2)], 57, 1⟩) rfl rfl, trivial⟩ ⟨(arg_own (.pt _ _ (by simp)) rfl), (arg_no (a := .i 9)), trivial⟩ rfl ⟨rfl, trivial⟩ (fun h => by cases h) rfl (place_cons (ost_no (cs := [.q eT (restL 9 (startT (startT (startT ([] : List Tm) 5 9) 3 9) 7 2))])) (place_cons (ost_no (cs := (enc eI (idsT (endL 9 (startT (startT (startT ([] : List Tm) 5 9) 3 9) 7 2)))))) place_nil)) ?_)
 refine opG rfl (aop_lit rfl rfl rfl ut28 iz3 (by decide) (by decide) rfl rfl ?_)
 refine opG rfl (callL_ (r01_Ints (idsT (endL 9 (startT (startT (startT ([] : List Tm) 5 9) 3 9) 7 2))) [(7 : Int), (3 : Int), (5 : Int)] (by first | omega | (simp; done) | decide | (simp at *; omega))) rfl rfl rfl rfl rfl bd22 (lends_cons (lend_s (id := 56) (n := (idsT (endL 9 (startT (startT (startT ([] : List Tm) 5 9) 3 9) 7 2))).length) (o := ⟨(enc eI (idsT (endL 9 (startT (startT (startT ([] : List Tm) 5 9) 3 9) 7 2)))), 3, 1⟩) rfl (enc_len (fun _ => rfl) (by first | rfl | (simp; done)))) (lends_cons (lend_n (av := .ro 3 [.i 7, .i 3, .i 5])) lends_nil)) ?_)
 refine mG (.b (decide ((idsT (endL 9 (startT (startT (startT ([] : List Tm) 5 9) 3 9) 7 2))) = [(7 : Int), (3 : Int), (5 : Int)]))) ?_
 refine aops_grp 4 17 (.b ((decide ((idsT (endL 9 (startT (startT (startT ([] : List Tm) 5 9) 3 9) 7 2))) = [(7 : Int), (3 : Int), (5 : Int)])) && (((restL 9 (startT (startT (startT ([] : List Tm) 5 9) 3 9) 7 2)).length : Int) == 0))) ?_ ?_
 ·refine (Bool.eq_false_or_eq_true (decide ((idsT (endL 9 (startT (startT (startT ([] : List Tm) 5 9) 3 9) 7 2))) = [(7 : Int), (3 : Int), (5 : Int)]))).elim (fun hg1 => ?_) (fun hg1 => ?_)
  ·skip
   refine opY rfl rfl rfl (by show AV.v (.bool (decide ((idsT (endL 9 (startT (startT (startT ([] : List Tm) 5 9) 3 9) 7 2))) = [(7 : Int), (3 : Int), (5 : Int)]))) = _; rw [hg1]) (aop_move (av := .pt 51 0) (.inl rfl) rfl rfl rfl ?_)
   refine opY rfl rfl rfl (by show AV.v (.bool (decide ((idsT (endL 9 (startT (startT (startT ([] : List Tm) 5 9) 3 9) 7 2))) = [(7 : Int), (3 : Int), (5 : Int)]))) = _; rw [hg1]) (callL_ (t_Len (restL 9 (startT (startT (startT ([] : List Tm) 5 9) 3 9) 7 2)) (by first | omega | (simp; done) | decide | (simp at *; omega))) rfl rfl rfl rfl rfl bd14 (lends_cons (lend_pt rfl (lends_cons (lend_n (av := .q eT (restL 9 (startT (startT (startT ([] : List Tm) 5 9) 3 9) 7 2)))) lends_nil)) lends_nil) ?_)
   refine opY rfl rfl rfl (by show AV.v (.bool (decide ((idsT (endL 9 (startT (startT (startT ([] : List Tm) 5 9) 3 9) 7 2))) = [(7 : Int), (3 : Int), (5 : Int)]))) = _; rw [hg1]) (aop_binI (u := (.bool (((restL 9 (startT (startT (startT ([] : List Tm) 5 9) 3 9) 7 2)).length : Int) == 0))) rfl rfl rfl rfl rfl trivial rfl ?_)
   refine opG rfl (aop_pick (b := (decide ((idsT (endL 9 (startT (startT (startT ([] : List Tm) 5 9) 3 9) 7 2))) = [(7 : Int), (3 : Int), (5 : Int)]))) (av := .b (((restL 9 (startT (startT (startT ([] : List Tm) 5 9) 3 9) 7 2)).length : Int) == 0)) rfl rfl rfl rfl ((congrArg (fun b_ => cond b_ _ _) hg1).trans rfl) ?_)
   refine op0 ?_
   exact imp_env (lee_both 17 _ _ (by rw [hg1] <;> rfl) (lee_out 16 _ rfl (lee_out 15 _ rfl (lee_out 14 _ rfl (lee_same _)))))
  ·skip
   refine nG hg1 ?_
   refine nG hg1 ?_
   refine nG hg1 ?_
   refine opG rfl (aop_pick (b := (decide ((idsT (endL 9 (startT (startT (startT ([] : List Tm) 5 9) 3 9) 7 2))) = [(7 : Int), (3 : Int), (5 : Int)]))) (av := .b false) rfl rfl rfl rfl ((congrArg (fun b_ => cond b_ _ _) hg1).trans rfl) ?_)
   refine op0 ?_
   exact imp_env (lee_both 17 _ _ (by rw [hg1] <;> rfl) (lee_out 16 _ rfl (lee_out 15 _ rfl (lee_out 14 _ rfl (lee_same _)))))
 refine mG (.b ((decide ((idsT (endL 9 (startT (startT (startT ([] : List Tm) 5 9) 3 9) 7 2))) = [(7 : Int), (3 : Int), (5 : Int)])) && (((restL 9 (startT (startT (startT ([] : List Tm) 5 9) 3 9) 7 2)).length : Int) == 0))) ?_
 refine op0 ?_
 refine rs_ (upd none_ 0 (.b ((decide ((idsT (endL 9 (startT (startT (startT ([] : List Tm) 5 9) 3 9) 7 2))) = [(7 : Int), (3 : Int), (5 : Int)])) && (((restL 9 (startT (startT (startT ([] : List Tm) 5 9) 3 9) 7 2)).length : Int) == 0)))) (updO (updO (updO noOb 51 (.live ⟨[.q eT (startT (startT (startT ([] : List Tm) 5 9) 3 9) 7 2)], 57, 1⟩)) 51 (.live ⟨[.q eT (restL 9 (startT (startT (startT ([] : List Tm) 5 9) 3 9) 7 2))], 57, 1⟩)) 56 (.live ⟨(enc eI (idsT (endL 9 (startT (startT (startT ([] : List Tm) 5 9) 3 9) 7 2)))), 3, 1⟩)) (lu rfl ln) rfl ?_
 refine awp_ret ?_
 exact fret (av := .v (.bool ((decide ((idsT (endL 9 (startT (startT (startT ([] : List Tm) 5 9) 3 9) 7 2))) = [(7 : Int), (3 : Int), (5 : Int)])) && (((restL 9 (startT (startT (startT ([] : List Tm) 5 9) 3 9) 7 2)).length : Int) == 0)))) rfl rfl (by rw [three_law])
theorem l8_TimerNil (id_ a : Int)  : Fn Try.prog 7 [.v (.int .i64 id_), .v (.int .i64 a)] (.v (.bool true)) := by
 refine fnE_of_body (N := 47) Try.func7 rfl rfl (resOf1 rfl) (by simp) (fun w0 X hL_ => ?_)
 refine seqR ?_
 refine mG (.b false) ?_
 refine op0 ?_
 refine seqR ?_
 refine mG (.v (.pointer none)) ?_
 refine op0 ?_
 refine seqR ?_
 refine mG (.v (.pointer none)) ?_
 refine mG (.i id_) ?_
 refine mG (.i a) ?_
 refine opG rfl (call_ (n_Left id_ a) rfl rfl rfl rfl rfl bd20 rfl ?_)
 refine mG (.tup [.i 0, .b false]) ?_
 refine opG rfl (aop_extract rfl rfl rfl rfl rfl ?_)
 refine opG rfl (aop_extract rfl rfl rfl rfl rfl ?_)
 refine mG (.i 0) ?_
 refine mG (.b false) ?_
 refine op0 ?_
 refine rs_ (upd (upd (upd (upd (upd (upd none_ 0 (.i id_)) 1 (.i a)) 4 (.b false)) 5 (.v (.pointer none))) 6 (.i 0)) 7 (.b false)) noOb (lu rfl (lu rfl (lu rfl (lu rfl (lu rfl (lu rfl ln)))))) rfl ?_
 refine seqR ?_
 refine opG rfl (call_ (l8_three) rfl rfl rfl rfl rfl bd9 rfl ?_)
 refine mG (.b true) ?_
 refine opY rfl rfl rfl rfl (aop_move (av := .v (.pointer none)) (.inl rfl) rfl rfl rfl ?_)
 refine opY rfl rfl rfl rfl (aop_move (av := .i id_) (.inl rfl) rfl rfl rfl ?_)
 refine opY rfl rfl rfl rfl (aop_move (av := .i a) (.inl rfl) rfl rfl rfl ?_)
 refine opY rfl rfl rfl rfl (call_ (n_Start id_ a) rfl rfl rfl rfl rfl bd11 rfl ?_)
 refine opY rfl rfl rfl rfl (aop_binI (u := (.bool ((7 : Int) == 7))) rfl rfl rfl rfl rfl trivial rfl ?_)
 refine opG rfl (aop_pick (b := true) (av := .b ((7 : Int) == 7)) rfl rfl rfl rfl rfl ?_)
 refine mG (.b ((7 : Int) == 7)) ?_
 refine aops_cut 5 ⟨(upd (upd (upd (upd (upd (upd none_ 1 (.i a)) 4 (.b false)) 5 (.v (.pointer none))) 6 (.i 0)) 7 (.b false)) 28 (.b (((7 : Int) == 7) && true))), noOb⟩ ?_ ?_
 ·refine (Bool.eq_false_or_eq_true ((7 : Int) == 7)).elim (fun hg1 => ?_) (fun hg1 => ?_)
  ·skip
   have hf2 := (beq_iff_eq).1 hg1
   refine opY rfl rfl rfl (by show AV.v (.bool ((7 : Int) == 7)) = _; rw [hg1]) (aop_move (av := .v (.pointer none)) (.inl rfl) rfl rfl rfl ?_)
   refine opY rfl rfl rfl (by show AV.v (.bool ((7 : Int) == 7)) = _; rw [hg1]) (aop_move (av := .i id_) (.inl rfl) rfl rfl rfl ?_)
   refine opY rfl rfl rfl (by show AV.v (.bool ((7 : Int) == 7)) = _; rw [hg1]) (call_ (n_Stop id_) rfl rfl rfl rfl rfl bd15 rfl ?_)
   refine opY rfl rfl rfl (by show AV.v (.bool ((7 : Int) == 7)) = _; rw [hg1]) (aop_not rfl rfl rfl rfl ?_)
   refine opG rfl (aop_pick (b := ((7 : Int) == 7)) (av := .b true) rfl rfl rfl rfl (by rw [hg1] <;> rfl) ?_)
   refine op0 ?_
   exact imp_ler [] (ler0 (sS (by show AV.v (.bool true) = AV.v (.bool (((7 : Int) == 7) && true)); rw [hg1] <;> rfl) (sS rfl (sS rfl (sS rfl (sS rfl (sS rfl sr_none))))))) (keep_of rfl)
  ·skip
   have hf3 := (beq_eq_false_iff_ne).1 hg1
   refine nG hg1 ?_
   refine nG hg1 ?_
   refine nG hg1 ?_
   refine nG hg1 ?_
   refine opG rfl (aop_pick (b := ((7 : Int) == 7)) (av := .b false) rfl rfl rfl rfl (by rw [hg1] <;> rfl) ?_)
   refine op0 ?_
   exact imp_ler [] (ler0 (sS (by show AV.v (.bool false) = AV.v (.bool (((7 : Int) == 7) && true)); rw [hg1] <;> rfl) (sS rfl (sS rfl (sS rfl (sS rfl (sS rfl sr_none))))))) (keep_of rfl)
 refine mG (.b (((7 : Int) == 7) && true)) ?_
 refine aops_grp 3 32 (.b ((((7 : Int) == 7) && true) && ((0 : Int) == 0))) ?_ ?_
 ·refine (Bool.eq_false_or_eq_true (((7 : Int) == 7) && true)).elim (fun hg4 => ?_) (fun hg4 => ?_)
  ·skip
   obtain ⟨hf5a, hf5b⟩ := and_t hg4
   have hf6 := (beq_iff_eq).1 hf5a
   refine opY rfl rfl rfl (by show AV.v (.bool (((7 : Int) == 7) && true)) = _; rw [hg4]) (aop_move (av := .i 0) (.inl rfl) rfl rfl rfl ?_)
   refine opY rfl rfl rfl (by show AV.v (.bool (((7 : Int) == 7) && true)) = _; rw [hg4]) (aop_binI (u := (.bool ((0 : Int) == 0))) rfl rfl rfl rfl rfl trivial rfl ?_)
   refine opG rfl (aop_pick (b := (((7 : Int) == 7) && true)) (av := .b ((0 : Int) == 0)) rfl rfl rfl rfl ((congrArg (fun b_ => cond b_ _ _) hg4).trans rfl) ?_)
   refine op0 ?_
   exact imp_env (lee_both 32 _ _ (by rw [hg4] <;> rfl) (lee_out 31 _ rfl (lee_out 30 _ rfl (lee_same _))))
  ·skip
   refine nG hg4 ?_
   refine nG hg4 ?_
   refine opG rfl (aop_pick (b := (((7 : Int) == 7) && true)) (av := .b false) rfl rfl rfl rfl ((congrArg (fun b_ => cond b_ _ _) hg4).trans rfl) ?_)
   refine op0 ?_
   exact imp_env (lee_both 32 _ _ (by rw [hg4] <;> rfl) (lee_out 31 _ rfl (lee_out 30 _ rfl (lee_same _))))
 refine mG (.b ((((7 : Int) == 7) && true) && ((0 : Int) == 0))) ?_
 refine aops_grp 3 36 (.b (((((7 : Int) == 7) && true) && ((0 : Int) == 0)) && true)) ?_ ?_
 ·refine (Bool.eq_false_or_eq_true ((((7 : Int) == 7) && true) && ((0 : Int) == 0))).elim (fun hg7 => ?_) (fun hg7 => ?_)
  ·skip
   obtain ⟨hf8a, hf8b⟩ := and_t hg7
   obtain ⟨hf9a, hf9b⟩ := and_t hf8a
   have hf10 := (beq_iff_eq).1 hf9a
   have hf11 := (beq_iff_eq).1 hf8b
   refine opY rfl rfl rfl (by show AV.v (.bool ((((7 : Int) == 7) && true) && ((0 : Int) == 0))) = _; rw [hg7]) (aop_move (av := .b false) (.inl rfl) rfl rfl rfl ?_)
   refine opY rfl rfl rfl (by show AV.v (.bool ((((7 : Int) == 7) && true) && ((0 : Int) == 0))) = _; rw [hg7]) (aop_not rfl rfl rfl rfl ?_)
   refine opG rfl (aop_pick (b := ((((7 : Int) == 7) && true) && ((0 : Int) == 0))) (av := .b true) rfl rfl rfl rfl ((congrArg (fun b_ => cond b_ _ _) hg7).trans rfl) ?_)
   refine op0 ?_
   exact imp_env (lee_both 36 _ _ (by rw [hg7] <;> rfl) (lee_out 35 _ rfl (lee_out 34 _ rfl (lee_same _))))
  ·skip
   refine nG hg7 ?_
   refine nG hg7 ?_
   refine opG rfl (aop_pick (b := ((((7 : Int) == 7) && true) && ((0 : Int) == 0))) (av := .b false) rfl rfl rfl rfl ((congrArg (fun b_ => cond b_ _ _) hg7).trans rfl) ?_)
   refine op0 ?_
   exact imp_env (lee_both 36 _ _ (by rw [hg7] <;> rfl) (lee_out 35 _ rfl (lee_out 34 _ rfl (lee_same _))))
 refine mG (.b (((((7 : Int) == 7) && true) && ((0 : Int) == 0)) && true)) ?_
 refine aops_cut 9 ⟨(upd (upd none_ 4 (.b false)) 46 (.b ((((((7 : Int) == 7) && true) && ((0 : Int) == 0)) && true) && ((0 + 0) == 0)))), noOb⟩ ?_ ?_
 ·refine (Bool.eq_false_or_eq_true (((((7 : Int) == 7) && true) && ((0 : Int) == 0)) && true)).elim (fun hg12 => ?_) (fun hg12 => ?_)
  ·skip
   obtain ⟨hf13a, hf13b⟩ := and_t hg12
   obtain ⟨hf14a, hf14b⟩ := and_t hf13a
   obtain ⟨hf15a, hf15b⟩ := and_t hf14a
   have hf16 := (beq_iff_eq).1 hf15a
   have hf17 := (beq_iff_eq).1 hf14b
   refine opY rfl rfl rfl (by show AV.v (.bool (((((7 : Int) == 7) && true) && ((0 : Int) == 0)) && true)) = _; rw [hg12]) (aop_move (av := .v (.pointer none)) (.inl rfl) rfl rfl rfl ?_)
   refine opY rfl rfl rfl (by show AV.v (.bool (((((7 : Int) == 7) && true) && ((0 : Int) == 0)) && true)) = _; rw [hg12]) (aop_move (av := .i a) (.inl rfl) rfl rfl rfl ?_)
   refine opY rfl rfl rfl (by show AV.v (.bool (((((7 : Int) == 7) && true) && ((0 : Int) == 0)) && true)) = _; rw [hg12]) (call_ (n_Ended a) rfl rfl rfl rfl rfl bd12 rfl ?_)
   refine opY rfl rfl rfl (by show AV.v (.bool (((((7 : Int) == 7) && true) && ((0 : Int) == 0)) && true)) = _; rw [hg12]) (aop_len rfl rfl rfl rfl ut28 (len_nil rfl) ?_)
   refine opY rfl rfl rfl (by show AV.v (.bool (((((7 : Int) == 7) && true) && ((0 : Int) == 0)) && true)) = _; rw [hg12]) (aop_move (av := .v (.pointer none)) (.inl rfl) rfl rfl rfl ?_)
   refine opY rfl rfl rfl (by show AV.v (.bool (((((7 : Int) == 7) && true) && ((0 : Int) == 0)) && true)) = _; rw [hg12]) (call_ (n_Len) rfl rfl rfl rfl rfl bd14 rfl ?_)
   refine opY rfl rfl rfl (by show AV.v (.bool (((((7 : Int) == 7) && true) && ((0 : Int) == 0)) && true)) = _; rw [hg12]) (aop_binI (u := (.int .i64 (0 + 0))) rfl rfl rfl rfl rfl trivial (addI (by omega)) ?_)
   refine opY rfl rfl rfl (by show AV.v (.bool (((((7 : Int) == 7) && true) && ((0 : Int) == 0)) && true)) = _; rw [hg12]) (aop_binI (u := (.bool ((0 + 0) == 0))) rfl rfl rfl rfl rfl trivial rfl ?_)
   refine opG rfl (aop_pick (b := (((((7 : Int) == 7) && true) && ((0 : Int) == 0)) && true)) (av := .b ((0 + 0) == 0)) rfl rfl rfl rfl (by rw [hg12] <;> rfl) ?_)
   refine op0 ?_
   exact imp_ler [] (ler0 (sS (by show AV.v (.bool ((0 + 0) == 0)) = AV.v (.bool ((((((7 : Int) == 7) && true) && ((0 : Int) == 0)) && true) && ((0 + 0) == 0))); rw [hg12] <;> rfl) (sS rfl sr_none))) (keep_of rfl)
  ·skip
   refine nG hg12 ?_
   refine nG hg12 ?_
   refine nG hg12 ?_
   refine nG hg12 ?_
   refine nG hg12 ?_
   refine nG hg12 ?_
   refine nG hg12 ?_
   refine nG hg12 ?_
   refine opG rfl (aop_pick (b := (((((7 : Int) == 7) && true) && ((0 : Int) == 0)) && true)) (av := .b false) rfl rfl rfl rfl (by rw [hg12] <;> rfl) ?_)
   refine op0 ?_
   exact imp_ler [] (ler0 (sS (by show AV.v (.bool false) = AV.v (.bool ((((((7 : Int) == 7) && true) && ((0 : Int) == 0)) && true) && ((0 + 0) == 0))); rw [hg12] <;> rfl) (sS rfl sr_none))) (keep_of rfl)
 refine mG (.b ((((((7 : Int) == 7) && true) && ((0 : Int) == 0)) && true) && ((0 + 0) == 0))) ?_
 refine op0 ?_
 refine awp_ret ?_
 exact fret (av := .v (.bool ((((((7 : Int) == 7) && true) && ((0 : Int) == 0)) && true) && ((0 + 0) == 0)))) rfl rfl rfl
end Go.Lo
