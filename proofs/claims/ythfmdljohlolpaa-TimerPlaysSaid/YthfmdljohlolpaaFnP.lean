/- Walks of Go functions in the logic of values. -/
import Derived.Test.YthfmdljohlolpaaFnPTy
import Derived.Test.YthfmdljohlolpaaDef
import Derived.Test.YthfmdljohlolpaaRi
import Derived.Test.YthfmdljohlolpaaTd
import Derived.Test.YthfmdljohlolpaaTc
import Derived.Test.YthfmdljohlolpaaTe
import Derived.Test.YthfmdljohlolpaaTg
import Derived.Test.YthfmdljohlolpaaTh
import Derived.Test.YthfmdljohlolpaaTi
import Derived.Test.YthfmdljohlolpaaTp
import Derived.Test.YthfmdljohlolpaaFnA
import Derived.Test.YthfmdljohlolpaaFnB
set_option linter.unusedVariables false
set_option linter.unusedSimpArgs false
set_option maxRecDepth 10000
set_option maxHeartbeats 16000000
namespace Go.Lo
open Go.Proofs
theorem l8_three   : Fn Try.prog 9 [] (.v (.bool true)) := by
 have h1 := startT_len (l := ([] : List Tm)) (i := 5) (a := 9) (by decide)
 have h2 := startT_len (i := 3) (a := 9) h1
 have h3 := startT_len (i := 7) (a := 2) h2
 have h4 := end_len 9 (startT (startT (startT ([] : List Tm) 5 9) 3 9) 7 2)
 refine fnE_of_body (N := 18) Try.func9 rfl rfl (resOf1 rfl) (by simp) (fun w0 X hL_ => ?_)
 refine seqR ?_
 refine mG (.b false) ?_
 refine op0 ?_
 refine seqR ?_
 refine opG rfl (callG_ false [] [51, 52] (t_New) rfl rfl rfl rfl rfl bd10 (by decide) trivial trivial rfl ⟨rfl, rfl, trivial⟩ (fun h => by cases h) rfl (place_cons (ost_map (lm_cons rfl lm_nil)) (place_cons (ost_no (cs := (enc eT ([] : List Tm)))) place_nil)) ?_)
 refine mG (.pt 51 0) ?_
 refine op0 ?_
 refine seqR ?_
 refine mG (.pt 51 0) ?_
 refine opG rfl (callG_ false [51, 52] [53] (t_Start ([] : List Tm) 5 9 (by decide)) rfl rfl rfl rfl rfl bd11 (by decide) ⟨giv_map (o := ⟨[.sl 52 0 0], 57, 1⟩) rfl (om_ (lm_cons rfl lm_nil)) (oks_cons (.sl _ _ _ (by simp)) oks_nil), giv_no (o := ⟨(enc eT ([] : List Tm)), 59, 2⟩) rfl rfl, trivial⟩ ⟨(arg_own (.pt _ _ (by simp)) rfl), (arg_no (a := .i 5)), (arg_no (a := .i 9)), trivial⟩ rfl ⟨rfl, trivial⟩ (fun h => by cases h) (am_no (a := .i (errT ([] : List Tm) 5))) (place_cons (ost_map (lm_cons rfl lm_nil)) (place_cons rfl (place_cons (ost_no (cs := (enc eT (startT ([] : List Tm) 5 9)))) place_nil))) ?_)
 refine op0 ?_
 refine rT (upd (upd none_ 0 (.b false)) 1 (.pt 51 0)) (updO (updO (updO (updO (updO noOb 51 (.live ⟨[.sl 52 0 0], 57, 1⟩)) 52 (.live ⟨(enc eT ([] : List Tm)), 59, 2⟩)) 51 (.live ⟨[.sl 53 0 ((startT ([] : List Tm) 5 9).length)], 57, 1⟩)) 52 .dead) 53 (.live ⟨(enc eT (startT ([] : List Tm) 5 9)), 59, 2⟩)) ?_
 refine seqR ?_
 refine mG (.pt 51 0) ?_
 refine opG rfl (callG_ false [51, 53] [54] (t_Start (startT ([] : List Tm) 5 9) 3 9 (by omega)) rfl rfl rfl rfl rfl bd11 (by decide) ⟨giv_map (o := ⟨[.sl 53 0 ((startT ([] : List Tm) 5 9).length)], 57, 1⟩) rfl (om_ (lm_cons rfl lm_nil)) (oks_cons (.sl _ _ _ (by simp)) oks_nil), giv_no (o := ⟨(enc eT (startT ([] : List Tm) 5 9)), 59, 2⟩) rfl rfl, trivial⟩ ⟨(arg_own (.pt _ _ (by simp)) rfl), (arg_no (a := .i 3)), (arg_no (a := .i 9)), trivial⟩ rfl ⟨rfl, trivial⟩ (fun h => by cases h) (am_no (a := .i (errT (startT ([] : List Tm) 5 9) 3))) (place_cons (ost_map (lm_cons rfl lm_nil)) (place_cons rfl (place_cons (ost_no (cs := (enc eT (startT (startT ([] : List Tm) 5 9) 3 9)))) place_nil))) ?_)
 refine op0 ?_
 refine seqR ?_
 refine mG (.pt 51 0) ?_
 refine opG rfl (callG_ false [51, 54] [55] (t_Start (startT (startT ([] : List Tm) 5 9) 3 9) 7 2 (by omega)) rfl rfl rfl rfl rfl bd11 (by decide) ⟨giv_map (o := ⟨[.sl 54 0 ((startT (startT ([] : List Tm) 5 9) 3 9).length)], 57, 1⟩) rfl (om_ (lm_cons rfl lm_nil)) (oks_cons (.sl _ _ _ (by simp)) oks_nil), giv_no (o := ⟨(enc eT (startT (startT ([] : List Tm) 5 9) 3 9)), 59, 2⟩) rfl rfl, trivial⟩ ⟨(arg_own (.pt _ _ (by simp)) rfl), (arg_no (a := .i 7)), (arg_no (a := .i 2)), trivial⟩ rfl ⟨rfl, trivial⟩ (fun h => by cases h) (am_no (a := .i (errT (startT (startT ([] : List Tm) 5 9) 3 9) 7))) (place_cons (ost_map (lm_cons rfl lm_nil)) (place_cons rfl (place_cons (ost_no (cs := (enc eT (startT (startT (startT ([] : List Tm) 5 9) 3 9) 7 2)))) place_nil))) ?_)
 refine op0 ?_
 refine rT (upd (upd none_ 0 (.b false)) 1 (.pt 51 0)) (updO (updO (updO (updO (updO (updO (updO (updO (updO (updO (updO noOb 51 (.live ⟨[.sl 52 0 0], 57, 1⟩)) 52 (.live ⟨(enc eT ([] : List Tm)), 59, 2⟩)) 51 (.live ⟨[.sl 53 0 ((startT ([] : List Tm) 5 9).length)], 57, 1⟩)) 52 .dead) 53 (.live ⟨(enc eT (startT ([] : List Tm) 5 9)), 59, 2⟩)) 51 (.live ⟨[.sl 54 0 ((startT (startT ([] : List Tm) 5 9) 3 9).length)], 57, 1⟩)) 53 .dead) 54 (.live ⟨(enc eT (startT (startT ([] : List Tm) 5 9) 3 9)), 59, 2⟩)) 51 (.live ⟨[.sl 55 0 ((startT (startT (startT ([] : List Tm) 5 9) 3 9) 7 2).length)], 57, 1⟩)) 54 .dead) 55 (.live ⟨(enc eT (startT (startT (startT ([] : List Tm) 5 9) 3 9) 7 2)), 59, 2⟩)) ?_
 refine awp_imp ⟨(upd (upd none_ 0 (.b false)) 1 (.pt 51 0)), (updO noOb 51 (.live ⟨[.q eT (startT (startT (startT ([] : List Tm) 5 9) 3 9) 7 2)], 57, 1⟩))⟩ ?_ ?_
 ·skip
  refine (frz_ [51] [(51, ⟨[.q eT (startT (startT (startT ([] : List Tm) 5 9) 3 9) 7 2)], 57, 1⟩)] rfl (fun _ h => h) ⟨keep_cells (cs := [.sl 55 0 ((startT (startT (startT ([] : List Tm) 5 9) 3 9) 7 2).length)]) (by simp) rfl rfl (frzs_cons (.inr (lend_s (id := 55) (n := (startT (startT (startT ([] : List Tm) 5 9) 3 9) 7 2).length) (o := ⟨(enc eT (startT (startT (startT ([] : List Tm) 5 9) 3 9) 7 2)), 59, 2⟩) rfl (enc_len (fun _ => rfl) (by first | rfl | (simp; done))))) frzs_nil), trivial⟩ (fz_same 1 (.pt 51 0) rfl (fz_same 0 (.b false) rfl fz_none))).trans ?_
  exact iI 51 51 (o := ⟨[.q eT (startT (startT (startT ([] : List Tm) 5 9) 3 9) 7 2)], 57, 1⟩) rfl
 refine seqR ?_
 refine mG (.pt 51 0) ?_
 refine opG rfl (callG_ false [51] [56] (t_Ended (startT (startT (startT ([] : List Tm) 5 9) 3 9) 7 2) 9 (by omega)) rfl rfl rfl rfl rfl bd12 (by decide) ⟨giv_no (o := ⟨[.q eT (startT (startT (startT ([] : List Tm) 5 9) 3 9) 7 2)], 57, 1⟩) rfl rfl, trivial⟩ ⟨(arg_own (.pt _ _ (by simp)) rfl), (arg_no (a := .i 9)), trivial⟩ rfl ⟨rfl, trivial⟩ (fun h => by cases h) rfl (place_cons (ost_no (cs := [.q eT (restL 9 (startT (startT (startT ([] : List Tm) 5 9) 3 9) 7 2))])) (place_cons (ost_no (cs := (enc eI (idsT (endL 9 (startT (startT (startT ([] : List Tm) 5 9) 3 9) 7 2)))))) place_nil)) ?_)
 refine opG rfl (aop_lit rfl rfl rfl ut28 iz3 (by decide) (by decide) rfl rfl ?_)
 refine opG rfl (callL_ (r01_Ints (idsT (endL 9 (startT (startT (startT ([] : List Tm) 5 9) 3 9) 7 2))) [(7 : Int), (3 : Int), (5 : Int)] (by first | omega | (simp; done) | decide | (simp at *; omega))) rfl rfl rfl rfl rfl bd22 (lends_cons (lend_s (id := 56) (n := (idsT (endL 9 (startT (startT (startT ([] : List Tm) 5 9) 3 9) 7 2))).length) (o := ⟨(enc eI (idsT (endL 9 (startT (startT (startT ([] : List Tm) 5 9) 3 9) 7 2)))), 3, 1⟩) rfl (enc_len (fun _ => rfl) (by first | rfl | (simp; done)))) (lends_cons (lend_n (av := .ro 3 [.i 7, .i 3, .i 5])) lends_nil)) ?_)
 refine mG (.b (decide ((idsT (endL 9 (startT (startT (startT ([] : List Tm) 5 9) 3 9) 7 2))) = [(7 : Int), (3 : Int), (5 : Int)]))) ?_
 refine aops_grp 4 17 (.b ((decide ((idsT (endL 9 (startT (startT (startT ([] : List Tm) 5 9) 3 9) 7 2))) = [(7 : Int), (3 : Int), (5 : Int)])) && (((restL 9 (startT (startT (startT ([] : List Tm) 5 9) 3 9) 7 2)).length : Int) == 0))) ?_ ?_
 ·refine (Bool.eq_false_or_eq_true (decide ((idsT (endL 9 (startT (startT (startT ([] : List Tm) 5 9) 3 9) 7 2))) = [(7 : Int), (3 : Int), (5 : Int)]))).elim (fun hg1 => ?_) (fun hg1 => ?_)
  ·skip
   refine oY hg1 (aop_move (av := .pt 51 0) (.inl rfl) rfl rfl rfl ?_)
   refine oY hg1 (callL_ (t_Len (restL 9 (startT (startT (startT ([] : List Tm) 5 9) 3 9) 7 2)) (by first | omega | (simp; done) | decide | (simp at *; omega))) rfl rfl rfl rfl rfl bd14 (lends_cons (lend_pt rfl (lends_cons (lend_n (av := .q eT (restL 9 (startT (startT (startT ([] : List Tm) 5 9) 3 9) 7 2)))) lends_nil)) lends_nil) ?_)
   refine oY hg1 (aop_binI (u := (.bool (((restL 9 (startT (startT (startT ([] : List Tm) 5 9) 3 9) 7 2)).length : Int) == 0))) rfl rfl rfl rfl rfl trivial rfl ?_)
   refine opG rfl (aop_pick (b := (decide ((idsT (endL 9 (startT (startT (startT ([] : List Tm) 5 9) 3 9) 7 2))) = [(7 : Int), (3 : Int), (5 : Int)]))) (av := .b (((restL 9 (startT (startT (startT ([] : List Tm) 5 9) 3 9) 7 2)).length : Int) == 0)) rfl rfl rfl rfl ((congrArg (fun b_ => cond b_ _ _) hg1).trans rfl) ?_)
   refine op0 ?_
   exact imp_env (lee_both 17 _ _ (by rw [hg1] <;> rfl) (lee_out 16 _ rfl (lee_out 15 _ rfl (lee_out 14 _ rfl (lee_same _)))))
  ·skip
   refine nG hg1 ?_
   refine nG hg1 ?_
   refine nG hg1 ?_
   refine opG rfl (aop_pick (b := (decide ((idsT (endL 9 (startT (startT (startT ([] : List Tm) 5 9) 3 9) 7 2))) = [(7 : Int), (3 : Int), (5 : Int)]))) (av := .b false) rfl rfl rfl rfl ((congrArg (fun b_ => cond b_ _ _) hg1).trans rfl) ?_)
   refine op0 ?_
   exact imp_env (lee_both 17 _ _ (by rw [hg1] <;> rfl) (lee_out 16 _ rfl (lee_out 15 _ rfl (lee_out 14 _ rfl (lee_same _)))))
 refine mG (.b ((decide ((idsT (endL 9 (startT (startT (startT ([] : List Tm) 5 9) 3 9) 7 2))) = [(7 : Int), (3 : Int), (5 : Int)])) && (((restL 9 (startT (startT (startT ([] : List Tm) 5 9) 3 9) 7 2)).length : Int) == 0))) ?_
 refine op0 ?_
 refine rT (upd none_ 0 (.b ((decide ((idsT (endL 9 (startT (startT (startT ([] : List Tm) 5 9) 3 9) 7 2))) = [(7 : Int), (3 : Int), (5 : Int)])) && (((restL 9 (startT (startT (startT ([] : List Tm) 5 9) 3 9) 7 2)).length : Int) == 0)))) (updO (updO (updO noOb 51 (.live ⟨[.q eT (startT (startT (startT ([] : List Tm) 5 9) 3 9) 7 2)], 57, 1⟩)) 51 (.live ⟨[.q eT (restL 9 (startT (startT (startT ([] : List Tm) 5 9) 3 9) 7 2))], 57, 1⟩)) 56 (.live ⟨(enc eI (idsT (endL 9 (startT (startT (startT ([] : List Tm) 5 9) 3 9) 7 2)))), 3, 1⟩)) ?_
 refine awp_ret ?_
 exact fret (av := .v (.bool ((decide ((idsT (endL 9 (startT (startT (startT ([] : List Tm) 5 9) 3 9) 7 2))) = [(7 : Int), (3 : Int), (5 : Int)])) && (((restL 9 (startT (startT (startT ([] : List Tm) 5 9) 3 9) 7 2)).length : Int) == 0)))) rfl rfl (by rw [three_law])
theorem t_EndedO (l : List Tm) (now : Int) (hl : l.length ≤ 65536) : FnGO Try.prog 12 [⟨[.sl 1 0 l.length], 57, 1⟩, ⟨(enc eT l), 59, 2⟩] [.pt 0 0, .v (.int .i64 now)] (.sl 3 0 ((idsT (endL now l)).length)) [.live ⟨[.sl 2 0 ((restL now l).length)], 57, 1⟩, .dead, .live ⟨(enc eT (restL now l)), 59, 2⟩, .live ⟨(enc eI (idsT (endL now l))), 3, 1⟩] := by
 refine fnG_of_body (N := 39) 2 rfl Try.func12 rfl rfl (resOf1 rfl) (by simp) (fun w0 G C hL_ hLG_ => ?_)
 refine seqR ?_
 refine mG (.v (.slice none 0 0)) ?_
 refine op0 ?_
 refine seqR ?_
 refine mG (.v (.slice none 0 0)) ?_
 refine op0 ?_
 refine awp_seq ?_
 refine awp_block ?_
 refine awp_countI (fun k => ⟨(upd (upd (upd (upd none_ 0 (.pt 0 0)) 1 (.i now)) 4 (.v (.slice none 0 0))) 5 (.sl 3 0 ((idsT (l.take k)).length))), (updO (updO (updO (updO noOb 0 (.live ⟨[.sl 2 0 ((l.drop k).length)], 57, 1⟩)) 1 .dead) 2 (.live ⟨(enc eT (l.drop k)), 59, 2⟩)) 3 (.live ⟨(enc eI (idsT (l.take k))), 3, 1⟩))⟩) (fun k => EndInv now l k) (l.length) ?_ ⟨Nat.zero_le _, fun x hx => by simp at hx⟩ (fun k hk_k hinv => ?_)
 ·skip
  refine (imp_mv (t := 0) (r := 1) (r' := 51) (o := ⟨(enc eT l), 59, 2⟩) rfl rfl rfl (by decide)).trans ?_
  refine (imp_adopt 5 52 3 1 rfl rfl).trans ?_
  exact iL [(0, 0), (1, 1), (51, 2), (52, 3)] [((0, 0), .live _), ((1, 1), .dead), ((51, 2), .live _), ((52, 3), .live _)] ⟨row_map (o := ⟨[.sl 51 0 l.length], 57, 1⟩) rfl (om_ (lm_cons rfl lm_nil)) (oks_cons (.sl _ _ _ (by simp)) oks_nil), trivial, row_no (o := ⟨(enc eT l), 59, 2⟩) rfl rfl, row_no (o := ⟨[], 3, 1⟩) rfl rfl, trivial⟩
 have hkl := hinv.1
 have hil := ids_take_len l k
 refine awp_seq ?_
 refine seqR ?_
 refine mG (.pt 0 0) ?_
 refine opG rfl (callL_ (t_Len (l.drop k) (by first | omega | (simp; done) | decide | (simp at *; omega))) rfl rfl rfl rfl rfl bd14 (lends_cons (lend_pt rfl (lends_cons (lend_s (id := 2) (n := (l.drop k).length) (o := ⟨(enc eT (l.drop k)), 59, 2⟩) rfl (enc_len (fun _ => rfl) (by first | rfl | (simp; done)))) lends_nil)) lends_nil) ?_)
 refine bG ((.bool (decide (((l.drop k).length : Int) > 0)))) ?_
 refine mG (.b (decide (((l.drop k).length : Int) > 0))) ?_
 refine aops_grp 10 19 (.b ((decide (((l.drop k).length : Int) > 0)) && (decide ((((l.drop k).getD 0 dT).at_) ≤ now)))) ?_ ?_
 ·refine (Bool.eq_false_or_eq_true (decide (((l.drop k).length : Int) > 0))).elim (fun hg1 => ?_) (fun hg1 => ?_)
  ·skip
   have hf2 := of_decide_eq_true hg1
   refine oY hg1 (aop_move (av := .pt 0 0) (.inl rfl) rfl rfl rfl ?_)
   refine oY hg1 (aop_nilCheck rfl rfl rfl rfl rfl ?_)
   refine oY hg1 (aop_fieldAddr (av := .pt 0 0) (av' := .pt 0 0) rfl rfl rfl ft57_0 sz55 rfl rfl rfl ?_)
   refine oY hg1 (aop_ld (av := .sl 2 0 ((l.drop k).length)) rfl rfl rfl ag55 rfl rfl ?_)
   refine oY hg1 (aop_ixO (k := 0) rfl rfl rfl ut55 sz59 rfl rfl (by first | omega | (simp; done) | decide | (simp at *; omega)) ?_)
   refine oY hg1 (aop_fieldAddr (av := .pt 2 (0 * 2)) (av' := .pt 2 (0 * 2 + 1)) rfl rfl rfl ft59_1 sz2 rfl rfl rfl ?_)
   refine oY hg1 (aop_ldOF (f := eT) (l := l.drop k) (k := 0) (s := 2) (off := 1) (av := .i (((l.drop k).getD 0 dT).at_)) dT rfl rfl rfl ag2 rfl rfl rfl (fun _ => rfl) (by first | omega | (simp; done) | decide | (simp at *; omega)) rfl ?_)
   refine oY hg1 (aop_move (av := .i now) (.inl rfl) rfl rfl rfl ?_)
   refine oY hg1 (aop_binI (u := (.bool (decide ((((l.drop k).getD 0 dT).at_) ≤ now)))) rfl rfl rfl rfl rfl trivial rfl ?_)
   refine opG rfl (aop_pick (b := (decide (((l.drop k).length : Int) > 0))) (av := .b (decide ((((l.drop k).getD 0 dT).at_) ≤ now))) rfl rfl rfl rfl ((congrArg (fun b_ => cond b_ _ _) hg1).trans rfl) ?_)
   refine op0 ?_
   exact imp_env (lee_both 19 _ _ (by rw [hg1] <;> rfl) (lee_out 18 _ rfl (lee_out 17 _ rfl (lee_out 16 _ rfl (lee_out 15 _ rfl (lee_out 14 _ rfl (lee_out 13 _ rfl (lee_out 12 _ rfl (lee_out 11 _ rfl (lee_out 10 _ rfl (lee_same _)))))))))))
  ·skip
   have hf3 := of_decide_eq_false hg1
   refine nG hg1 ?_
   refine nG hg1 ?_
   refine nG hg1 ?_
   refine nG hg1 ?_
   refine nG hg1 ?_
   refine nG hg1 ?_
   refine nG hg1 ?_
   refine nG hg1 ?_
   refine nG hg1 ?_
   refine opG rfl (aop_pick (b := (decide (((l.drop k).length : Int) > 0))) (av := .b false) rfl rfl rfl rfl ((congrArg (fun b_ => cond b_ _ _) hg1).trans rfl) ?_)
   refine op0 ?_
   exact imp_env (lee_both 19 _ _ (by rw [hg1] <;> rfl) (lee_out 18 _ rfl (lee_out 17 _ rfl (lee_out 16 _ rfl (lee_out 15 _ rfl (lee_out 14 _ rfl (lee_out 13 _ rfl (lee_out 12 _ rfl (lee_out 11 _ rfl (lee_out 10 _ rfl (lee_same _)))))))))))
 refine op0 ?_
 refine rT (upd (upd (upd (upd (upd none_ 0 (.pt 0 0)) 1 (.i now)) 4 (.v (.slice none 0 0))) 5 (.sl 3 0 ((idsT (l.take k)).length))) 19 (.b ((decide (((l.drop k).length : Int) > 0)) && (decide ((((l.drop k).getD 0 dT).at_) ≤ now))))) (updO (updO (updO (updO noOb 0 (.live ⟨[.sl 2 0 ((l.drop k).length)], 57, 1⟩)) 1 .dead) 2 (.live ⟨(enc eT (l.drop k)), 59, 2⟩)) 3 (.live ⟨(enc eI (idsT (l.take k))), 3, 1⟩)) ?_
 refine awp_cond ((decide (((l.drop k).length : Int) > 0)) && (decide ((((l.drop k).getD 0 dT).at_) ≤ now))) rfl rfl (fun hc0 => ?_) (fun hc0 => ?_)
 ·skip
  obtain ⟨hf4a, hf4b⟩ := and_t hc0
  have hf5 := of_decide_eq_true hf4a
  have hf6 := of_decide_eq_true hf4b
  have hkl3 := (ended_t hc0).1
  have hkl2 : 0 < (l.drop k).length := by rw [List.length_drop]; omega
  refine awp_skip ?_
  refine awp_block ?_
  refine seqR ?_
  refine mG (.sl 3 0 ((idsT (l.take k)).length)) ?_
  refine mG (.pt 0 0) ?_
  refine opG rfl (aop_nilCheck rfl rfl rfl rfl rfl ?_)
  refine fG (.pt 0 0) ft57_0 sz55 ?_
  refine opG rfl (aop_ld (av := .sl 2 0 ((l.drop k).length)) rfl rfl rfl ag55 rfl rfl ?_)
  refine opG rfl (aop_ixO (k := 0) rfl rfl rfl ut55 sz59 rfl rfl (by first | omega | (simp; done) | decide | (simp at *; omega)) ?_)
  refine opG rfl (aop_fieldAddr (av := .pt 2 (0 * 2)) (av' := .pt 2 (0 * 2 + 0)) rfl rfl rfl ft59_0 sz3 rfl rfl rfl ?_)
  refine opG rfl (aop_ldOF (f := eT) (l := l.drop k) (k := 0) (s := 2) (off := 0) (av := .i (((l.drop k).getD 0 dT).id)) dT rfl rfl rfl ag3 rfl rfl rfl (fun _ => rfl) (by first | omega | (simp; done) | decide | (simp at *; omega)) rfl ?_)
  refine opG rfl (aop_lit rfl rfl rfl ut28 iz3 (by decide) (by decide) rfl rfl ?_)
  refine opG rfl (aop_app1 (f := eI) (l := idsT (l.take k)) 53 (((l.drop k).getD 0 dT).id : Int) rfl rfl rfl rfl ut28 in3 rfl (by decide) rfl rfl rfl rfl rfl rfl (fun _ => rfl) rfl rfl (by first | omega | (simp; done) | decide | (simp at *; omega)) (by first | omega | (simp; done) | decide | (simp at *; omega)) rfl ?_)
  refine mG (.sl 53 0 (((idsT (l.take k)) ++ [(((l.drop k).getD 0 dT).id : Int)]).length)) ?_
  refine op0 ?_
  refine rT (upd (upd (upd (upd none_ 0 (.pt 0 0)) 1 (.i now)) 4 (.v (.slice none 0 0))) 5 (.sl 53 0 (((idsT (l.take k)) ++ [(((l.drop k).getD 0 dT).id : Int)]).length))) (updO (updO (updO (updO (updO (updO noOb 0 (.live ⟨[.sl 2 0 ((l.drop k).length)], 57, 1⟩)) 1 .dead) 2 (.live ⟨(enc eT (l.drop k)), 59, 2⟩)) 3 (.live ⟨(enc eI (idsT (l.take k))), 3, 1⟩)) 3 .dead) 53 (.live ⟨(enc eI ((idsT (l.take k)) ++ [(((l.drop k).getD 0 dT).id : Int)])), 3, 1⟩)) ?_
  refine regR ?_
  refine mG (.pt 0 0) ?_
  refine mG (.pt 0 0) ?_
  refine opG rfl (aop_nilCheck rfl rfl rfl rfl rfl ?_)
  refine fG (.pt 0 0) ft57_0 sz55 ?_
  refine opG rfl (aop_ld (av := .sl 2 0 ((l.drop k).length)) rfl rfl rfl ag55 rfl rfl ?_)
  refine opG rfl (aop_sliceTail (l := 1) (ob := ⟨(enc eT (l.drop k)), 59, 2⟩) (cs := enc eT ((l.drop k).drop 1)) 54 rfl rfl rfl ut55 sz59 rfl rfl rfl (enc_length (f := eT) (s := 2) eT_len _) ⟨_, rfl⟩ (by first | omega | (simp; done) | decide | (simp at *; omega)) rfl (enc_drop' (f := eT) (s := 2) eT_len _ 1) ?_)
  refine opG rfl (aop_nilCheck rfl rfl rfl rfl rfl ?_)
  refine fG (.pt 0 0) ft57_0 sz55 ?_
  refine opG rfl (aop_store rfl rfl rfl sz55 rfl rfl rfl rfl rfl (Nat.le_of_ble_eq_true rfl) rfl rfl ?_)
  refine op0 ?_
  show _ ∧ _
  have hs_ := ids_step hinv hc0
  have hd_ : (l.drop (k + 1)).length = (l.drop k).length - 1 := by rw [List.length_drop, List.length_drop]; omega
  refine ⟨by omega, (endInv_step hinv hc0), ?_⟩
  exact iL [(0, 0), (1, 1), (54, 2), (53, 3)] [((0, 0), .live _), ((1, 1), .dead), ((54, 2), .live _), ((53, 3), .live _)] ⟨row_map (o := ⟨[.sl 54 0 ((l.drop k).length - 1)], 57, 1⟩) rfl (by rw [hd_]; exact (om_ (lm_cons rfl lm_nil))) (oks_cons (.sl _ _ _ (by simp)) oks_nil), trivial, row_no (o := ⟨(enc eT ((l.drop k).drop 1)), 59, 2⟩) rfl (by rw [List.drop_drop]), row_no rfl (by exact congrArg (fun l_ => LObj.mk (enc eI l_) 3 1) hs_.symm), trivial⟩ (he := (sM (by exact congrArg (AV.sl 3 0) (congrArg List.length hs_)) (sS rfl (sS rfl (sM rfl sr_none)))))
 ·skip
  have he_ := end_stop hinv hc0
  refine awp_exit ?_
  refine seqR ?_
  refine mG (.sl 3 0 ((idsT (l.take k)).length)) ?_
  refine mG (.sl 3 0 ((idsT (l.take k)).length)) ?_
  refine op0 ?_
  refine awp_imp ⟨(upd none_ 4 (.sl 3 0 ((idsT (endL now l)).length))), (updO (updO (updO (updO noOb 0 (.live ⟨[.sl 2 0 ((restL now l).length)], 57, 1⟩)) 1 .dead) 2 (.live ⟨(enc eT (restL now l)), 59, 2⟩)) 3 (.live ⟨(enc eI (idsT (endL now l))), 3, 1⟩))⟩ ?_ ?_
  ·skip
   exact iL [(0, 0), (1, 1), (2, 2), (3, 3)] [((0, 0), .live _), ((1, 1), .dead), ((2, 2), .live _), ((3, 3), .live _)] ⟨row_map (o := ⟨[.sl 2 0 ((l.drop k).length)], 57, 1⟩) rfl (by rw [he_.2]; exact (om_ (lm_cons rfl lm_nil))) (oks_cons (.sl _ _ _ (by simp)) oks_nil), trivial, row_no rfl (by rw [he_.2]), row_no rfl (by rw [he_.1]), trivial⟩ (he := (sM (by exact congrArg (AV.sl 3 0) (by rw [he_.1])) sr_none))
  refine awp_ret ?_
  exact fretG rfl rfl rfl rfl
theorem l8_near (x : Ta) (few : Bool)  : Fn Try.prog 16 [.agg [.v (.int .u8 x.dw), .v (.int .i64 x.id), .v (.int .i64 x.at_)], .v (.bool few)] (.v (.int .i64 (idA x few))) := by
 refine fnE_of_body (N := 11) Try.func16 rfl rfl (resOf1 rfl) (by simp) (fun w0 X hL_ => ?_)
 refine seqR ?_
 refine opG rfl (aop_box 51 rfl rfl rfl rfl rfl rfl rfl ?_)
 refine mG (.i 0) ?_
 refine op0 ?_
 refine awp_seq ?_
 refine seqR ?_
 refine mG (.b few) ?_
 refine op0 ?_
 refine awp_cond few rfl rfl (fun hc0 => ?_) (fun hc0 => ?_)
 ·skip
  refine seqR ?_
  refine fG (.pt 51 1) ft39_1 sz3 ?_
  refine opG rfl (aop_ld (av := .i x.id) rfl rfl rfl ag3 rfl rfl ?_)
  refine opG rfl (aop_binI (u := (.int .i64 (Int.tmod x.id 6))) rfl rfl rfl rfl rfl (by show _ ≠ _; decide) rfl ?_)
  refine mG (.i (Int.tmod x.id 6)) ?_
  refine op0 ?_
  refine rT (upd (upd none_ 2 (.pt 51 0)) 4 (.i (Int.tmod x.id 6))) (updO noOb 51 (.live ⟨[.v (.int .u8 x.dw), .i x.id, .i x.at_], 39, 1⟩)) ?_
  refine awp_ret ?_
  exact fret (av := .v (.int .i64 (Int.tmod x.id 6))) rfl rfl (by unfold idA; rw [if_pos hc0])
 ·skip
  refine awp_skip ?_
  refine seqR ?_
  refine fG (.pt 51 1) ft39_1 sz3 ?_
  refine opG rfl (aop_ld (av := .i x.id) rfl rfl rfl ag3 rfl rfl ?_)
  refine mG (.i x.id) ?_
  refine op0 ?_
  refine rT (upd none_ 4 (.i x.id)) (updO noOb 51 (.live ⟨[.v (.int .u8 x.dw), .i x.id, .i x.at_], 39, 1⟩)) ?_
  refine awp_ret ?_
  exact fret (av := .v (.int .i64 x.id)) rfl rfl (by unfold idA; rw [if_neg (by rw [hc0]; simp)])
theorem d_Ended (m : List Tm) (now : Int) (hm : m.length ≤ 65536) : Fn Try.prog 19 [.ro m.length (enc eT m), .v (.int .i64 now)] (.tup [.v (.int .i64 (endI m now)), .v (.bool (endB m now))]) := by
 refine fnE_of_body (N := 72) Try.func19 rfl rfl (resOf2 rfl) (by simp) (fun w0 X hL_ => ?_)
 refine seqR ?_
 refine mG (.i 0) ?_
 refine mG (.b false) ?_
 refine op0 ?_
 refine seqR ?_
 refine mG (.i (-1)) ?_
 refine op0 ?_
 refine awp_seq ?_
 refine seqR ?_
 refine mG (.i 0) ?_
 refine op0 ?_
 refine rT (upd (upd (upd (upd (upd (upd none_ 0 (.q eT m)) 1 (.i now)) 4 (.i 0)) 5 (.b false)) 6 (.i (-1))) 7 (.i 0)) noOb ?_
 refine awp_block ?_
 refine awp_countI (fun k => ⟨(upd (upd (upd (upd (upd (upd none_ 0 (.q eT m)) 1 (.i now)) 4 (.i 0)) 5 (.b false)) 6 (.i (bstT m now k))) 7 (.i (k : Int))), noOb⟩) (fun k => True) (m.length) ?_ trivial (fun k hk_k hinv => ?_)
 ·skip
  exact iN
 have hbr := bst_range m now k
 refine awp_seq ?_
 refine seqR ?_
 refine mG (.i (k : Int)) ?_
 refine mG (.q eT m) ?_
 refine opG rfl (aop_len rfl rfl rfl rfl ut36 (len_ro rfl) ?_)
 refine bG ((.bool (decide ((k : Int) < (m.length : Int))))) ?_
 refine op0 ?_
 refine rT (upd (upd (upd (upd (upd (upd (upd none_ 0 (.q eT m)) 1 (.i now)) 4 (.i 0)) 5 (.b false)) 6 (.i (bstT m now k))) 7 (.i (k : Int))) 11 (.b (decide ((k : Int) < (m.length : Int))))) noOb ?_
 refine awp_cond (decide ((k : Int) < (m.length : Int))) rfl rfl (fun hc0 => ?_) (fun hc0 => ?_)
 ·skip
  have hf1 := of_decide_eq_true hc0
  refine awp_skip ?_
  refine awp_seq ?_
  refine awp_block ?_
  refine awp_seq ?_
  refine (Bool.eq_false_or_eq_true (decide (((m.getD k dT).at_) ≤ now))).elim (fun hg2 => ?_) (fun hg2 => ?_)
  ·skip
   have hf3 := of_decide_eq_true hg2
   refine (Bool.eq_false_or_eq_true (decide ((bstT m now k) < 0))).elim (fun hg4 => ?_) (fun hg4 => ?_)
   ·skip
    have hf5 := of_decide_eq_true hg4
    refine awp_draw (m := 50) [(63, .b true), (62, .b true), (61, .v undef), (60, .v undef), (59, .v undef), (58, .v undef), (57, .v undef), (56, .v undef), (55, .v undef), (54, .v undef), (53, .v undef), (52, .v undef), (51, .v undef), (50, .v undef), (49, .v undef), (48, .v undef), (47, .v undef), (46, .v undef), (45, .v undef), (44, .v undef), (43, .v undef), (42, .v undef), (41, .v undef), (40, .v undef), (39, .v undef), (38, .v undef), (37, .b true), (36, .b true), (35, .v undef), (34, .v undef), (33, .v undef), (32, .v undef), (31, .v undef), (30, .v undef), (29, .v undef), (28, .v undef), (27, .v undef), (26, .v undef), (25, .v undef), (24, .b (decide ((bstT m now k) < 0))), (23, .b (decide ((bstT m now k) < 0))), (22, .i (bstT m now k)), (21, .b (decide (((m.getD k dT).at_) ≤ now))), (20, .b (decide (((m.getD k dT).at_) ≤ now))), (19, .i now), (18, .i ((m.getD k dT).at_)), (17, .rp (([.i ((m.getD k dT).at_)] : List AV) ++ ((enc eT m).drop ((k + 1) * 2)))), (16, .rp (([.i ((m.getD k dT).id), .i ((m.getD k dT).at_)] : List AV) ++ ((enc eT m).drop ((k + 1) * 2)))), (15, .i (k : Int)), (14, .q eT m)] mixed (by kernel_rfl) ?_ ?_
    ·refine ⟨?_, ?_, ?_, ?_, ?_, ?_, ?_, ?_, ?_, ?_, ?_, ?_, ?_, ?_, ?_, ?_, ?_, ?_, ?_, ?_, ?_, ?_, ?_, ?_, ?_, ?_, ?_, ?_, ?_, ?_, ?_, ?_, ?_, ?_, ?_, ?_, ?_, ?_, ?_, ?_, ?_, ?_, ?_, ?_, ?_, ?_, ?_, ?_, ?_, ?_, trivial⟩
     ·exact sMv
     ·exact sMv
     ·exact (sIx dT ut36 sz68)
     ·exact ⟨17, rfl, blt_lt rfl, fun st hob hE => aop_fieldAddr (av := .rp (([.i ((m.getD k dT).id), .i ((m.getD k dT).at_)] : List AV) ++ ((enc eT m).drop ((k + 1) * 2)))) (av' := .rp (([.i ((m.getD k dT).at_)] : List AV) ++ ((enc eT m).drop ((k + 1) * 2)))) rfl rfl rfl ft68_1 sz2 (hE 16 rfl) rfl rfl (by rw [hob]; rfl)⟩
     ·exact (sLd ag2)
     ·exact sMv
     ·exact ⟨20, rfl, blt_lt rfl, fun st hob hE => aop_binI (u := (.bool (decide (((m.getD k dT).at_) ≤ now)))) rfl rfl rfl (hE 18 rfl) (hE 19 rfl) trivial rfl (by rw [hob]; rfl)⟩
     ·exact sMv
     ·exact gy1 hg2 sMv
     ·exact gy1 hg2 ⟨23, rfl, blt_lt rfl, fun st hob hE => aop_binI (u := (.bool (decide ((bstT m now k) < 0)))) rfl rfl rfl (hE 22 rfl) rfl trivial rfl (by rw [hob]; rfl)⟩
     ·exact gy1 hg2 sMv
     ·exact gn0 hg4
     ·exact gn0 hg4
     ·exact gn0 hg4
     ·exact gn0 hg4
     ·exact gn0 hg4
     ·exact gn0 hg4
     ·exact gn0 hg4
     ·exact gn0 hg4
     ·exact gn0 hg4
     ·exact gn0 hg4
     ·exact gn0 hg4
     ·exact gy1 hg2 ⟨36, rfl, blt_lt rfl, fun st hob hE => aop_pick (b := (decide ((bstT m now k) < 0))) (av := .b true) rfl rfl rfl (hE 24 rfl) (by rw [hg4]; rfl) (by rw [hob]; rfl)⟩
     ·exact gy1 hg2 sMv
     ·exact gn0 rfl
     ·exact gn0 rfl
     ·exact gn0 rfl
     ·exact gn0 rfl
     ·exact gn0 rfl
     ·exact gn0 rfl
     ·exact gn0 rfl
     ·exact gn0 rfl
     ·exact gn0 rfl
     ·exact gn0 rfl
     ·exact gn0 rfl
     ·exact gn0 rfl
     ·exact ⟨49, undef, rfl, blt_lt rfl, rfl, (fun h => by cases h), (fun _ => ⟨50, rfl, blt_lt rfl, .inr rfl⟩)⟩
     ·exact ⟨49, undef, rfl, blt_lt rfl, rfl, (fun h => by cases h), (fun _ => ⟨51, rfl, blt_lt rfl, .inr rfl⟩)⟩
     ·exact ⟨49, undef, rfl, blt_lt rfl, rfl, (fun h => by cases h), (fun _ => ⟨52, rfl, blt_lt rfl, .inr rfl⟩)⟩
     ·exact ⟨49, undef, rfl, blt_lt rfl, rfl, (fun h => by cases h), (fun _ => ⟨53, rfl, blt_lt rfl, .inr rfl⟩)⟩
     ·exact ⟨49, undef, rfl, blt_lt rfl, rfl, (fun h => by cases h), (fun _ => ⟨54, rfl, blt_lt rfl, .inr rfl⟩)⟩
     ·exact ⟨49, undef, rfl, blt_lt rfl, rfl, (fun h => by cases h), (fun _ => ⟨55, rfl, blt_lt rfl, .inr rfl⟩)⟩
     ·exact ⟨49, undef, rfl, blt_lt rfl, rfl, (fun h => by cases h), (fun _ => ⟨56, rfl, blt_lt rfl, .inr rfl⟩)⟩
     ·exact ⟨49, undef, rfl, blt_lt rfl, rfl, (fun h => by cases h), (fun _ => ⟨57, rfl, blt_lt rfl, .inr rfl⟩)⟩
     ·exact ⟨49, undef, rfl, blt_lt rfl, rfl, (fun h => by cases h), (fun _ => ⟨58, rfl, blt_lt rfl, .inr rfl⟩)⟩
     ·exact ⟨49, undef, rfl, blt_lt rfl, rfl, (fun h => by cases h), (fun _ => ⟨59, rfl, blt_lt rfl, .inr rfl⟩)⟩
     ·exact ⟨49, undef, rfl, blt_lt rfl, rfl, (fun h => by cases h), (fun _ => ⟨60, rfl, blt_lt rfl, .inr rfl⟩)⟩
     ·exact gn0 rfl
     ·exact gy1 hg2 ⟨62, rfl, blt_lt rfl, fun st hob hE => aop_pick (b := true) (av := .b true) rfl rfl rfl (hE 37 rfl) rfl (by rw [hob]; rfl)⟩
     ·exact ⟨63, rfl, blt_lt rfl, fun st hob hE => aop_pick (b := (decide (((m.getD k dT).at_) ≤ now))) (av := .b true) rfl rfl rfl (hE 21 rfl) (by rw [hg2]; exact hE 62 rfl) (by rw [hob]; rfl)⟩
    refine op0 ?_
    refine awp_cond true rfl rfl (fun _ => ?_) (fun h => by cases h)
    refine regR ?_
    refine mG (.i (k : Int)) ?_
    refine mG (.i (k : Int)) ?_
    refine op0 ?_
    refine regR ?_
    refine mG (.i (k : Int)) ?_
    refine opG rfl (aop_binI (u := (.int .i64 ((k + 1 : Nat) : Int))) rfl rfl rfl rfl rfl trivial (addN (by omega)) ?_)
    refine mG (.i ((k + 1 : Nat) : Int)) ?_
    refine op0 ?_
    show _ ∧ _
    refine ⟨by omega, trivial, ?_⟩
    exact iN (he := (sS rfl (sS (by exact congrArg (fun n_ : Int => AV.v (.int .i64 n_)) (bst_yes (by unfold bstC; simp_all))) (sS rfl (sS rfl (sS rfl (sS rfl sr_none)))))))
   ·skip
    have hf6 := of_decide_eq_false hg4
    refine (Bool.eq_false_or_eq_true (decide (((m.getD k dT).at_) < ((m.getD (bstT m now k).toNat dT).at_)))).elim (fun hg7 => ?_) (fun hg7 => ?_)
    ·skip
     have hf8 := of_decide_eq_true hg7
     refine awp_draw (m := 50) [(63, .b true), (62, .b true), (61, .v undef), (60, .v undef), (59, .v undef), (58, .v undef), (57, .v undef), (56, .v undef), (55, .v undef), (54, .v undef), (53, .v undef), (52, .v undef), (51, .v undef), (50, .v undef), (49, .v undef), (48, .v undef), (47, .v undef), (46, .v undef), (45, .v undef), (44, .v undef), (43, .v undef), (42, .v undef), (41, .v undef), (40, .v undef), (39, .v undef), (38, .v undef), (37, .b (decide (((m.getD k dT).at_) < ((m.getD (bstT m now k).toNat dT).at_)))), (36, .b (decide (((m.getD k dT).at_) < ((m.getD (bstT m now k).toNat dT).at_)))), (35, .b (decide (((m.getD k dT).at_) < ((m.getD (bstT m now k).toNat dT).at_)))), (34, .i ((m.getD (bstT m now k).toNat dT).at_)), (33, .rp (([.i ((m.getD (bstT m now k).toNat dT).at_)] : List AV) ++ ((enc eT m).drop (((bstT m now k).toNat + 1) * 2)))), (32, .rp (([.i ((m.getD (bstT m now k).toNat dT).id), .i ((m.getD (bstT m now k).toNat dT).at_)] : List AV) ++ ((enc eT m).drop (((bstT m now k).toNat + 1) * 2)))), (31, .i (bstT m now k)), (30, .q eT m), (29, .i ((m.getD k dT).at_)), (28, .rp (([.i ((m.getD k dT).at_)] : List AV) ++ ((enc eT m).drop ((k + 1) * 2)))), (27, .rp (([.i ((m.getD k dT).id), .i ((m.getD k dT).at_)] : List AV) ++ ((enc eT m).drop ((k + 1) * 2)))), (26, .i (k : Int)), (25, .q eT m), (24, .b (decide ((bstT m now k) < 0))), (23, .b (decide ((bstT m now k) < 0))), (22, .i (bstT m now k)), (21, .b (decide (((m.getD k dT).at_) ≤ now))), (20, .b (decide (((m.getD k dT).at_) ≤ now))), (19, .i now), (18, .i ((m.getD k dT).at_)), (17, .rp (([.i ((m.getD k dT).at_)] : List AV) ++ ((enc eT m).drop ((k + 1) * 2)))), (16, .rp (([.i ((m.getD k dT).id), .i ((m.getD k dT).at_)] : List AV) ++ ((enc eT m).drop ((k + 1) * 2)))), (15, .i (k : Int)), (14, .q eT m)] mixed (by kernel_rfl) ?_ ?_
     ·refine ⟨?_, ?_, ?_, ?_, ?_, ?_, ?_, ?_, ?_, ?_, ?_, ?_, ?_, ?_, ?_, ?_, ?_, ?_, ?_, ?_, ?_, ?_, ?_, ?_, ?_, ?_, ?_, ?_, ?_, ?_, ?_, ?_, ?_, ?_, ?_, ?_, ?_, ?_, ?_, ?_, ?_, ?_, ?_, ?_, ?_, ?_, ?_, ?_, ?_, ?_, trivial⟩
      ·exact sMv
      ·exact sMv
      ·exact (sIx dT ut36 sz68)
      ·exact ⟨17, rfl, blt_lt rfl, fun st hob hE => aop_fieldAddr (av := .rp (([.i ((m.getD k dT).id), .i ((m.getD k dT).at_)] : List AV) ++ ((enc eT m).drop ((k + 1) * 2)))) (av' := .rp (([.i ((m.getD k dT).at_)] : List AV) ++ ((enc eT m).drop ((k + 1) * 2)))) rfl rfl rfl ft68_1 sz2 (hE 16 rfl) rfl rfl (by rw [hob]; rfl)⟩
      ·exact (sLd ag2)
      ·exact sMv
      ·exact ⟨20, rfl, blt_lt rfl, fun st hob hE => aop_binI (u := (.bool (decide (((m.getD k dT).at_) ≤ now)))) rfl rfl rfl (hE 18 rfl) (hE 19 rfl) trivial rfl (by rw [hob]; rfl)⟩
      ·exact sMv
      ·exact gy1 hg2 sMv
      ·exact gy1 hg2 ⟨23, rfl, blt_lt rfl, fun st hob hE => aop_binI (u := (.bool (decide ((bstT m now k) < 0)))) rfl rfl rfl (hE 22 rfl) rfl trivial rfl (by rw [hob]; rfl)⟩
      ·exact gy1 hg2 sMv
      ·exact gy0 hg4 sMv
      ·exact gy0 hg4 sMv
      ·exact gy0 hg4 (sIx dT ut36 sz68)
      ·exact gy0 hg4 ⟨28, rfl, blt_lt rfl, fun st hob hE => aop_fieldAddr (av := .rp (([.i ((m.getD k dT).id), .i ((m.getD k dT).at_)] : List AV) ++ ((enc eT m).drop ((k + 1) * 2)))) (av' := .rp (([.i ((m.getD k dT).at_)] : List AV) ++ ((enc eT m).drop ((k + 1) * 2)))) rfl rfl rfl ft68_1 sz2 (hE 27 rfl) rfl rfl (by rw [hob]; rfl)⟩
      ·exact gy0 hg4 (sLd ag2)
      ·exact gy0 hg4 sMv
      ·exact gy0 hg4 sMv
      ·exact gy0 hg4 ⟨32, rfl, blt_lt rfl, fun st hob hE => aop_ixI dT rfl rfl rfl ut36 sz68 (hE 30 rfl) (hE 31 rfl) (fun _ => rfl) rfl (by omega) (by first | omega | (simp; done) | decide | (simp at *; omega)) (by rw [hob]; rfl)⟩
      ·exact gy0 hg4 ⟨33, rfl, blt_lt rfl, fun st hob hE => aop_fieldAddr (av := .rp (([.i ((m.getD (bstT m now k).toNat dT).id), .i ((m.getD (bstT m now k).toNat dT).at_)] : List AV) ++ ((enc eT m).drop (((bstT m now k).toNat + 1) * 2)))) (av' := .rp (([.i ((m.getD (bstT m now k).toNat dT).at_)] : List AV) ++ ((enc eT m).drop (((bstT m now k).toNat + 1) * 2)))) rfl rfl rfl ft68_1 sz2 (hE 32 rfl) rfl rfl (by rw [hob]; rfl)⟩
      ·exact gy0 hg4 (sLd ag2)
      ·exact gy0 hg4 ⟨35, rfl, blt_lt rfl, fun st hob hE => aop_binI (u := (.bool (decide (((m.getD k dT).at_) < ((m.getD (bstT m now k).toNat dT).at_))))) rfl rfl rfl (hE 29 rfl) (hE 34 rfl) trivial rfl (by rw [hob]; rfl)⟩
      ·exact gy1 hg2 ⟨36, rfl, blt_lt rfl, fun st hob hE => aop_pick (b := (decide ((bstT m now k) < 0))) (av := .b (decide (((m.getD k dT).at_) < ((m.getD (bstT m now k).toNat dT).at_)))) rfl rfl rfl (hE 24 rfl) (by rw [hg4]; exact hE 35 rfl) (by rw [hob]; rfl)⟩
      ·exact gy1 hg2 sMv
      ·exact gn0 hg7
      ·exact gn0 hg7
      ·exact gn0 hg7
      ·exact gn0 hg7
      ·exact gn0 hg7
      ·exact gn0 hg7
      ·exact gn0 hg7
      ·exact gn0 hg7
      ·exact gn0 hg7
      ·exact gn0 hg7
      ·exact gn0 hg7
      ·exact gn0 hg7
      ·exact ⟨49, undef, rfl, blt_lt rfl, rfl, (fun h => by cases h), (fun _ => ⟨50, rfl, blt_lt rfl, .inr rfl⟩)⟩
      ·exact ⟨49, undef, rfl, blt_lt rfl, rfl, (fun h => by cases h), (fun _ => ⟨51, rfl, blt_lt rfl, .inr rfl⟩)⟩
      ·exact ⟨49, undef, rfl, blt_lt rfl, rfl, (fun h => by cases h), (fun _ => ⟨52, rfl, blt_lt rfl, .inr rfl⟩)⟩
      ·exact ⟨49, undef, rfl, blt_lt rfl, rfl, (fun h => by cases h), (fun _ => ⟨53, rfl, blt_lt rfl, .inr rfl⟩)⟩
      ·exact ⟨49, undef, rfl, blt_lt rfl, rfl, (fun h => by cases h), (fun _ => ⟨54, rfl, blt_lt rfl, .inr rfl⟩)⟩
      ·exact ⟨49, undef, rfl, blt_lt rfl, rfl, (fun h => by cases h), (fun _ => ⟨55, rfl, blt_lt rfl, .inr rfl⟩)⟩
      ·exact ⟨49, undef, rfl, blt_lt rfl, rfl, (fun h => by cases h), (fun _ => ⟨56, rfl, blt_lt rfl, .inr rfl⟩)⟩
      ·exact ⟨49, undef, rfl, blt_lt rfl, rfl, (fun h => by cases h), (fun _ => ⟨57, rfl, blt_lt rfl, .inr rfl⟩)⟩
      ·exact ⟨49, undef, rfl, blt_lt rfl, rfl, (fun h => by cases h), (fun _ => ⟨58, rfl, blt_lt rfl, .inr rfl⟩)⟩
      ·exact ⟨49, undef, rfl, blt_lt rfl, rfl, (fun h => by cases h), (fun _ => ⟨59, rfl, blt_lt rfl, .inr rfl⟩)⟩
      ·exact ⟨49, undef, rfl, blt_lt rfl, rfl, (fun h => by cases h), (fun _ => ⟨60, rfl, blt_lt rfl, .inr rfl⟩)⟩
      ·exact gn0 hg7
      ·exact gy1 hg2 ⟨62, rfl, blt_lt rfl, fun st hob hE => aop_pick (b := (decide (((m.getD k dT).at_) < ((m.getD (bstT m now k).toNat dT).at_)))) (av := .b true) rfl rfl rfl (hE 37 rfl) (by rw [hg7]; rfl) (by rw [hob]; rfl)⟩
      ·exact ⟨63, rfl, blt_lt rfl, fun st hob hE => aop_pick (b := (decide (((m.getD k dT).at_) ≤ now))) (av := .b true) rfl rfl rfl (hE 21 rfl) (by rw [hg2]; exact hE 62 rfl) (by rw [hob]; rfl)⟩
     refine op0 ?_
     refine awp_cond true rfl rfl (fun _ => ?_) (fun h => by cases h)
     refine regR ?_
     refine mG (.i (k : Int)) ?_
     refine mG (.i (k : Int)) ?_
     refine op0 ?_
     refine regR ?_
     refine mG (.i (k : Int)) ?_
     refine opG rfl (aop_binI (u := (.int .i64 ((k + 1 : Nat) : Int))) rfl rfl rfl rfl rfl trivial (addN (by omega)) ?_)
     refine mG (.i ((k + 1 : Nat) : Int)) ?_
     refine op0 ?_
     show _ ∧ _
     refine ⟨by omega, trivial, ?_⟩
     exact iN (he := (sS rfl (sS (by exact congrArg (fun n_ : Int => AV.v (.int .i64 n_)) (bst_yes (by unfold bstC; simp_all))) (sS rfl (sS rfl (sS rfl (sS rfl sr_none)))))))
    ·skip
     have hf9 := of_decide_eq_false hg7
     refine (Bool.eq_false_or_eq_true (((m.getD k dT).at_) == ((m.getD (bstT m now k).toNat dT).at_))).elim (fun hg10 => ?_) (fun hg10 => ?_)
     ·skip
      have hf11 := (beq_iff_eq).1 hg10
      refine awp_draw (m := 50) [(63, .b (decide (((m.getD k dT).id) < ((m.getD (bstT m now k).toNat dT).id)))), (62, .b (decide (((m.getD k dT).id) < ((m.getD (bstT m now k).toNat dT).id)))), (61, .b (decide (((m.getD k dT).id) < ((m.getD (bstT m now k).toNat dT).id)))), (60, .b (decide (((m.getD k dT).id) < ((m.getD (bstT m now k).toNat dT).id)))), (59, .i ((m.getD (bstT m now k).toNat dT).id)), (58, .rp (([.i ((m.getD (bstT m now k).toNat dT).id), .i ((m.getD (bstT m now k).toNat dT).at_)] : List AV) ++ ((enc eT m).drop (((bstT m now k).toNat + 1) * 2)))), (57, .rp (([.i ((m.getD (bstT m now k).toNat dT).id), .i ((m.getD (bstT m now k).toNat dT).at_)] : List AV) ++ ((enc eT m).drop (((bstT m now k).toNat + 1) * 2)))), (56, .i (bstT m now k)), (55, .q eT m), (54, .i ((m.getD k dT).id)), (53, .rp (([.i ((m.getD k dT).id), .i ((m.getD k dT).at_)] : List AV) ++ ((enc eT m).drop ((k + 1) * 2)))), (52, .rp (([.i ((m.getD k dT).id), .i ((m.getD k dT).at_)] : List AV) ++ ((enc eT m).drop ((k + 1) * 2)))), (51, .i (k : Int)), (50, .q eT m), (49, .b (((m.getD k dT).at_) == ((m.getD (bstT m now k).toNat dT).at_))), (48, .b (((m.getD k dT).at_) == ((m.getD (bstT m now k).toNat dT).at_))), (47, .i ((m.getD (bstT m now k).toNat dT).at_)), (46, .rp (([.i ((m.getD (bstT m now k).toNat dT).at_)] : List AV) ++ ((enc eT m).drop (((bstT m now k).toNat + 1) * 2)))), (45, .rp (([.i ((m.getD (bstT m now k).toNat dT).id), .i ((m.getD (bstT m now k).toNat dT).at_)] : List AV) ++ ((enc eT m).drop (((bstT m now k).toNat + 1) * 2)))), (44, .i (bstT m now k)), (43, .q eT m), (42, .i ((m.getD k dT).at_)), (41, .rp (([.i ((m.getD k dT).at_)] : List AV) ++ ((enc eT m).drop ((k + 1) * 2)))), (40, .rp (([.i ((m.getD k dT).id), .i ((m.getD k dT).at_)] : List AV) ++ ((enc eT m).drop ((k + 1) * 2)))), (39, .i (k : Int)), (38, .q eT m), (37, .b (decide (((m.getD k dT).at_) < ((m.getD (bstT m now k).toNat dT).at_)))), (36, .b (decide (((m.getD k dT).at_) < ((m.getD (bstT m now k).toNat dT).at_)))), (35, .b (decide (((m.getD k dT).at_) < ((m.getD (bstT m now k).toNat dT).at_)))), (34, .i ((m.getD (bstT m now k).toNat dT).at_)), (33, .rp (([.i ((m.getD (bstT m now k).toNat dT).at_)] : List AV) ++ ((enc eT m).drop (((bstT m now k).toNat + 1) * 2)))), (32, .rp (([.i ((m.getD (bstT m now k).toNat dT).id), .i ((m.getD (bstT m now k).toNat dT).at_)] : List AV) ++ ((enc eT m).drop (((bstT m now k).toNat + 1) * 2)))), (31, .i (bstT m now k)), (30, .q eT m), (29, .i ((m.getD k dT).at_)), (28, .rp (([.i ((m.getD k dT).at_)] : List AV) ++ ((enc eT m).drop ((k + 1) * 2)))), (27, .rp (([.i ((m.getD k dT).id), .i ((m.getD k dT).at_)] : List AV) ++ ((enc eT m).drop ((k + 1) * 2)))), (26, .i (k : Int)), (25, .q eT m), (24, .b (decide ((bstT m now k) < 0))), (23, .b (decide ((bstT m now k) < 0))), (22, .i (bstT m now k)), (21, .b (decide (((m.getD k dT).at_) ≤ now))), (20, .b (decide (((m.getD k dT).at_) ≤ now))), (19, .i now), (18, .i ((m.getD k dT).at_)), (17, .rp (([.i ((m.getD k dT).at_)] : List AV) ++ ((enc eT m).drop ((k + 1) * 2)))), (16, .rp (([.i ((m.getD k dT).id), .i ((m.getD k dT).at_)] : List AV) ++ ((enc eT m).drop ((k + 1) * 2)))), (15, .i (k : Int)), (14, .q eT m)] mixed (by kernel_rfl) ?_ ?_
      ·refine ⟨?_, ?_, ?_, ?_, ?_, ?_, ?_, ?_, ?_, ?_, ?_, ?_, ?_, ?_, ?_, ?_, ?_, ?_, ?_, ?_, ?_, ?_, ?_, ?_, ?_, ?_, ?_, ?_, ?_, ?_, ?_, ?_, ?_, ?_, ?_, ?_, ?_, ?_, ?_, ?_, ?_, ?_, ?_, ?_, ?_, ?_, ?_, ?_, ?_, ?_, trivial⟩
       ·exact sMv
       ·exact sMv
       ·exact (sIx dT ut36 sz68)
       ·exact ⟨17, rfl, blt_lt rfl, fun st hob hE => aop_fieldAddr (av := .rp (([.i ((m.getD k dT).id), .i ((m.getD k dT).at_)] : List AV) ++ ((enc eT m).drop ((k + 1) * 2)))) (av' := .rp (([.i ((m.getD k dT).at_)] : List AV) ++ ((enc eT m).drop ((k + 1) * 2)))) rfl rfl rfl ft68_1 sz2 (hE 16 rfl) rfl rfl (by rw [hob]; rfl)⟩
       ·exact (sLd ag2)
       ·exact sMv
       ·exact ⟨20, rfl, blt_lt rfl, fun st hob hE => aop_binI (u := (.bool (decide (((m.getD k dT).at_) ≤ now)))) rfl rfl rfl (hE 18 rfl) (hE 19 rfl) trivial rfl (by rw [hob]; rfl)⟩
       ·exact sMv
       ·exact gy1 hg2 sMv
       ·exact gy1 hg2 ⟨23, rfl, blt_lt rfl, fun st hob hE => aop_binI (u := (.bool (decide ((bstT m now k) < 0)))) rfl rfl rfl (hE 22 rfl) rfl trivial rfl (by rw [hob]; rfl)⟩
       ·exact gy1 hg2 sMv
       ·exact gy0 hg4 sMv
       ·exact gy0 hg4 sMv
       ·exact gy0 hg4 (sIx dT ut36 sz68)
       ·exact gy0 hg4 ⟨28, rfl, blt_lt rfl, fun st hob hE => aop_fieldAddr (av := .rp (([.i ((m.getD k dT).id), .i ((m.getD k dT).at_)] : List AV) ++ ((enc eT m).drop ((k + 1) * 2)))) (av' := .rp (([.i ((m.getD k dT).at_)] : List AV) ++ ((enc eT m).drop ((k + 1) * 2)))) rfl rfl rfl ft68_1 sz2 (hE 27 rfl) rfl rfl (by rw [hob]; rfl)⟩
       ·exact gy0 hg4 (sLd ag2)
       ·exact gy0 hg4 sMv
       ·exact gy0 hg4 sMv
       ·exact gy0 hg4 ⟨32, rfl, blt_lt rfl, fun st hob hE => aop_ixI dT rfl rfl rfl ut36 sz68 (hE 30 rfl) (hE 31 rfl) (fun _ => rfl) rfl (by omega) (by first | omega | (simp; done) | decide | (simp at *; omega)) (by rw [hob]; rfl)⟩
       ·exact gy0 hg4 ⟨33, rfl, blt_lt rfl, fun st hob hE => aop_fieldAddr (av := .rp (([.i ((m.getD (bstT m now k).toNat dT).id), .i ((m.getD (bstT m now k).toNat dT).at_)] : List AV) ++ ((enc eT m).drop (((bstT m now k).toNat + 1) * 2)))) (av' := .rp (([.i ((m.getD (bstT m now k).toNat dT).at_)] : List AV) ++ ((enc eT m).drop (((bstT m now k).toNat + 1) * 2)))) rfl rfl rfl ft68_1 sz2 (hE 32 rfl) rfl rfl (by rw [hob]; rfl)⟩
       ·exact gy0 hg4 (sLd ag2)
       ·exact gy0 hg4 ⟨35, rfl, blt_lt rfl, fun st hob hE => aop_binI (u := (.bool (decide (((m.getD k dT).at_) < ((m.getD (bstT m now k).toNat dT).at_))))) rfl rfl rfl (hE 29 rfl) (hE 34 rfl) trivial rfl (by rw [hob]; rfl)⟩
       ·exact gy1 hg2 ⟨36, rfl, blt_lt rfl, fun st hob hE => aop_pick (b := (decide ((bstT m now k) < 0))) (av := .b (decide (((m.getD k dT).at_) < ((m.getD (bstT m now k).toNat dT).at_)))) rfl rfl rfl (hE 24 rfl) (by rw [hg4]; exact hE 35 rfl) (by rw [hob]; rfl)⟩
       ·exact gy1 hg2 sMv
       ·exact gy0 hg7 sMv
       ·exact gy0 hg7 sMv
       ·exact gy0 hg7 (sIx dT ut36 sz68)
       ·exact gy0 hg7 ⟨41, rfl, blt_lt rfl, fun st hob hE => aop_fieldAddr (av := .rp (([.i ((m.getD k dT).id), .i ((m.getD k dT).at_)] : List AV) ++ ((enc eT m).drop ((k + 1) * 2)))) (av' := .rp (([.i ((m.getD k dT).at_)] : List AV) ++ ((enc eT m).drop ((k + 1) * 2)))) rfl rfl rfl ft68_1 sz2 (hE 40 rfl) rfl rfl (by rw [hob]; rfl)⟩
       ·exact gy0 hg7 (sLd ag2)
       ·exact gy0 hg7 sMv
       ·exact gy0 hg7 sMv
       ·exact gy0 hg7 ⟨45, rfl, blt_lt rfl, fun st hob hE => aop_ixI dT rfl rfl rfl ut36 sz68 (hE 43 rfl) (hE 44 rfl) (fun _ => rfl) rfl (by omega) (by first | omega | (simp; done) | decide | (simp at *; omega)) (by rw [hob]; rfl)⟩
       ·exact gy0 hg7 ⟨46, rfl, blt_lt rfl, fun st hob hE => aop_fieldAddr (av := .rp (([.i ((m.getD (bstT m now k).toNat dT).id), .i ((m.getD (bstT m now k).toNat dT).at_)] : List AV) ++ ((enc eT m).drop (((bstT m now k).toNat + 1) * 2)))) (av' := .rp (([.i ((m.getD (bstT m now k).toNat dT).at_)] : List AV) ++ ((enc eT m).drop (((bstT m now k).toNat + 1) * 2)))) rfl rfl rfl ft68_1 sz2 (hE 45 rfl) rfl rfl (by rw [hob]; rfl)⟩
       ·exact gy0 hg7 (sLd ag2)
       ·exact gy0 hg7 ⟨48, rfl, blt_lt rfl, fun st hob hE => aop_binI (u := (.bool (((m.getD k dT).at_) == ((m.getD (bstT m now k).toNat dT).at_)))) rfl rfl rfl (hE 42 rfl) (hE 47 rfl) trivial rfl (by rw [hob]; rfl)⟩
       ·exact gy0 hg7 sMv
       ·exact gy1 hg10 sMv
       ·exact gy1 hg10 sMv
       ·exact gy1 hg10 (sIx dT ut36 sz68)
       ·exact gy1 hg10 ⟨53, rfl, blt_lt rfl, fun st hob hE => aop_fieldAddr (av := .rp (([.i ((m.getD k dT).id), .i ((m.getD k dT).at_)] : List AV) ++ ((enc eT m).drop ((k + 1) * 2)))) (av' := .rp (([.i ((m.getD k dT).id), .i ((m.getD k dT).at_)] : List AV) ++ ((enc eT m).drop ((k + 1) * 2)))) rfl rfl rfl ft68_0 sz3 (hE 52 rfl) rfl rfl (by rw [hob]; rfl)⟩
       ·exact gy1 hg10 (sLd ag3)
       ·exact gy1 hg10 sMv
       ·exact gy1 hg10 sMv
       ·exact gy1 hg10 ⟨57, rfl, blt_lt rfl, fun st hob hE => aop_ixI dT rfl rfl rfl ut36 sz68 (hE 55 rfl) (hE 56 rfl) (fun _ => rfl) rfl (by omega) (by first | omega | (simp; done) | decide | (simp at *; omega)) (by rw [hob]; rfl)⟩
       ·exact gy1 hg10 ⟨58, rfl, blt_lt rfl, fun st hob hE => aop_fieldAddr (av := .rp (([.i ((m.getD (bstT m now k).toNat dT).id), .i ((m.getD (bstT m now k).toNat dT).at_)] : List AV) ++ ((enc eT m).drop (((bstT m now k).toNat + 1) * 2)))) (av' := .rp (([.i ((m.getD (bstT m now k).toNat dT).id), .i ((m.getD (bstT m now k).toNat dT).at_)] : List AV) ++ ((enc eT m).drop (((bstT m now k).toNat + 1) * 2)))) rfl rfl rfl ft68_0 sz3 (hE 57 rfl) rfl rfl (by rw [hob]; rfl)⟩
       ·exact gy1 hg10 (sLd ag3)
       ·exact gy1 hg10 ⟨60, rfl, blt_lt rfl, fun st hob hE => aop_binI (u := (.bool (decide (((m.getD k dT).id) < ((m.getD (bstT m now k).toNat dT).id))))) rfl rfl rfl (hE 54 rfl) (hE 59 rfl) trivial rfl (by rw [hob]; rfl)⟩
       ·exact gy0 hg7 ⟨61, rfl, blt_lt rfl, fun st hob hE => aop_pick (b := (((m.getD k dT).at_) == ((m.getD (bstT m now k).toNat dT).at_))) (av := .b (decide (((m.getD k dT).id) < ((m.getD (bstT m now k).toNat dT).id)))) rfl rfl rfl (hE 49 rfl) (by rw [hg10]; exact hE 60 rfl) (by rw [hob]; rfl)⟩
       ·exact gy1 hg2 ⟨62, rfl, blt_lt rfl, fun st hob hE => aop_pick (b := (decide (((m.getD k dT).at_) < ((m.getD (bstT m now k).toNat dT).at_)))) (av := .b (decide (((m.getD k dT).id) < ((m.getD (bstT m now k).toNat dT).id)))) rfl rfl rfl (hE 37 rfl) (by rw [hg7]; exact hE 61 rfl) (by rw [hob]; rfl)⟩
       ·exact ⟨63, rfl, blt_lt rfl, fun st hob hE => aop_pick (b := (decide (((m.getD k dT).at_) ≤ now))) (av := .b (decide (((m.getD k dT).id) < ((m.getD (bstT m now k).toNat dT).id)))) rfl rfl rfl (hE 21 rfl) (by rw [hg2]; exact hE 62 rfl) (by rw [hob]; rfl)⟩
      refine op0 ?_
      refine awp_cond (decide (((m.getD k dT).id) < ((m.getD (bstT m now k).toNat dT).id))) rfl rfl (fun hc1 => ?_) (fun hc1 => ?_)
      ·skip
       have hf12 := of_decide_eq_true hc1
       refine regR ?_
       refine mG (.i (k : Int)) ?_
       refine mG (.i (k : Int)) ?_
       refine op0 ?_
       refine regR ?_
       refine mG (.i (k : Int)) ?_
       refine opG rfl (aop_binI (u := (.int .i64 ((k + 1 : Nat) : Int))) rfl rfl rfl rfl rfl trivial (addN (by omega)) ?_)
       refine mG (.i ((k + 1 : Nat) : Int)) ?_
       refine op0 ?_
       show _ ∧ _
       refine ⟨by omega, trivial, ?_⟩
       exact iN (he := (sS rfl (sS (by exact congrArg (fun n_ : Int => AV.v (.int .i64 n_)) (bst_yes (by unfold bstC; simp_all))) (sS rfl (sS rfl (sS rfl (sS rfl sr_none)))))))
      ·skip
       have hf13 := of_decide_eq_false hc1
       refine awp_skip ?_
       refine regR ?_
       refine mG (.i (k : Int)) ?_
       refine opG rfl (aop_binI (u := (.int .i64 ((k + 1 : Nat) : Int))) rfl rfl rfl rfl rfl trivial (addN (by omega)) ?_)
       refine mG (.i ((k + 1 : Nat) : Int)) ?_
       refine op0 ?_
       show _ ∧ _
       refine ⟨by omega, trivial, ?_⟩
       exact iN (he := (sS rfl (sS (by exact congrArg (fun n_ : Int => AV.v (.int .i64 n_)) (bst_no (by unfold bstC; simp_all))) (sS rfl (sS rfl (sS rfl (sS rfl sr_none)))))))
     ·skip
      have hf14 := (beq_eq_false_iff_ne).1 hg10
      refine awp_draw (m := 50) [(63, .b false), (62, .b false), (61, .b false), (60, .v undef), (59, .v undef), (58, .v undef), (57, .v undef), (56, .v undef), (55, .v undef), (54, .v undef), (53, .v undef), (52, .v undef), (51, .v undef), (50, .v undef), (49, .b (((m.getD k dT).at_) == ((m.getD (bstT m now k).toNat dT).at_))), (48, .b (((m.getD k dT).at_) == ((m.getD (bstT m now k).toNat dT).at_))), (47, .i ((m.getD (bstT m now k).toNat dT).at_)), (46, .rp (([.i ((m.getD (bstT m now k).toNat dT).at_)] : List AV) ++ ((enc eT m).drop (((bstT m now k).toNat + 1) * 2)))), (45, .rp (([.i ((m.getD (bstT m now k).toNat dT).id), .i ((m.getD (bstT m now k).toNat dT).at_)] : List AV) ++ ((enc eT m).drop (((bstT m now k).toNat + 1) * 2)))), (44, .i (bstT m now k)), (43, .q eT m), (42, .i ((m.getD k dT).at_)), (41, .rp (([.i ((m.getD k dT).at_)] : List AV) ++ ((enc eT m).drop ((k + 1) * 2)))), (40, .rp (([.i ((m.getD k dT).id), .i ((m.getD k dT).at_)] : List AV) ++ ((enc eT m).drop ((k + 1) * 2)))), (39, .i (k : Int)), (38, .q eT m), (37, .b (decide (((m.getD k dT).at_) < ((m.getD (bstT m now k).toNat dT).at_)))), (36, .b (decide (((m.getD k dT).at_) < ((m.getD (bstT m now k).toNat dT).at_)))), (35, .b (decide (((m.getD k dT).at_) < ((m.getD (bstT m now k).toNat dT).at_)))), (34, .i ((m.getD (bstT m now k).toNat dT).at_)), (33, .rp (([.i ((m.getD (bstT m now k).toNat dT).at_)] : List AV) ++ ((enc eT m).drop (((bstT m now k).toNat + 1) * 2)))), (32, .rp (([.i ((m.getD (bstT m now k).toNat dT).id), .i ((m.getD (bstT m now k).toNat dT).at_)] : List AV) ++ ((enc eT m).drop (((bstT m now k).toNat + 1) * 2)))), (31, .i (bstT m now k)), (30, .q eT m), (29, .i ((m.getD k dT).at_)), (28, .rp (([.i ((m.getD k dT).at_)] : List AV) ++ ((enc eT m).drop ((k + 1) * 2)))), (27, .rp (([.i ((m.getD k dT).id), .i ((m.getD k dT).at_)] : List AV) ++ ((enc eT m).drop ((k + 1) * 2)))), (26, .i (k : Int)), (25, .q eT m), (24, .b (decide ((bstT m now k) < 0))), (23, .b (decide ((bstT m now k) < 0))), (22, .i (bstT m now k)), (21, .b (decide (((m.getD k dT).at_) ≤ now))), (20, .b (decide (((m.getD k dT).at_) ≤ now))), (19, .i now), (18, .i ((m.getD k dT).at_)), (17, .rp (([.i ((m.getD k dT).at_)] : List AV) ++ ((enc eT m).drop ((k + 1) * 2)))), (16, .rp (([.i ((m.getD k dT).id), .i ((m.getD k dT).at_)] : List AV) ++ ((enc eT m).drop ((k + 1) * 2)))), (15, .i (k : Int)), (14, .q eT m)] mixed (by kernel_rfl) ?_ ?_
      ·refine ⟨?_, ?_, ?_, ?_, ?_, ?_, ?_, ?_, ?_, ?_, ?_, ?_, ?_, ?_, ?_, ?_, ?_, ?_, ?_, ?_, ?_, ?_, ?_, ?_, ?_, ?_, ?_, ?_, ?_, ?_, ?_, ?_, ?_, ?_, ?_, ?_, ?_, ?_, ?_, ?_, ?_, ?_, ?_, ?_, ?_, ?_, ?_, ?_, ?_, ?_, trivial⟩
       ·exact sMv
       ·exact sMv
       ·exact (sIx dT ut36 sz68)
       ·exact ⟨17, rfl, blt_lt rfl, fun st hob hE => aop_fieldAddr (av := .rp (([.i ((m.getD k dT).id), .i ((m.getD k dT).at_)] : List AV) ++ ((enc eT m).drop ((k + 1) * 2)))) (av' := .rp (([.i ((m.getD k dT).at_)] : List AV) ++ ((enc eT m).drop ((k + 1) * 2)))) rfl rfl rfl ft68_1 sz2 (hE 16 rfl) rfl rfl (by rw [hob]; rfl)⟩
       ·exact (sLd ag2)
       ·exact sMv
       ·exact ⟨20, rfl, blt_lt rfl, fun st hob hE => aop_binI (u := (.bool (decide (((m.getD k dT).at_) ≤ now)))) rfl rfl rfl (hE 18 rfl) (hE 19 rfl) trivial rfl (by rw [hob]; rfl)⟩
       ·exact sMv
       ·exact gy1 hg2 sMv
       ·exact gy1 hg2 ⟨23, rfl, blt_lt rfl, fun st hob hE => aop_binI (u := (.bool (decide ((bstT m now k) < 0)))) rfl rfl rfl (hE 22 rfl) rfl trivial rfl (by rw [hob]; rfl)⟩
       ·exact gy1 hg2 sMv
       ·exact gy0 hg4 sMv
       ·exact gy0 hg4 sMv
       ·exact gy0 hg4 (sIx dT ut36 sz68)
       ·exact gy0 hg4 ⟨28, rfl, blt_lt rfl, fun st hob hE => aop_fieldAddr (av := .rp (([.i ((m.getD k dT).id), .i ((m.getD k dT).at_)] : List AV) ++ ((enc eT m).drop ((k + 1) * 2)))) (av' := .rp (([.i ((m.getD k dT).at_)] : List AV) ++ ((enc eT m).drop ((k + 1) * 2)))) rfl rfl rfl ft68_1 sz2 (hE 27 rfl) rfl rfl (by rw [hob]; rfl)⟩
       ·exact gy0 hg4 (sLd ag2)
       ·exact gy0 hg4 sMv
       ·exact gy0 hg4 sMv
       ·exact gy0 hg4 ⟨32, rfl, blt_lt rfl, fun st hob hE => aop_ixI dT rfl rfl rfl ut36 sz68 (hE 30 rfl) (hE 31 rfl) (fun _ => rfl) rfl (by omega) (by first | omega | (simp; done) | decide | (simp at *; omega)) (by rw [hob]; rfl)⟩
       ·exact gy0 hg4 ⟨33, rfl, blt_lt rfl, fun st hob hE => aop_fieldAddr (av := .rp (([.i ((m.getD (bstT m now k).toNat dT).id), .i ((m.getD (bstT m now k).toNat dT).at_)] : List AV) ++ ((enc eT m).drop (((bstT m now k).toNat + 1) * 2)))) (av' := .rp (([.i ((m.getD (bstT m now k).toNat dT).at_)] : List AV) ++ ((enc eT m).drop (((bstT m now k).toNat + 1) * 2)))) rfl rfl rfl ft68_1 sz2 (hE 32 rfl) rfl rfl (by rw [hob]; rfl)⟩
       ·exact gy0 hg4 (sLd ag2)
       ·exact gy0 hg4 ⟨35, rfl, blt_lt rfl, fun st hob hE => aop_binI (u := (.bool (decide (((m.getD k dT).at_) < ((m.getD (bstT m now k).toNat dT).at_))))) rfl rfl rfl (hE 29 rfl) (hE 34 rfl) trivial rfl (by rw [hob]; rfl)⟩
       ·exact gy1 hg2 ⟨36, rfl, blt_lt rfl, fun st hob hE => aop_pick (b := (decide ((bstT m now k) < 0))) (av := .b (decide (((m.getD k dT).at_) < ((m.getD (bstT m now k).toNat dT).at_)))) rfl rfl rfl (hE 24 rfl) (by rw [hg4]; exact hE 35 rfl) (by rw [hob]; rfl)⟩
       ·exact gy1 hg2 sMv
       ·exact gy0 hg7 sMv
       ·exact gy0 hg7 sMv
       ·exact gy0 hg7 (sIx dT ut36 sz68)
       ·exact gy0 hg7 ⟨41, rfl, blt_lt rfl, fun st hob hE => aop_fieldAddr (av := .rp (([.i ((m.getD k dT).id), .i ((m.getD k dT).at_)] : List AV) ++ ((enc eT m).drop ((k + 1) * 2)))) (av' := .rp (([.i ((m.getD k dT).at_)] : List AV) ++ ((enc eT m).drop ((k + 1) * 2)))) rfl rfl rfl ft68_1 sz2 (hE 40 rfl) rfl rfl (by rw [hob]; rfl)⟩
       ·exact gy0 hg7 (sLd ag2)
       ·exact gy0 hg7 sMv
       ·exact gy0 hg7 sMv
       ·exact gy0 hg7 ⟨45, rfl, blt_lt rfl, fun st hob hE => aop_ixI dT rfl rfl rfl ut36 sz68 (hE 43 rfl) (hE 44 rfl) (fun _ => rfl) rfl (by omega) (by first | omega | (simp; done) | decide | (simp at *; omega)) (by rw [hob]; rfl)⟩
       ·exact gy0 hg7 ⟨46, rfl, blt_lt rfl, fun st hob hE => aop_fieldAddr (av := .rp (([.i ((m.getD (bstT m now k).toNat dT).id), .i ((m.getD (bstT m now k).toNat dT).at_)] : List AV) ++ ((enc eT m).drop (((bstT m now k).toNat + 1) * 2)))) (av' := .rp (([.i ((m.getD (bstT m now k).toNat dT).at_)] : List AV) ++ ((enc eT m).drop (((bstT m now k).toNat + 1) * 2)))) rfl rfl rfl ft68_1 sz2 (hE 45 rfl) rfl rfl (by rw [hob]; rfl)⟩
       ·exact gy0 hg7 (sLd ag2)
       ·exact gy0 hg7 ⟨48, rfl, blt_lt rfl, fun st hob hE => aop_binI (u := (.bool (((m.getD k dT).at_) == ((m.getD (bstT m now k).toNat dT).at_)))) rfl rfl rfl (hE 42 rfl) (hE 47 rfl) trivial rfl (by rw [hob]; rfl)⟩
       ·exact gy0 hg7 sMv
       ·exact gn1 hg10
       ·exact gn1 hg10
       ·exact gn1 hg10
       ·exact gn1 hg10
       ·exact gn1 hg10
       ·exact gn1 hg10
       ·exact gn1 hg10
       ·exact gn1 hg10
       ·exact gn1 hg10
       ·exact gn1 hg10
       ·exact gn1 hg10
       ·exact gy0 hg7 ⟨61, rfl, blt_lt rfl, fun st hob hE => aop_pick (b := (((m.getD k dT).at_) == ((m.getD (bstT m now k).toNat dT).at_))) (av := .b false) rfl rfl rfl (hE 49 rfl) (by rw [hg10]; rfl) (by rw [hob]; rfl)⟩
       ·exact gy1 hg2 ⟨62, rfl, blt_lt rfl, fun st hob hE => aop_pick (b := (decide (((m.getD k dT).at_) < ((m.getD (bstT m now k).toNat dT).at_)))) (av := .b false) rfl rfl rfl (hE 37 rfl) (by rw [hg7]; exact hE 61 rfl) (by rw [hob]; rfl)⟩
       ·exact ⟨63, rfl, blt_lt rfl, fun st hob hE => aop_pick (b := (decide (((m.getD k dT).at_) ≤ now))) (av := .b false) rfl rfl rfl (hE 21 rfl) (by rw [hg2]; exact hE 62 rfl) (by rw [hob]; rfl)⟩
      refine op0 ?_
      refine awp_cond false rfl rfl (fun h => by cases h) (fun _ => ?_)
      refine awp_skip ?_
      refine regR ?_
      refine mG (.i (k : Int)) ?_
      refine opG rfl (aop_binI (u := (.int .i64 ((k + 1 : Nat) : Int))) rfl rfl rfl rfl rfl trivial (addN (by omega)) ?_)
      refine mG (.i ((k + 1 : Nat) : Int)) ?_
      refine op0 ?_
      show _ ∧ _
      refine ⟨by omega, trivial, ?_⟩
      exact iN (he := (sS rfl (sS (by exact congrArg (fun n_ : Int => AV.v (.int .i64 n_)) (bst_no (by unfold bstC; simp_all))) (sS rfl (sS rfl (sS rfl (sS rfl sr_none)))))))
  ·skip
   have hf15 := of_decide_eq_false hg2
   refine awp_draw (m := 50) [(63, .b false), (62, .v undef), (61, .v undef), (60, .v undef), (59, .v undef), (58, .v undef), (57, .v undef), (56, .v undef), (55, .v undef), (54, .v undef), (53, .v undef), (52, .v undef), (51, .v undef), (50, .v undef), (49, .v undef), (48, .v undef), (47, .v undef), (46, .v undef), (45, .v undef), (44, .v undef), (43, .v undef), (42, .v undef), (41, .v undef), (40, .v undef), (39, .v undef), (38, .v undef), (37, .v undef), (36, .v undef), (35, .v undef), (34, .v undef), (33, .v undef), (32, .v undef), (31, .v undef), (30, .v undef), (29, .v undef), (28, .v undef), (27, .v undef), (26, .v undef), (25, .v undef), (24, .v undef), (23, .v undef), (22, .v undef), (21, .b (decide (((m.getD k dT).at_) ≤ now))), (20, .b (decide (((m.getD k dT).at_) ≤ now))), (19, .i now), (18, .i ((m.getD k dT).at_)), (17, .rp (([.i ((m.getD k dT).at_)] : List AV) ++ ((enc eT m).drop ((k + 1) * 2)))), (16, .rp (([.i ((m.getD k dT).id), .i ((m.getD k dT).at_)] : List AV) ++ ((enc eT m).drop ((k + 1) * 2)))), (15, .i (k : Int)), (14, .q eT m)] mixed (by kernel_rfl) ?_ ?_
   ·refine ⟨?_, ?_, ?_, ?_, ?_, ?_, ?_, ?_, ?_, ?_, ?_, ?_, ?_, ?_, ?_, ?_, ?_, ?_, ?_, ?_, ?_, ?_, ?_, ?_, ?_, ?_, ?_, ?_, ?_, ?_, ?_, ?_, ?_, ?_, ?_, ?_, ?_, ?_, ?_, ?_, ?_, ?_, ?_, ?_, ?_, ?_, ?_, ?_, ?_, ?_, trivial⟩
    ·exact sMv
    ·exact sMv
    ·exact (sIx dT ut36 sz68)
    ·exact ⟨17, rfl, blt_lt rfl, fun st hob hE => aop_fieldAddr (av := .rp (([.i ((m.getD k dT).id), .i ((m.getD k dT).at_)] : List AV) ++ ((enc eT m).drop ((k + 1) * 2)))) (av' := .rp (([.i ((m.getD k dT).at_)] : List AV) ++ ((enc eT m).drop ((k + 1) * 2)))) rfl rfl rfl ft68_1 sz2 (hE 16 rfl) rfl rfl (by rw [hob]; rfl)⟩
    ·exact (sLd ag2)
    ·exact sMv
    ·exact ⟨20, rfl, blt_lt rfl, fun st hob hE => aop_binI (u := (.bool (decide (((m.getD k dT).at_) ≤ now)))) rfl rfl rfl (hE 18 rfl) (hE 19 rfl) trivial rfl (by rw [hob]; rfl)⟩
    ·exact sMv
    ·exact gn1 hg2
    ·exact gn1 hg2
    ·exact gn1 hg2
    ·exact ⟨24, undef, rfl, blt_lt rfl, rfl, (fun h => by cases h), (fun _ => ⟨25, rfl, blt_lt rfl, .inr rfl⟩)⟩
    ·exact ⟨24, undef, rfl, blt_lt rfl, rfl, (fun h => by cases h), (fun _ => ⟨26, rfl, blt_lt rfl, .inr rfl⟩)⟩
    ·exact ⟨24, undef, rfl, blt_lt rfl, rfl, (fun h => by cases h), (fun _ => ⟨27, rfl, blt_lt rfl, .inr rfl⟩)⟩
    ·exact ⟨24, undef, rfl, blt_lt rfl, rfl, (fun h => by cases h), (fun _ => ⟨28, rfl, blt_lt rfl, .inr rfl⟩)⟩
    ·exact ⟨24, undef, rfl, blt_lt rfl, rfl, (fun h => by cases h), (fun _ => ⟨29, rfl, blt_lt rfl, .inr rfl⟩)⟩
    ·exact ⟨24, undef, rfl, blt_lt rfl, rfl, (fun h => by cases h), (fun _ => ⟨30, rfl, blt_lt rfl, .inr rfl⟩)⟩
    ·exact ⟨24, undef, rfl, blt_lt rfl, rfl, (fun h => by cases h), (fun _ => ⟨31, rfl, blt_lt rfl, .inr rfl⟩)⟩
    ·exact ⟨24, undef, rfl, blt_lt rfl, rfl, (fun h => by cases h), (fun _ => ⟨32, rfl, blt_lt rfl, .inr rfl⟩)⟩
    ·exact ⟨24, undef, rfl, blt_lt rfl, rfl, (fun h => by cases h), (fun _ => ⟨33, rfl, blt_lt rfl, .inr rfl⟩)⟩
    ·exact ⟨24, undef, rfl, blt_lt rfl, rfl, (fun h => by cases h), (fun _ => ⟨34, rfl, blt_lt rfl, .inr rfl⟩)⟩
    ·exact ⟨24, undef, rfl, blt_lt rfl, rfl, (fun h => by cases h), (fun _ => ⟨35, rfl, blt_lt rfl, .inr rfl⟩)⟩
    ·exact gn1 hg2
    ·exact gn1 hg2
    ·exact ⟨37, undef, rfl, blt_lt rfl, rfl, (fun h => by cases h), (fun _ => ⟨38, rfl, blt_lt rfl, .inr rfl⟩)⟩
    ·exact ⟨37, undef, rfl, blt_lt rfl, rfl, (fun h => by cases h), (fun _ => ⟨39, rfl, blt_lt rfl, .inr rfl⟩)⟩
    ·exact ⟨37, undef, rfl, blt_lt rfl, rfl, (fun h => by cases h), (fun _ => ⟨40, rfl, blt_lt rfl, .inr rfl⟩)⟩
    ·exact ⟨37, undef, rfl, blt_lt rfl, rfl, (fun h => by cases h), (fun _ => ⟨41, rfl, blt_lt rfl, .inr rfl⟩)⟩
    ·exact ⟨37, undef, rfl, blt_lt rfl, rfl, (fun h => by cases h), (fun _ => ⟨42, rfl, blt_lt rfl, .inr rfl⟩)⟩
    ·exact ⟨37, undef, rfl, blt_lt rfl, rfl, (fun h => by cases h), (fun _ => ⟨43, rfl, blt_lt rfl, .inr rfl⟩)⟩
    ·exact ⟨37, undef, rfl, blt_lt rfl, rfl, (fun h => by cases h), (fun _ => ⟨44, rfl, blt_lt rfl, .inr rfl⟩)⟩
    ·exact ⟨37, undef, rfl, blt_lt rfl, rfl, (fun h => by cases h), (fun _ => ⟨45, rfl, blt_lt rfl, .inr rfl⟩)⟩
    ·exact ⟨37, undef, rfl, blt_lt rfl, rfl, (fun h => by cases h), (fun _ => ⟨46, rfl, blt_lt rfl, .inr rfl⟩)⟩
    ·exact ⟨37, undef, rfl, blt_lt rfl, rfl, (fun h => by cases h), (fun _ => ⟨47, rfl, blt_lt rfl, .inr rfl⟩)⟩
    ·exact ⟨37, undef, rfl, blt_lt rfl, rfl, (fun h => by cases h), (fun _ => ⟨48, rfl, blt_lt rfl, .inr rfl⟩)⟩
    ·exact ⟨37, undef, rfl, blt_lt rfl, rfl, (fun h => by cases h), (fun _ => ⟨49, rfl, blt_lt rfl, .inr rfl⟩)⟩
    ·exact ⟨49, undef, rfl, blt_lt rfl, rfl, (fun h => by cases h), (fun _ => ⟨50, rfl, blt_lt rfl, .inr rfl⟩)⟩
    ·exact ⟨49, undef, rfl, blt_lt rfl, rfl, (fun h => by cases h), (fun _ => ⟨51, rfl, blt_lt rfl, .inr rfl⟩)⟩
    ·exact ⟨49, undef, rfl, blt_lt rfl, rfl, (fun h => by cases h), (fun _ => ⟨52, rfl, blt_lt rfl, .inr rfl⟩)⟩
    ·exact ⟨49, undef, rfl, blt_lt rfl, rfl, (fun h => by cases h), (fun _ => ⟨53, rfl, blt_lt rfl, .inr rfl⟩)⟩
    ·exact ⟨49, undef, rfl, blt_lt rfl, rfl, (fun h => by cases h), (fun _ => ⟨54, rfl, blt_lt rfl, .inr rfl⟩)⟩
    ·exact ⟨49, undef, rfl, blt_lt rfl, rfl, (fun h => by cases h), (fun _ => ⟨55, rfl, blt_lt rfl, .inr rfl⟩)⟩
    ·exact ⟨49, undef, rfl, blt_lt rfl, rfl, (fun h => by cases h), (fun _ => ⟨56, rfl, blt_lt rfl, .inr rfl⟩)⟩
    ·exact ⟨49, undef, rfl, blt_lt rfl, rfl, (fun h => by cases h), (fun _ => ⟨57, rfl, blt_lt rfl, .inr rfl⟩)⟩
    ·exact ⟨49, undef, rfl, blt_lt rfl, rfl, (fun h => by cases h), (fun _ => ⟨58, rfl, blt_lt rfl, .inr rfl⟩)⟩
    ·exact ⟨49, undef, rfl, blt_lt rfl, rfl, (fun h => by cases h), (fun _ => ⟨59, rfl, blt_lt rfl, .inr rfl⟩)⟩
    ·exact ⟨49, undef, rfl, blt_lt rfl, rfl, (fun h => by cases h), (fun _ => ⟨60, rfl, blt_lt rfl, .inr rfl⟩)⟩
    ·exact ⟨37, undef, rfl, blt_lt rfl, rfl, (fun h => by cases h), (fun _ => ⟨61, rfl, blt_lt rfl, .inr rfl⟩)⟩
    ·exact gn1 hg2
    ·exact ⟨63, rfl, blt_lt rfl, fun st hob hE => aop_pick (b := (decide (((m.getD k dT).at_) ≤ now))) (av := .b false) rfl rfl rfl (hE 21 rfl) (by rw [hg2]; rfl) (by rw [hob]; rfl)⟩
   refine op0 ?_
   refine awp_cond false rfl rfl (fun h => by cases h) (fun _ => ?_)
   refine awp_skip ?_
   refine regR ?_
   refine mG (.i (k : Int)) ?_
   refine opG rfl (aop_binI (u := (.int .i64 ((k + 1 : Nat) : Int))) rfl rfl rfl rfl rfl trivial (addN (by omega)) ?_)
   refine mG (.i ((k + 1 : Nat) : Int)) ?_
   refine op0 ?_
   show _ ∧ _
   refine ⟨by omega, trivial, ?_⟩
   exact iN (he := (sS rfl (sS (by exact congrArg (fun n_ : Int => AV.v (.int .i64 n_)) (bst_no (by unfold bstC; rw [hg2, Bool.false_and]))) (sS rfl (sS rfl (sS rfl (sS rfl sr_none)))))))
 ·skip
  have hf16 := of_decide_eq_false hc0
  have hke : k = m.length := by omega
  refine awp_exit ?_
  refine awp_seq ?_
  refine seqR ?_
  refine mG (.i (bstT m now k)) ?_
  refine bG ((.bool (decide ((bstT m now k) < 0)))) ?_
  refine op0 ?_
  refine awp_cond (decide ((bstT m now k) < 0)) rfl rfl (fun hc2 => ?_) (fun hc2 => ?_)
  ·skip
   have hf17 := of_decide_eq_true hc2
   refine seqR ?_
   refine mG (.i 0) ?_
   refine mG (.b false) ?_
   refine op0 ?_
   refine rT (upd (upd (upd (upd none_ 0 (.q eT m)) 4 (.i 0)) 5 (.b false)) 6 (.i (bstT m now k))) noOb ?_
   refine awp_ret ?_
   exact fret (av := .tup [.v (.int .i64 0), .v (.bool false)]) rfl rfl (by subst hke; unfold endI endB; rw [if_pos (of_decide_eq_true hc2), decide_eq_false (fun h => h (of_decide_eq_true hc2))])
  ·skip
   have hf18 := of_decide_eq_false hc2
   refine awp_skip ?_
   refine seqR ?_
   refine mG (.q eT m) ?_
   refine mG (.i (bstT m now k)) ?_
   refine opG rfl (aop_ixI dT rfl rfl rfl ut36 sz68 rfl rfl (fun _ => rfl) rfl (by omega) (by first | omega | (simp; done) | decide | (simp at *; omega)) ?_)
   refine opG rfl (aop_fieldAddr (av := .rp (([.i ((m.getD (bstT m now k).toNat dT).id), .i ((m.getD (bstT m now k).toNat dT).at_)] : List AV) ++ ((enc eT m).drop (((bstT m now k).toNat + 1) * 2)))) (av' := .rp (([.i ((m.getD (bstT m now k).toNat dT).id), .i ((m.getD (bstT m now k).toNat dT).at_)] : List AV) ++ ((enc eT m).drop (((bstT m now k).toNat + 1) * 2)))) rfl rfl rfl ft68_0 sz3 rfl rfl rfl ?_)
   refine opG rfl (aop_ld (av := .i ((m.getD (bstT m now k).toNat dT).id)) rfl rfl rfl ag3 rfl rfl ?_)
   refine mG (.i ((m.getD (bstT m now k).toNat dT).id)) ?_
   refine mG (.b true) ?_
   refine op0 ?_
   refine rT (upd (upd none_ 4 (.i ((m.getD (bstT m now k).toNat dT).id))) 5 (.b true)) noOb ?_
   refine awp_ret ?_
   exact fret (av := .tup [.v (.int .i64 ((m.getD (bstT m now k).toNat dT).id)), .v (.bool true)]) rfl rfl (by subst hke; unfold endI endB; rw [if_neg (of_decide_eq_false hc2), decide_eq_true (of_decide_eq_false hc2)])
theorem l8_TimerPlays (l : List Ta) (few : Bool) (hw : ∀ x, x ∈ l → TaOk x) : Fn Try.prog 5 [.ro l.length (enc eTa l), .v (.bool few)] (.v (.bool true)) := by
 refine fnE_of_body (N := 191) Try.func5 rfl rfl (resOf1 rfl) (by simp) (fun w0 X hL_ => ?_)
 refine seqR ?_
 refine mG (.b false) ?_
 refine op0 ?_
 refine awp_seq ?_
 refine seqR ?_
 refine opG rfl (call_ (l8_three) rfl rfl rfl rfl rfl bd9 rfl ?_)
 refine opG rfl (aop_not rfl rfl rfl rfl ?_)
 refine mG (.b false) ?_
 refine opY rfl rfl rfl rfl (aop_move (av := .q eTa l) (.inl rfl) rfl rfl rfl ?_)
 refine opY rfl rfl rfl rfl (aop_len rfl rfl rfl rfl ut35 (len_ro rfl) ?_)
 refine opY rfl rfl rfl rfl (aop_binI (u := (.bool (decide ((l.length : Int) > 100)))) rfl rfl rfl rfl rfl trivial rfl ?_)
 refine opG rfl (aop_pick (b := false) (av := .b (decide ((l.length : Int) > 100))) rfl rfl rfl rfl rfl ?_)
 refine op0 ?_
 refine rT (upd (upd (upd (upd none_ 0 (.q eTa l)) 1 (.b few)) 4 (.b false)) 32 (.b (decide ((l.length : Int) > 100)))) noOb ?_
 refine awp_cond (decide ((l.length : Int) > 100)) rfl rfl (fun hc0 => ?_) (fun hc0 => ?_)
 ·skip
  have hf1 := of_decide_eq_true hc0
  refine seqR ?_
  refine opG rfl (call_ (l8_three) rfl rfl rfl rfl rfl bd9 rfl ?_)
  refine mG (.b true) ?_
  refine op0 ?_
  refine awp_ret ?_
  exact fret (av := .v (.bool true)) rfl rfl rfl
 ·skip
  have hf2 := of_decide_eq_false hc0
  refine awp_skip ?_
  refine seqR ?_
  refine opG rfl (callG_ false [] [51, 52] (t_New) rfl rfl rfl rfl rfl bd10 (by decide) trivial trivial rfl ⟨rfl, rfl, trivial⟩ (fun h => by cases h) rfl (place_cons (ost_map (lm_cons rfl lm_nil)) (place_cons (ost_no (cs := (enc eT ([] : List Tm)))) place_nil)) ?_)
  refine mG (.pt 51 0) ?_
  refine op0 ?_
  refine seqR ?_
  refine mG (.v (.slice none 0 0)) ?_
  refine op0 ?_
  refine awp_seq ?_
  refine awp_imp ⟨(upd (upd (upd (upd (upd (upd none_ 0 (.q eTa l)) 1 (.b few)) 4 (.b false)) 5 (.pt 51 0)) 6 (.q eT (playD l few 0))) 32 (.b (decide ((l.length : Int) > 100)))), (updO (updO noOb 51 (.live ⟨[.sl 52 0 0], 57, 1⟩)) 52 (.live ⟨(enc eT ([] : List Tm)), 59, 2⟩))⟩ ?_ ?_
  ·skip
   refine (frz_ [51, 52] [(51, ⟨[.sl 52 0 0], 57, 1⟩), (52, ⟨(enc eT ([] : List Tm)), 59, 2⟩)] rfl (fun _ h => h) ⟨keep_cells (cs := [.sl 52 0 0]) (by simp) rfl rfl (frzs_cons (.inl rfl) frzs_nil), keep_same (by simp) rfl, trivial⟩ (fz_same 32 (.b (decide ((l.length : Int) > 100))) rfl (fz_lend 6 (.ro 0 []) .nil (fz_same 5 (.pt 51 0) rfl (fz_same 4 (.b false) rfl (fz_same 1 (.b few) rfl (fz_same 0 (.q eTa l) rfl fz_none))))))).trans ?_
   exact iL [(51, 51), (52, 52)] [((51, 51), .live _), ((52, 52), .live _)] ⟨row_map (o := ⟨[.sl 52 0 0], 57, 1⟩) rfl (om_ (lm_cons rfl lm_nil)) (oks_cons (.sl _ _ _ (by simp)) oks_nil), row_no (o := ⟨(enc eT ([] : List Tm)), 59, 2⟩) rfl rfl, trivial⟩
  refine seqR ?_
  refine mG (.i 0) ?_
  refine op0 ?_
  refine awp_block ?_
  refine awp_countI (fun i => ⟨(upd (upd (upd (upd (upd (upd none_ 0 (.q eTa l)) 1 (.b few)) 4 (.b false)) 5 (.pt 1 0)) 6 (.q eT (playD l few i))) 7 (.i (i : Int))), (updO (updO noOb 1 (.live ⟨[.sl 2 0 ((sortT (playD l few i)).length)], 57, 1⟩)) 2 (.live ⟨(enc eT (sortT (playD l few i))), 59, 2⟩))⟩) (fun i => True) (l.length) ?_ trivial (fun i hk_i hinv => ?_)
  ·skip
   exact iL [(51, 1), (52, 2)] [((51, 1), .live _), ((52, 2), .live _)] ⟨row_map (o := ⟨[.sl 52 0 0], 57, 1⟩) rfl (by rw [s_nil]; exact (om_ (lm_cons rfl lm_nil))) (oks_cons (.sl _ _ _ (by simp)) oks_nil), row_no (o := ⟨(enc eT ([] : List Tm)), 59, 2⟩) rfl (by rw [s_nil2] <;> rfl), trivial⟩
  have hpo := plOk_play hw few i (by omega)
  have hpl := hpo.len
  have hsl : (sortT (playD l few i)).length ≤ 32 := by rw [sortT_len]; exact hpo.len
  refine awp_seq ?_
  refine seqR ?_
  refine mG (.i (i : Int)) ?_
  refine mG (.q eTa l) ?_
  refine opG rfl (aop_len rfl rfl rfl rfl ut35 (len_ro rfl) ?_)
  refine bG ((.bool (decide ((i : Int) < (l.length : Int))))) ?_
  refine op0 ?_
  refine rT (upd (upd (upd (upd (upd (upd (upd none_ 0 (.q eTa l)) 1 (.b few)) 4 (.b false)) 5 (.pt 1 0)) 6 (.q eT (playD l few i))) 7 (.i (i : Int))) 38 (.b (decide ((i : Int) < (l.length : Int))))) (updO (updO noOb 1 (.live ⟨[.sl 2 0 ((sortT (playD l few i)).length)], 57, 1⟩)) 2 (.live ⟨(enc eT (sortT (playD l few i))), 59, 2⟩)) ?_
  refine awp_cond (decide ((i : Int) < (l.length : Int))) rfl rfl (fun hc1 => ?_) (fun hc1 => ?_)
  ·skip
   have hf3 := of_decide_eq_true hc1
   have hxo := hw _ (getD_mem (l := l) (k := i) dTa (by omega))
   have hxd := hxo.dw
   have hao := atA_ok hxo few
   have hp1 := plOk_play hw few (i + 1) (by omega)
   have hp1l := hp1.len
   have hs1l : (sortT (playD l few (i + 1))).length ≤ 32 := by rw [sortT_len]; exact hp1.len
   refine awp_skip ?_
   refine awp_seq ?_
   refine awp_block ?_
   refine awp_seq ?_
   refine awp_draw (m := 12) [(8, .i (idA (l.getD i dTa) few)), (51, .i ((l.getD i dTa).at_)), (50, .rp (([.i ((l.getD i dTa).at_)] : List AV) ++ ((enc eTa l).drop ((i + 1) * 3)))), (49, .rp (([.v (.int .u8 ((l.getD i dTa).dw)), .i ((l.getD i dTa).id), .i ((l.getD i dTa).at_)] : List AV) ++ ((enc eTa l).drop ((i + 1) * 3)))), (48, .i (i : Int)), (47, .q eTa l), (46, .i (idA (l.getD i dTa) few)), (45, .b few), (44, .agg [.v (.int .u8 ((l.getD i dTa).dw)), .i ((l.getD i dTa).id), .i ((l.getD i dTa).at_)]), (43, .rp (([.v (.int .u8 ((l.getD i dTa).dw)), .i ((l.getD i dTa).id), .i ((l.getD i dTa).at_)] : List AV) ++ ((enc eTa l).drop ((i + 1) * 3)))), (42, .i (i : Int)), (41, .q eTa l)] mixed (by kernel_rfl) ?_ ?_
   ·refine ⟨?_, ?_, ?_, ?_, ?_, ?_, ?_, ?_, ?_, ?_, ?_, ?_, trivial⟩
    ·exact sMv
    ·exact sMv
    ·exact (sIx dTa ut35 sz39)
    ·exact ⟨44, rfl, blt_lt rfl, fun st hob hE => aop_ldB (cells' := [.v (.int .u8 ((l.getD i dTa).dw)), .i ((l.getD i dTa).id), .i ((l.getD i dTa).at_)]) rfl rfl rfl ag39 sz39 (hE 43 rfl) rfl rfl rfl (by rw [hob]; rfl)⟩
    ·exact sMv
    ·exact ⟨46, rfl, blt_lt rfl, fun st hob hE => call_ (l8_near (l.getD i dTa) few) rfl rfl rfl rfl rfl bd16 (by show [st.env 44, st.env 45] ++ _ = _; rw [hE 44 rfl, hE 45 rfl]; rfl) (by rw [hob]; rfl)⟩
    ·exact sMv
    ·exact sMv
    ·exact (sIx dTa ut35 sz39)
    ·exact ⟨50, rfl, blt_lt rfl, fun st hob hE => aop_fieldAddr (av := .rp (([.v (.int .u8 ((l.getD i dTa).dw)), .i ((l.getD i dTa).id), .i ((l.getD i dTa).at_)] : List AV) ++ ((enc eTa l).drop ((i + 1) * 3)))) (av' := .rp (([.i ((l.getD i dTa).at_)] : List AV) ++ ((enc eTa l).drop ((i + 1) * 3)))) rfl rfl rfl ft39_2 sz2 (hE 49 rfl) rfl rfl (by rw [hob]; rfl)⟩
    ·exact (sLd ag2)
    ·exact sMv
   refine mG (.i ((l.getD i dTa).at_)) ?_
   refine op0 ?_
   refine awp_seq ?_
   refine seqR ?_
   refine mG (.b few) ?_
   refine op0 ?_
   refine cutG ⟨(upd (upd (upd (upd (upd (upd (upd (upd none_ 0 (.q eTa l)) 1 (.b few)) 4 (.b false)) 5 (.pt 1 0)) 6 (.q eT (playD l few i))) 7 (.i (i : Int))) 8 (.i (idA (l.getD i dTa) few))) 9 (.i (atA (l.getD i dTa) few))), (updO (updO noOb 1 (.live ⟨[.sl 2 0 ((sortT (playD l few i)).length)], 57, 1⟩)) 2 (.live ⟨(enc eT (sortT (playD l few i))), 59, 2⟩))⟩ (fun s h => h) ?_ ?_
   ·skip
    refine awp_cond few rfl rfl (fun hc2 => ?_) (fun hc2 => ?_)
    ·skip
     refine regR ?_
     refine mG (.i ((l.getD i dTa).at_)) ?_
     refine opG rfl (aop_binI (u := (.int .i64 (Int.tmod ((l.getD i dTa).at_) 30))) rfl rfl rfl rfl rfl (by show _ ≠ _; decide) rfl ?_)
     refine mG (.i (Int.tmod ((l.getD i dTa).at_) 30)) ?_
     refine op0 ?_
     show Imp _ _ _
     exact iL [(1, 1), (2, 2)] [((1, 1), .live _), ((2, 2), .live _)] ⟨row_map (o := ⟨[.sl 2 0 ((sortT (playD l few i)).length)], 57, 1⟩) rfl (om_ (lm_cons rfl lm_nil)) (oks_cons (.sl _ _ _ (by simp)) oks_nil), row_no rfl rfl, trivial⟩ (he := (sS (by exact congrArg (fun n_ : Int => AV.v (.int .i64 n_)) (by first | exact (if_pos hc2).symm | exact (if_neg (by rw [hc2]; simp)).symm)) (sS rfl (sS rfl (sS rfl (sM rfl (sS rfl (sS rfl (sS rfl sr_none)))))))))
    ·skip
     refine awp_skip ?_
     show Imp _ _ _
     exact iL [(1, 1), (2, 2)] [((1, 1), .live _), ((2, 2), .live _)] ⟨row_map (o := ⟨[.sl 2 0 ((sortT (playD l few i)).length)], 57, 1⟩) rfl (om_ (lm_cons rfl lm_nil)) (oks_cons (.sl _ _ _ (by simp)) oks_nil), row_no rfl rfl, trivial⟩ (he := (sS (by exact congrArg (fun n_ : Int => AV.v (.int .i64 n_)) (by first | exact (if_pos hc2).symm | exact (if_neg (by rw [hc2]; simp)).symm)) (sS rfl (sS rfl (sS rfl (sM rfl (sS rfl (sS rfl (sS rfl sr_none)))))))))
   refine awp_seq ?_
   refine seqR ?_
   refine mG (.q eTa l) ?_
   refine mG (.i (i : Int)) ?_
   refine opG rfl (aop_ixE dTa rfl rfl rfl ut35 sz39 rfl rfl (fun _ => rfl) rfl (by first | omega | (simp; done) | decide | (simp at *; omega)) ?_)
   refine opG rfl (aop_fieldAddr (av := .rp (([.v (.int .u8 ((l.getD i dTa).dw)), .i ((l.getD i dTa).id), .i ((l.getD i dTa).at_)] : List AV) ++ ((enc eTa l).drop ((i + 1) * 3)))) (av' := .rp (([.v (.int .u8 ((l.getD i dTa).dw)), .i ((l.getD i dTa).id), .i ((l.getD i dTa).at_)] : List AV) ++ ((enc eTa l).drop ((i + 1) * 3)))) rfl rfl rfl ft39_0 sz5 rfl rfl rfl ?_)
   refine opG rfl (aop_ld (av := .v (.int .u8 ((l.getD i dTa).dw))) rfl rfl rfl ag5 rfl rfl ?_)
   refine opG rfl (aop_binI (u := (.int .u8 (((l.getD i dTa).dw) % 6))) rfl rfl rfl rfl rfl (by show _ ≠ _; decide) (remI (by omega)) ?_)
   refine op0 ?_
   refine rT (upd (upd (upd (upd (upd (upd (upd (upd (upd none_ 0 (.q eTa l)) 1 (.b few)) 4 (.b false)) 5 (.pt 1 0)) 6 (.q eT (playD l few i))) 7 (.i (i : Int))) 8 (.i (idA (l.getD i dTa) few))) 9 (.i (atA (l.getD i dTa) few))) 60 (.v (.int .u8 (((l.getD i dTa).dw) % 6)))) (updO (updO noOb 1 (.live ⟨[.sl 2 0 ((sortT (playD l few i)).length)], 57, 1⟩)) 2 (.live ⟨(enc eT (sortT (playD l few i))), 59, 2⟩)) ?_
   refine awp_block ?_
   refine awp_seq ?_
   refine seqR ?_
   refine bG ((.bool ((((l.getD i dTa).dw) % 6) == 0))) ?_
   refine mG (.b ((((l.getD i dTa).dw) % 6) == 0)) ?_
   refine op0 ?_
   refine cutG ⟨(upd (upd (upd (upd (upd (upd (upd (upd (upd (upd none_ 0 (.q eTa l)) 1 (.b few)) 4 (.b false)) 5 (.pt 1 0)) 6 (.q eT (playD l few i))) 7 (.i (i : Int))) 8 (.i (idA (l.getD i dTa) few))) 9 (.i (atA (l.getD i dTa) few))) 60 (.v (.int .u8 (((l.getD i dTa).dw) % 6)))) 61 (.b (((((l.getD i dTa).dw % 6) == 0) || (((l.getD i dTa).dw % 6) == 1)) || (((l.getD i dTa).dw % 6) == 2)))), (updO (updO noOb 1 (.live ⟨[.sl 2 0 ((sortT (playD l few i)).length)], 57, 1⟩)) 2 (.live ⟨(enc eT (sortT (playD l few i))), 59, 2⟩))⟩ (fun s h => h) ?_ ?_
   ·skip
    refine awp_cond ((((l.getD i dTa).dw) % 6) == 0) rfl rfl (fun hc3 => ?_) (fun hc3 => ?_)
    ·skip
     have hf4 := (beq_iff_eq).1 hc3
     refine awp_skip ?_
     show Imp _ _ _
     exact iL [(1, 1), (2, 2)] [((1, 1), .live _), ((2, 2), .live _)] ⟨row_map (o := ⟨[.sl 2 0 ((sortT (playD l few i)).length)], 57, 1⟩) rfl (om_ (lm_cons rfl lm_nil)) (oks_cons (.sl _ _ _ (by simp)) oks_nil), row_no rfl rfl, trivial⟩ (he := (sS (by first | (rw [hc3, hc4]; rfl) | (rw [hc3]; rfl)) (sS rfl (sS rfl (sS rfl (sS rfl (sS rfl (sM rfl (sS rfl (sS rfl (sS rfl sr_none)))))))))))
    ·skip
     have hf5 := (beq_eq_false_iff_ne).1 hc3
     refine seqR ?_
     refine bG ((.bool ((((l.getD i dTa).dw) % 6) == 1))) ?_
     refine mG (.b ((((l.getD i dTa).dw) % 6) == 1)) ?_
     refine op0 ?_
     refine rT (upd (upd (upd (upd (upd (upd (upd (upd (upd (upd none_ 0 (.q eTa l)) 1 (.b few)) 4 (.b false)) 5 (.pt 1 0)) 6 (.q eT (playD l few i))) 7 (.i (i : Int))) 8 (.i (idA (l.getD i dTa) few))) 9 (.i (atA (l.getD i dTa) few))) 60 (.v (.int .u8 (((l.getD i dTa).dw) % 6)))) 61 (.b ((((l.getD i dTa).dw) % 6) == 1))) (updO (updO noOb 1 (.live ⟨[.sl 2 0 ((sortT (playD l few i)).length)], 57, 1⟩)) 2 (.live ⟨(enc eT (sortT (playD l few i))), 59, 2⟩)) ?_
     refine awp_cond ((((l.getD i dTa).dw) % 6) == 1) rfl rfl (fun hc4 => ?_) (fun hc4 => ?_)
     ·skip
      have hf6 := (beq_iff_eq).1 hc4
      refine awp_skip ?_
      show Imp _ _ _
      exact iL [(1, 1), (2, 2)] [((1, 1), .live _), ((2, 2), .live _)] ⟨row_map (o := ⟨[.sl 2 0 ((sortT (playD l few i)).length)], 57, 1⟩) rfl (om_ (lm_cons rfl lm_nil)) (oks_cons (.sl _ _ _ (by simp)) oks_nil), row_no rfl rfl, trivial⟩ (he := (sS (by first | (rw [hc3, hc4]; rfl) | (rw [hc3]; rfl)) (sS rfl (sS rfl (sS rfl (sS rfl (sS rfl (sM rfl (sS rfl (sS rfl (sS rfl sr_none)))))))))))
     ·skip
      have hf7 := (beq_eq_false_iff_ne).1 hc4
      refine regR ?_
      refine bG ((.bool ((((l.getD i dTa).dw) % 6) == 2))) ?_
      refine mG (.b ((((l.getD i dTa).dw) % 6) == 2)) ?_
      refine op0 ?_
      show Imp _ _ _
      exact iL [(1, 1), (2, 2)] [((1, 1), .live _), ((2, 2), .live _)] ⟨row_map (o := ⟨[.sl 2 0 ((sortT (playD l few i)).length)], 57, 1⟩) rfl (om_ (lm_cons rfl lm_nil)) (oks_cons (.sl _ _ _ (by simp)) oks_nil), row_no rfl rfl, trivial⟩ (he := (sS (by first | (rw [hc3, hc4]; rfl) | (rw [hc3]; rfl)) (sS rfl (sS rfl (sS rfl (sS rfl (sS rfl (sM rfl (sS rfl (sS rfl (sS rfl sr_none)))))))))))
   refine cutG ⟨(upd (upd (upd (upd (upd (upd (upd (upd (upd (upd none_ 0 (.q eTa l)) 1 (.b few)) 4 (.b false)) 5 (.pt 1 0)) 6 (.q eT (playD l few (i + 1)))) 7 (.i (i : Int))) 8 (.i (idA (l.getD i dTa) few))) 9 (.i (atA (l.getD i dTa) few))) 60 (.v (.int .u8 (((l.getD i dTa).dw) % 6)))) 61 (.b (((((l.getD i dTa).dw % 6) == 0) || (((l.getD i dTa).dw % 6) == 1)) || (((l.getD i dTa).dw % 6) == 2)))), (updO (updO noOb 1 (.live ⟨[.sl 2 0 ((sortT (playD l few (i + 1))).length)], 57, 1⟩)) 2 (.live ⟨(enc eT (sortT (playD l few (i + 1)))), 59, 2⟩))⟩ (fun s h => h) ?_ ?_
   ·skip
    refine awp_cond (((((l.getD i dTa).dw % 6) == 0) || (((l.getD i dTa).dw % 6) == 1)) || (((l.getD i dTa).dw % 6) == 2)) rfl rfl (fun hc5 => ?_) (fun hc5 => ?_)
    ·skip
     have hdc_ := (step_0 (few := few) hc5).symm
     have hrw_ : startT (sortT (playD l few i)) (idA (l.getD i dTa) few) (atA (l.getD i dTa) few) = (sortT (playD l few (i + 1))) := by rw [s_start hpo.uq, hdc_]
     refine seqR ?_
     refine mG (.q eT (playD l few i)) ?_
     refine mG (.i (idA (l.getD i dTa) few)) ?_
     refine mG (.i (atA (l.getD i dTa) few)) ?_
     refine opG rfl (call_ (d_Start (playD l few i) (idA (l.getD i dTa) few) (atA (l.getD i dTa) few) (by omega)) rfl rfl rfl rfl rfl bd17 rfl ?_)
     refine mG (.tup [.q eT (dstartT (playD l few i) (idA (l.getD i dTa) few) (atA (l.getD i dTa) few)), .i (errT (playD l few i) (idA (l.getD i dTa) few))]) ?_
     refine opG rfl (aop_extract rfl rfl rfl rfl rfl ?_)
     refine opG rfl (aop_extract rfl rfl rfl rfl rfl ?_)
     refine mG (.q eT (dstartT (playD l few i) (idA (l.getD i dTa) few) (atA (l.getD i dTa) few))) ?_
     refine mG (.i (errT (playD l few i) (idA (l.getD i dTa) few))) ?_
     refine op0 ?_
     refine rT (upd (upd (upd (upd (upd (upd (upd (upd (upd (upd (upd (upd none_ 0 (.q eTa l)) 1 (.b few)) 4 (.b false)) 5 (.pt 1 0)) 6 (.q eT (playD l few i))) 7 (.i (i : Int))) 8 (.i (idA (l.getD i dTa) few))) 9 (.i (atA (l.getD i dTa) few))) 10 (.q eT (dstartT (playD l few i) (idA (l.getD i dTa) few) (atA (l.getD i dTa) few)))) 11 (.i (errT (playD l few i) (idA (l.getD i dTa) few)))) 60 (.v (.int .u8 (((l.getD i dTa).dw) % 6)))) 61 (.b (((((l.getD i dTa).dw % 6) == 0) || (((l.getD i dTa).dw % 6) == 1)) || (((l.getD i dTa).dw % 6) == 2)))) (updO (updO noOb 1 (.live ⟨[.sl 2 0 ((sortT (playD l few i)).length)], 57, 1⟩)) 2 (.live ⟨(enc eT (sortT (playD l few i))), 59, 2⟩)) ?_
     refine seqR ?_
     refine mG (.q eT (dstartT (playD l few i) (idA (l.getD i dTa) few) (atA (l.getD i dTa) few))) ?_
     refine mG (.q eT (dstartT (playD l few i) (idA (l.getD i dTa) few) (atA (l.getD i dTa) few))) ?_
     refine op0 ?_
     refine seqR ?_
     refine mG (.pt 1 0) ?_
     refine mG (.i (idA (l.getD i dTa) few)) ?_
     refine mG (.i (atA (l.getD i dTa) few)) ?_
     refine opG rfl (callG_ false [1, 2] [53] (t_Start (sortT (playD l few i)) (idA (l.getD i dTa) few) (atA (l.getD i dTa) few) (by omega)) rfl rfl rfl rfl rfl bd11 (by decide) ⟨giv_map (o := ⟨[.sl 2 0 ((sortT (playD l few i)).length)], 57, 1⟩) rfl (om_ (lm_cons rfl lm_nil)) (oks_cons (.sl _ _ _ (by simp)) oks_nil), giv_no (o := ⟨(enc eT (sortT (playD l few i))), 59, 2⟩) rfl rfl, trivial⟩ ⟨(arg_own (.pt _ _ (by simp)) rfl), (arg_no (a := .i (idA (l.getD i dTa) few))), (arg_no (a := .i (atA (l.getD i dTa) few))), trivial⟩ rfl ⟨rfl, trivial⟩ (fun h => by cases h) (am_no (a := .i (errT (sortT (playD l few i)) (idA (l.getD i dTa) few)))) (place_cons (ost_map (lm_cons rfl lm_nil)) (place_cons rfl (place_cons (ost_no (cs := (enc eT (startT (sortT (playD l few i)) (idA (l.getD i dTa) few) (atA (l.getD i dTa) few))))) place_nil))) ?_)
     refine mG (.i (errT (playD l few i) (idA (l.getD i dTa) few))) ?_
     refine bG ((.bool ((errT (sortT (playD l few i)) (idA (l.getD i dTa) few)) != (errT (playD l few i) (idA (l.getD i dTa) few))))) ?_
     refine op0 ?_
     refine rT (upd (upd (upd (upd (upd (upd (upd (upd (upd (upd (upd (upd (upd none_ 0 (.q eTa l)) 1 (.b few)) 4 (.b false)) 5 (.pt 1 0)) 6 (.q eT (dstartT (playD l few i) (idA (l.getD i dTa) few) (atA (l.getD i dTa) few)))) 7 (.i (i : Int))) 8 (.i (idA (l.getD i dTa) few))) 9 (.i (atA (l.getD i dTa) few))) 10 (.q eT (dstartT (playD l few i) (idA (l.getD i dTa) few) (atA (l.getD i dTa) few)))) 11 (.i (errT (playD l few i) (idA (l.getD i dTa) few)))) 60 (.v (.int .u8 (((l.getD i dTa).dw) % 6)))) 61 (.b (((((l.getD i dTa).dw % 6) == 0) || (((l.getD i dTa).dw % 6) == 1)) || (((l.getD i dTa).dw % 6) == 2)))) 78 (.b ((errT (sortT (playD l few i)) (idA (l.getD i dTa) few)) != (errT (playD l few i) (idA (l.getD i dTa) few))))) (updO (updO (updO (updO (updO noOb 1 (.live ⟨[.sl 2 0 ((sortT (playD l few i)).length)], 57, 1⟩)) 2 (.live ⟨(enc eT (sortT (playD l few i))), 59, 2⟩)) 1 (.live ⟨[.sl 53 0 ((startT (sortT (playD l few i)) (idA (l.getD i dTa) few) (atA (l.getD i dTa) few)).length)], 57, 1⟩)) 2 .dead) 53 (.live ⟨(enc eT (startT (sortT (playD l few i)) (idA (l.getD i dTa) few) (atA (l.getD i dTa) few))), 59, 2⟩)) ?_
     refine awp_cond ((errT (sortT (playD l few i)) (idA (l.getD i dTa) few)) != (errT (playD l few i) (idA (l.getD i dTa) few))) rfl rfl (fun hc6 => ?_) (fun hc6 => ?_)
     ·skip
      have hf8 := (bne_iff_ne).1 hc6
      exfalso; rw [s_err] at hc6; simp at hc6
     ·skip
      have hf9 := (bne_eq_false_iff_eq).1 hc6
      refine awp_skip ?_
      show Imp _ _ _
      exact iL [(1, 1), (53, 2)] [((1, 1), .live _), ((53, 2), .live _)] ⟨row_map (o := ⟨[.sl 53 0 ((startT (sortT (playD l few i)) (idA (l.getD i dTa) few) (atA (l.getD i dTa) few)).length)], 57, 1⟩) rfl (by rw [hrw_]; exact (om_ (lm_cons rfl lm_nil))) (oks_cons (.sl _ _ _ (by simp)) oks_nil), row_no rfl (by rw [hrw_]), trivial⟩ (he := (sS rfl (sS rfl (sS rfl (sS rfl (sS rfl (sS (by exact congrArg (fun l_ : List Tm => AV.ro l_.length (enc eT l_)) hdc_) (sM rfl (sS rfl (sS rfl (sS rfl sr_none)))))))))))
    ·skip
     refine seqR ?_
     refine bG ((.bool ((((l.getD i dTa).dw) % 6) == 3))) ?_
     refine mG (.b ((((l.getD i dTa).dw) % 6) == 3)) ?_
     refine op0 ?_
     refine awp_cond ((((l.getD i dTa).dw) % 6) == 3) rfl rfl (fun hc7 => ?_) (fun hc7 => ?_)
     ·skip
      have hf10 := (beq_iff_eq).1 hc7
      have hdc_ := (step_3 (few := few) hc7).symm
      have hrw_ : delT (sortT (playD l few i)) (idA (l.getD i dTa) few) = (sortT (playD l few (i + 1))) := by rw [s_del hpo.uq, hdc_]
      refine seqR ?_
      refine mG (.q eT (playD l few i)) ?_
      refine mG (.i (idA (l.getD i dTa) few)) ?_
      refine opG rfl (call_ (d_Stop (playD l few i) (idA (l.getD i dTa) few) (by first | omega | (simp; done) | decide | (simp at *; omega))) rfl rfl rfl rfl rfl bd18 rfl ?_)
      refine mG (.tup [.q eT (delT (playD l few i) (idA (l.getD i dTa) few)), .b (hasT (playD l few i) (idA (l.getD i dTa) few))]) ?_
      refine opG rfl (aop_extract rfl rfl rfl rfl rfl ?_)
      refine opG rfl (aop_extract rfl rfl rfl rfl rfl ?_)
      refine mG (.q eT (delT (playD l few i) (idA (l.getD i dTa) few))) ?_
      refine mG (.b (hasT (playD l few i) (idA (l.getD i dTa) few))) ?_
      refine op0 ?_
      refine rT (upd (upd (upd (upd (upd (upd (upd (upd (upd (upd (upd (upd (upd none_ 0 (.q eTa l)) 1 (.b few)) 4 (.b false)) 5 (.pt 1 0)) 6 (.q eT (playD l few i))) 7 (.i (i : Int))) 8 (.i (idA (l.getD i dTa) few))) 9 (.i (atA (l.getD i dTa) few))) 12 (.q eT (delT (playD l few i) (idA (l.getD i dTa) few)))) 13 (.b (hasT (playD l few i) (idA (l.getD i dTa) few)))) 60 (.v (.int .u8 (((l.getD i dTa).dw) % 6)))) 61 (.b (((((l.getD i dTa).dw % 6) == 0) || (((l.getD i dTa).dw % 6) == 1)) || (((l.getD i dTa).dw % 6) == 2)))) 79 (.b ((((l.getD i dTa).dw) % 6) == 3))) (updO (updO noOb 1 (.live ⟨[.sl 2 0 ((sortT (playD l few i)).length)], 57, 1⟩)) 2 (.live ⟨(enc eT (sortT (playD l few i))), 59, 2⟩)) ?_
      refine seqR ?_
      refine mG (.q eT (delT (playD l few i) (idA (l.getD i dTa) few))) ?_
      refine mG (.q eT (delT (playD l few i) (idA (l.getD i dTa) few))) ?_
      refine op0 ?_
      refine seqR ?_
      refine mG (.pt 1 0) ?_
      refine mG (.i (idA (l.getD i dTa) few)) ?_
      refine opG rfl (callG_ false [1, 2] [] (t_Stop (sortT (playD l few i)) (idA (l.getD i dTa) few) (by first | omega | (simp; done) | decide | (simp at *; omega))) rfl rfl rfl rfl rfl bd15 (by decide) ⟨giv_map (o := ⟨[.sl 2 0 ((sortT (playD l few i)).length)], 57, 1⟩) rfl (om_ (lm_cons rfl lm_nil)) (oks_cons (.sl _ _ _ (by simp)) oks_nil), giv_no (o := ⟨(enc eT (sortT (playD l few i))), 59, 2⟩) rfl rfl, trivial⟩ ⟨(arg_own (.pt _ _ (by simp)) rfl), (arg_no (a := .i (idA (l.getD i dTa) few))), trivial⟩ rfl trivial (fun h => by cases h) (am_no (a := .b (hasT (sortT (playD l few i)) (idA (l.getD i dTa) few)))) (place_cons (ost_map (lm_cons rfl lm_nil)) (place_cons (ost_no (cs := (enc eT (delT (sortT (playD l few i)) (idA (l.getD i dTa) few))))) place_nil)) ?_)
      refine mG (.b (hasT (playD l few i) (idA (l.getD i dTa) few))) ?_
      refine opG rfl (aop_neB rfl rfl rfl rfl rfl ut4 ?_)
      refine op0 ?_
      refine rT (upd (upd (upd (upd (upd (upd (upd (upd (upd (upd (upd (upd (upd (upd none_ 0 (.q eTa l)) 1 (.b few)) 4 (.b false)) 5 (.pt 1 0)) 6 (.q eT (delT (playD l few i) (idA (l.getD i dTa) few)))) 7 (.i (i : Int))) 8 (.i (idA (l.getD i dTa) few))) 9 (.i (atA (l.getD i dTa) few))) 12 (.q eT (delT (playD l few i) (idA (l.getD i dTa) few)))) 13 (.b (hasT (playD l few i) (idA (l.getD i dTa) few)))) 60 (.v (.int .u8 (((l.getD i dTa).dw) % 6)))) 61 (.b (((((l.getD i dTa).dw % 6) == 0) || (((l.getD i dTa).dw % 6) == 1)) || (((l.getD i dTa).dw % 6) == 2)))) 79 (.b ((((l.getD i dTa).dw) % 6) == 3))) 92 (.b ((hasT (sortT (playD l few i)) (idA (l.getD i dTa) few)) != (hasT (playD l few i) (idA (l.getD i dTa) few))))) (updO (updO (updO (updO noOb 1 (.live ⟨[.sl 2 0 ((sortT (playD l few i)).length)], 57, 1⟩)) 2 (.live ⟨(enc eT (sortT (playD l few i))), 59, 2⟩)) 1 (.live ⟨[.sl 2 0 ((delT (sortT (playD l few i)) (idA (l.getD i dTa) few)).length)], 57, 1⟩)) 2 (.live ⟨(enc eT (delT (sortT (playD l few i)) (idA (l.getD i dTa) few))), 59, 2⟩)) ?_
      refine awp_cond ((hasT (sortT (playD l few i)) (idA (l.getD i dTa) few)) != (hasT (playD l few i) (idA (l.getD i dTa) few))) rfl rfl (fun hc8 => ?_) (fun hc8 => ?_)
      ·skip
       exfalso; rw [s_has] at hc8; simp at hc8
      ·skip
       refine awp_skip ?_
       show Imp _ _ _
       exact iL [(1, 1), (2, 2)] [((1, 1), .live _), ((2, 2), .live _)] ⟨row_map (o := ⟨[.sl 2 0 ((delT (sortT (playD l few i)) (idA (l.getD i dTa) few)).length)], 57, 1⟩) rfl (by rw [hrw_]; exact (om_ (lm_cons rfl lm_nil))) (oks_cons (.sl _ _ _ (by simp)) oks_nil), row_no rfl (by rw [hrw_]), trivial⟩ (he := (sS rfl (sS rfl (sS rfl (sS rfl (sS rfl (sS (by exact congrArg (fun l_ : List Tm => AV.ro l_.length (enc eT l_)) hdc_) (sM rfl (sS rfl (sS rfl (sS rfl sr_none)))))))))))
     ·skip
      have hf11 := (beq_eq_false_iff_ne).1 hc7
      refine seqR ?_
      refine bG ((.bool ((((l.getD i dTa).dw) % 6) == 4))) ?_
      refine mG (.b ((((l.getD i dTa).dw) % 6) == 4)) ?_
      refine op0 ?_
      refine rT (upd (upd (upd (upd (upd (upd (upd (upd (upd (upd (upd (upd none_ 0 (.q eTa l)) 1 (.b few)) 4 (.b false)) 5 (.pt 1 0)) 6 (.q eT (playD l few i))) 7 (.i (i : Int))) 8 (.i (idA (l.getD i dTa) few))) 9 (.i (atA (l.getD i dTa) few))) 60 (.v (.int .u8 (((l.getD i dTa).dw) % 6)))) 61 (.b (((((l.getD i dTa).dw % 6) == 0) || (((l.getD i dTa).dw % 6) == 1)) || (((l.getD i dTa).dw % 6) == 2)))) 79 (.b ((((l.getD i dTa).dw) % 6) == 3))) 93 (.b ((((l.getD i dTa).dw) % 6) == 4))) (updO (updO noOb 1 (.live ⟨[.sl 2 0 ((sortT (playD l few i)).length)], 57, 1⟩)) 2 (.live ⟨(enc eT (sortT (playD l few i))), 59, 2⟩)) ?_
      refine awp_cond ((((l.getD i dTa).dw) % 6) == 4) rfl rfl (fun hc9 => ?_) (fun hc9 => ?_)
      ·skip
       have hf12 := (beq_iff_eq).1 hc9
       refine seqR ?_
       refine mG (.pt 1 0) ?_
       refine mG (.i (atA (l.getD i dTa) few)) ?_
       refine opG rfl (callG_ false [1, 2] [54, 55] (t_EndedO (sortT (playD l few i)) (atA (l.getD i dTa) few) (by omega)) rfl rfl rfl rfl rfl bd12 (by decide) ⟨giv_map (o := ⟨[.sl 2 0 ((sortT (playD l few i)).length)], 57, 1⟩) rfl (om_ (lm_cons rfl lm_nil)) (oks_cons (.sl _ _ _ (by simp)) oks_nil), giv_no (o := ⟨(enc eT (sortT (playD l few i))), 59, 2⟩) rfl rfl, trivial⟩ ⟨(arg_own (.pt _ _ (by simp)) rfl), (arg_no (a := .i (atA (l.getD i dTa) few))), trivial⟩ rfl ⟨rfl, rfl, trivial⟩ (fun h => by cases h) rfl (place_cons (ost_map (lm_cons rfl lm_nil)) (place_cons rfl (place_cons (ost_no (cs := (enc eT (restL (atA (l.getD i dTa) few) (sortT (playD l few i)))))) (place_cons (ost_no (cs := (enc eI (idsT (endL (atA (l.getD i dTa) few) (sortT (playD l few i))))))) place_nil)))) ?_)
       refine mG (.sl 55 0 ((idsT (endL (atA (l.getD i dTa) few) (sortT (playD l few i)))).length)) ?_
       refine op0 ?_
       refine rT (upd (upd (upd (upd (upd (upd (upd (upd (upd (upd (upd (upd (upd none_ 0 (.q eTa l)) 1 (.b few)) 4 (.b false)) 5 (.pt 1 0)) 6 (.q eT (playD l few i))) 7 (.i (i : Int))) 8 (.i (idA (l.getD i dTa) few))) 9 (.i (atA (l.getD i dTa) few))) 14 (.sl 55 0 ((idsT (endL (atA (l.getD i dTa) few) (sortT (playD l few i)))).length))) 60 (.v (.int .u8 (((l.getD i dTa).dw) % 6)))) 61 (.b (((((l.getD i dTa).dw % 6) == 0) || (((l.getD i dTa).dw % 6) == 1)) || (((l.getD i dTa).dw % 6) == 2)))) 79 (.b ((((l.getD i dTa).dw) % 6) == 3))) 93 (.b ((((l.getD i dTa).dw) % 6) == 4))) (updO (updO (updO (updO (updO (updO noOb 1 (.live ⟨[.sl 2 0 ((sortT (playD l few i)).length)], 57, 1⟩)) 2 (.live ⟨(enc eT (sortT (playD l few i))), 59, 2⟩)) 1 (.live ⟨[.sl 54 0 ((restL (atA (l.getD i dTa) few) (sortT (playD l few i))).length)], 57, 1⟩)) 2 .dead) 54 (.live ⟨(enc eT (restL (atA (l.getD i dTa) few) (sortT (playD l few i)))), 59, 2⟩)) 55 (.live ⟨(enc eI (idsT (endL (atA (l.getD i dTa) few) (sortT (playD l few i))))), 3, 1⟩)) ?_
       refine awp_imp ⟨(upd (upd (upd (upd (upd (upd (upd (upd (upd (upd (upd (upd (upd none_ 0 (.q eTa l)) 1 (.b few)) 4 (.b false)) 5 (.pt 1 0)) 6 (.q eT (playD l few i))) 7 (.i (i : Int))) 8 (.i (idA (l.getD i dTa) few))) 9 (.i (atA (l.getD i dTa) few))) 14 (.q eI (idsT (endL (atA (l.getD i dTa) few) (sortT (playD l few i)))))) 60 (.v (.int .u8 (((l.getD i dTa).dw) % 6)))) 61 (.b (((((l.getD i dTa).dw % 6) == 0) || (((l.getD i dTa).dw % 6) == 1)) || (((l.getD i dTa).dw % 6) == 2)))) 79 (.b ((((l.getD i dTa).dw) % 6) == 3))) 93 (.b ((((l.getD i dTa).dw) % 6) == 4))), (updO (updO noOb 1 (.live ⟨[.sl 54 0 ((restL (atA (l.getD i dTa) few) (sortT (playD l few i))).length)], 57, 1⟩)) 54 (.live ⟨(enc eT (restL (atA (l.getD i dTa) few) (sortT (playD l few i)))), 59, 2⟩))⟩ ?_ ?_
       ·skip
        refine (frz_ [1, 54] [(1, ⟨[.sl 54 0 ((restL (atA (l.getD i dTa) few) (sortT (playD l few i))).length)], 57, 1⟩), (54, ⟨(enc eT (restL (atA (l.getD i dTa) few) (sortT (playD l few i)))), 59, 2⟩)] rfl (fun _ h => h) ⟨keep_cells (cs := [.sl 54 0 ((restL (atA (l.getD i dTa) few) (sortT (playD l few i))).length)]) (by simp) rfl rfl (frzs_cons (.inl rfl) frzs_nil), keep_same (by simp) rfl, trivial⟩ (fz_same 93 (.b ((((l.getD i dTa).dw) % 6) == 4)) rfl (fz_same 79 (.b ((((l.getD i dTa).dw) % 6) == 3)) rfl (fz_same 61 (.b (((((l.getD i dTa).dw % 6) == 0) || (((l.getD i dTa).dw % 6) == 1)) || (((l.getD i dTa).dw % 6) == 2))) rfl (fz_same 60 (.v (.int .u8 (((l.getD i dTa).dw) % 6))) rfl (fz_lend 14 (.q eI (idsT (endL (atA (l.getD i dTa) few) (sortT (playD l few i))))) (lend_s (id := 55) (n := (idsT (endL (atA (l.getD i dTa) few) (sortT (playD l few i)))).length) (o := ⟨(enc eI (idsT (endL (atA (l.getD i dTa) few) (sortT (playD l few i))))), 3, 1⟩) rfl (enc_len (fun _ => rfl) (by first | rfl | (simp; done)))) (fz_same 9 (.i (atA (l.getD i dTa) few)) rfl (fz_same 8 (.i (idA (l.getD i dTa) few)) rfl (fz_same 7 (.i (i : Int)) rfl (fz_same 6 (.q eT (playD l few i)) rfl (fz_same 5 (.pt 1 0) rfl (fz_same 4 (.b false) rfl (fz_same 1 (.b few) rfl (fz_same 0 (.q eTa l) rfl fz_none)))))))))))))).trans ?_
        exact iL [(1, 1), (54, 54)] [((1, 1), .live _), ((54, 54), .live _)] ⟨row_map (o := ⟨[.sl 54 0 ((restL (atA (l.getD i dTa) few) (sortT (playD l few i))).length)], 57, 1⟩) rfl (om_ (lm_cons rfl lm_nil)) (oks_cons (.sl _ _ _ (by simp)) oks_nil), row_no (o := ⟨(enc eT (restL (atA (l.getD i dTa) few) (sortT (playD l few i)))), 59, 2⟩) rfl rfl, trivial⟩
       refine seqR ?_
       refine mG (.i 0) ?_
       refine op0 ?_
       refine awp_seq ?_
       refine awp_block ?_
       refine awp_countI (fun j => ⟨(upd (upd (upd (upd (upd (upd (upd (upd (upd (upd (upd (upd (upd (upd none_ 0 (.q eTa l)) 1 (.b few)) 4 (.b false)) 5 (.pt 1 0)) 6 (.q eT (dlT (playD l few i) (atA (l.getD i dTa) few) j))) 7 (.i (i : Int))) 8 (.i (idA (l.getD i dTa) few))) 9 (.i (atA (l.getD i dTa) few))) 14 (.q eI (idsT (endL (atA (l.getD i dTa) few) (sortT (playD l few i)))))) 15 (.i (j : Int))) 60 (.v (.int .u8 (((l.getD i dTa).dw) % 6)))) 61 (.b (((((l.getD i dTa).dw % 6) == 0) || (((l.getD i dTa).dw % 6) == 1)) || (((l.getD i dTa).dw % 6) == 2)))) 79 (.b ((((l.getD i dTa).dw) % 6) == 3))) 93 (.b ((((l.getD i dTa).dw) % 6) == 4))), (updO (updO noOb 1 (.live ⟨[.sl 2 0 ((restL (atA (l.getD i dTa) few) (sortT (playD l few i))).length)], 57, 1⟩)) 2 (.live ⟨(enc eT (restL (atA (l.getD i dTa) few) (sortT (playD l few i)))), 59, 2⟩))⟩) (fun j => True) ((endL (atA (l.getD i dTa) few) (sortT (playD l few i))).length) ?_ trivial (fun j hk_j hinv => ?_)
       ·skip
        exact iL [(1, 1), (54, 2)] [((1, 1), .live _), ((54, 2), .live _)] ⟨row_map (o := ⟨[.sl 54 0 ((restL (atA (l.getD i dTa) few) (sortT (playD l few i))).length)], 57, 1⟩) rfl (om_ (lm_cons rfl lm_nil)) (oks_cons (.sl _ _ _ (by simp)) oks_nil), row_no rfl rfl, trivial⟩
       have hdo := dl_ok (now := (atA (l.getD i dTa) few)) hpo j
       have hdl := hdo.len
       have hEn := (end_len (atA (l.getD i dTa) few) (sortT (playD l few i))).1
       have hil_ := ids_len (endL (atA (l.getD i dTa) few) (sortT (playD l few i)))
       refine awp_block ?_
       refine seqR ?_
       refine mG (.q eT (dlT (playD l few i) (atA (l.getD i dTa) few) j)) ?_
       refine mG (.i (atA (l.getD i dTa) few)) ?_
       refine opG rfl (call_ (d_Ended (dlT (playD l few i) (atA (l.getD i dTa) few) j) (atA (l.getD i dTa) few) (by omega)) rfl rfl rfl rfl rfl bd19 rfl ?_)
       refine mG (.tup [.i (endI (dlT (playD l few i) (atA (l.getD i dTa) few) j) (atA (l.getD i dTa) few)), .b (endB (dlT (playD l few i) (atA (l.getD i dTa) few) j) (atA (l.getD i dTa) few))]) ?_
       refine opG rfl (aop_extract rfl rfl rfl rfl rfl ?_)
       refine opG rfl (aop_extract rfl rfl rfl rfl rfl ?_)
       refine mG (.i (endI (dlT (playD l few i) (atA (l.getD i dTa) few) j) (atA (l.getD i dTa) few))) ?_
       refine mG (.b (endB (dlT (playD l few i) (atA (l.getD i dTa) few) j) (atA (l.getD i dTa) few))) ?_
       refine op0 ?_
       refine rT (upd (upd (upd (upd (upd (upd (upd (upd (upd (upd (upd (upd (upd (upd (upd (upd none_ 0 (.q eTa l)) 1 (.b few)) 4 (.b false)) 5 (.pt 1 0)) 6 (.q eT (dlT (playD l few i) (atA (l.getD i dTa) few) j))) 7 (.i (i : Int))) 8 (.i (idA (l.getD i dTa) few))) 9 (.i (atA (l.getD i dTa) few))) 14 (.q eI (idsT (endL (atA (l.getD i dTa) few) (sortT (playD l few i)))))) 15 (.i (j : Int))) 16 (.i (endI (dlT (playD l few i) (atA (l.getD i dTa) few) j) (atA (l.getD i dTa) few)))) 17 (.b (endB (dlT (playD l few i) (atA (l.getD i dTa) few) j) (atA (l.getD i dTa) few)))) 60 (.v (.int .u8 (((l.getD i dTa).dw) % 6)))) 61 (.b (((((l.getD i dTa).dw % 6) == 0) || (((l.getD i dTa).dw % 6) == 1)) || (((l.getD i dTa).dw % 6) == 2)))) 79 (.b ((((l.getD i dTa).dw) % 6) == 3))) 93 (.b ((((l.getD i dTa).dw) % 6) == 4))) (updO (updO noOb 1 (.live ⟨[.sl 2 0 ((restL (atA (l.getD i dTa) few) (sortT (playD l few i))).length)], 57, 1⟩)) 2 (.live ⟨(enc eT (restL (atA (l.getD i dTa) few) (sortT (playD l few i)))), 59, 2⟩)) ?_
       refine awp_seq ?_
       refine seqR ?_
       refine mG (.b (endB (dlT (playD l few i) (atA (l.getD i dTa) few) j) (atA (l.getD i dTa) few))) ?_
       refine opG rfl (aop_not rfl rfl rfl rfl ?_)
       refine op0 ?_
       refine awp_cond (!(endB (dlT (playD l few i) (atA (l.getD i dTa) few) j) (atA (l.getD i dTa) few))) rfl rfl (fun hc10 => ?_) (fun hc10 => ?_)
       ·skip
        have hf13 := not_t hc10
        have hje := dl_stop hpo (by omega) hc10
        refine awp_exit ?_
        refine seqR ?_
        refine mG (.i (j : Int)) ?_
        refine mG (.q eI (idsT (endL (atA (l.getD i dTa) few) (sortT (playD l few i))))) ?_
        refine opG rfl (aop_len rfl rfl rfl rfl ut28 (len_ro rfl) ?_)
        refine bG ((.bool ((j : Int) != ((idsT (endL (atA (l.getD i dTa) few) (sortT (playD l few i)))).length : Int)))) ?_
        refine op0 ?_
        refine rT (upd (upd (upd (upd (upd (upd (upd (upd (upd (upd (upd (upd (upd (upd (upd (upd (upd none_ 0 (.q eTa l)) 1 (.b few)) 4 (.b false)) 5 (.pt 1 0)) 6 (.q eT (dlT (playD l few i) (atA (l.getD i dTa) few) j))) 7 (.i (i : Int))) 8 (.i (idA (l.getD i dTa) few))) 9 (.i (atA (l.getD i dTa) few))) 14 (.q eI (idsT (endL (atA (l.getD i dTa) few) (sortT (playD l few i)))))) 15 (.i (j : Int))) 16 (.i (endI (dlT (playD l few i) (atA (l.getD i dTa) few) j) (atA (l.getD i dTa) few)))) 17 (.b (endB (dlT (playD l few i) (atA (l.getD i dTa) few) j) (atA (l.getD i dTa) few)))) 60 (.v (.int .u8 (((l.getD i dTa).dw) % 6)))) 61 (.b (((((l.getD i dTa).dw % 6) == 0) || (((l.getD i dTa).dw % 6) == 1)) || (((l.getD i dTa).dw % 6) == 2)))) 79 (.b ((((l.getD i dTa).dw) % 6) == 3))) 93 (.b ((((l.getD i dTa).dw) % 6) == 4))) 129 (.b ((j : Int) != ((idsT (endL (atA (l.getD i dTa) few) (sortT (playD l few i)))).length : Int)))) (updO (updO noOb 1 (.live ⟨[.sl 2 0 ((restL (atA (l.getD i dTa) few) (sortT (playD l few i))).length)], 57, 1⟩)) 2 (.live ⟨(enc eT (restL (atA (l.getD i dTa) few) (sortT (playD l few i)))), 59, 2⟩)) ?_
        refine awp_cond ((j : Int) != ((idsT (endL (atA (l.getD i dTa) few) (sortT (playD l few i)))).length : Int)) rfl rfl (fun hc11 => ?_) (fun hc11 => ?_)
        ·skip
         have hf14 := (bne_iff_ne).1 hc11
         exfalso; rw [bne_iff_ne] at hc11; omega
        ·skip
         have hf15 := (bne_eq_false_iff_eq).1 hc11
         have hdc_ : (dlT (playD l few i) (atA (l.getD i dTa) few) j) = (playD l few (i + 1)) := by rw [step_4 hc9, hje]
         have hrw_ : restL (atA (l.getD i dTa) few) (sortT (playD l few i)) = (sortT (playD l few (i + 1))) := by rw [← hdc_, dl_end hpo hje]
         refine awp_skip ?_
         show Imp _ _ _
         exact iL [(1, 1), (2, 2)] [((1, 1), .live _), ((2, 2), .live _)] ⟨row_map (o := ⟨[.sl 2 0 ((restL (atA (l.getD i dTa) few) (sortT (playD l few i))).length)], 57, 1⟩) rfl (by rw [hrw_]; exact (om_ (lm_cons rfl lm_nil))) (oks_cons (.sl _ _ _ (by simp)) oks_nil), row_no rfl (by rw [hrw_]), trivial⟩ (he := (sS rfl (sS rfl (sS rfl (sS rfl (sS rfl (sS (by exact congrArg (fun l_ : List Tm => AV.ro l_.length (enc eT l_)) hdc_) (sM rfl (sS rfl (sS rfl (sS rfl sr_none)))))))))))
       ·skip
        have hf16 := not_f hc10
        have hjl := dl_go hpo (by omega) hc10
        have hdy := dl_yes hpo hjl
        refine awp_skip ?_
        refine awp_seq ?_
        refine seqR ?_
        refine mG (.i (j : Int)) ?_
        refine mG (.q eI (idsT (endL (atA (l.getD i dTa) few) (sortT (playD l few i))))) ?_
        refine opG rfl (aop_len rfl rfl rfl rfl ut28 (len_ro rfl) ?_)
        refine bG ((.bool (decide ((j : Int) ≥ ((idsT (endL (atA (l.getD i dTa) few) (sortT (playD l few i)))).length : Int))))) ?_
        refine mG (.b (decide ((j : Int) ≥ ((idsT (endL (atA (l.getD i dTa) few) (sortT (playD l few i)))).length : Int)))) ?_
        refine aops_grp 7 117 (.b ((decide ((j : Int) ≥ ((idsT (endL (atA (l.getD i dTa) few) (sortT (playD l few i)))).length : Int))) || (((idsT (endL (atA (l.getD i dTa) few) (sortT (playD l few i)))).getD j 0) != (endI (dlT (playD l few i) (atA (l.getD i dTa) few) j) (atA (l.getD i dTa) few))))) ?_ ?_
        ·refine (Bool.eq_false_or_eq_true (decide ((j : Int) ≥ ((idsT (endL (atA (l.getD i dTa) few) (sortT (playD l few i)))).length : Int)))).elim (fun hg17 => ?_) (fun hg17 => ?_)
         ·skip
          have hf18 := of_decide_eq_true hg17
          refine nG hg17 ?_
          refine nG hg17 ?_
          refine nG hg17 ?_
          refine nG hg17 ?_
          refine nG hg17 ?_
          refine nG hg17 ?_
          refine opG rfl (aop_pick (b := (decide ((j : Int) ≥ ((idsT (endL (atA (l.getD i dTa) few) (sortT (playD l few i)))).length : Int)))) (av := .b true) rfl rfl rfl rfl ((congrArg (fun b_ => cond b_ _ _) hg17).trans rfl) ?_)
          refine op0 ?_
          exact imp_env (lee_both 117 _ _ (by rw [hg17] <;> rfl) (lee_out 116 _ rfl (lee_out 115 _ rfl (lee_out 114 _ rfl (lee_out 113 _ rfl (lee_out 112 _ rfl (lee_out 111 _ rfl (lee_same _))))))))
         ·skip
          have hf19 := of_decide_eq_false hg17
          refine oY hg17 (aop_move (av := .q eI (idsT (endL (atA (l.getD i dTa) few) (sortT (playD l few i))))) (.inl rfl) rfl rfl rfl ?_)
          refine oY hg17 (aop_move (av := .i (j : Int)) (.inl rfl) rfl rfl rfl ?_)
          refine oY hg17 (aop_ixE 0 rfl rfl rfl ut28 sz3 rfl rfl (fun _ => rfl) rfl (by first | omega | (simp; done) | decide | (simp at *; omega)) ?_)
          refine oY hg17 (aop_ld (av := .i ((idsT (endL (atA (l.getD i dTa) few) (sortT (playD l few i)))).getD j 0)) rfl rfl rfl ag3 rfl rfl ?_)
          refine oY hg17 (aop_move (av := .i (endI (dlT (playD l few i) (atA (l.getD i dTa) few) j) (atA (l.getD i dTa) few))) (.inl rfl) rfl rfl rfl ?_)
          refine oY hg17 (aop_binI (u := (.bool (((idsT (endL (atA (l.getD i dTa) few) (sortT (playD l few i)))).getD j 0) != (endI (dlT (playD l few i) (atA (l.getD i dTa) few) j) (atA (l.getD i dTa) few))))) rfl rfl rfl rfl rfl trivial rfl ?_)
          refine opG rfl (aop_pick (b := (decide ((j : Int) ≥ ((idsT (endL (atA (l.getD i dTa) few) (sortT (playD l few i)))).length : Int)))) (av := .b (((idsT (endL (atA (l.getD i dTa) few) (sortT (playD l few i)))).getD j 0) != (endI (dlT (playD l few i) (atA (l.getD i dTa) few) j) (atA (l.getD i dTa) few)))) rfl rfl rfl rfl ((congrArg (fun b_ => cond b_ _ _) hg17).trans rfl) ?_)
          refine op0 ?_
          exact imp_env (lee_both 117 _ _ (by rw [hg17] <;> rfl) (lee_out 116 _ rfl (lee_out 115 _ rfl (lee_out 114 _ rfl (lee_out 113 _ rfl (lee_out 112 _ rfl (lee_out 111 _ rfl (lee_same _))))))))
        refine op0 ?_
        refine rT (upd (upd (upd (upd (upd (upd (upd (upd (upd (upd (upd (upd (upd (upd (upd (upd (upd none_ 0 (.q eTa l)) 1 (.b few)) 4 (.b false)) 5 (.pt 1 0)) 6 (.q eT (dlT (playD l few i) (atA (l.getD i dTa) few) j))) 7 (.i (i : Int))) 8 (.i (idA (l.getD i dTa) few))) 9 (.i (atA (l.getD i dTa) few))) 14 (.q eI (idsT (endL (atA (l.getD i dTa) few) (sortT (playD l few i)))))) 15 (.i (j : Int))) 16 (.i (endI (dlT (playD l few i) (atA (l.getD i dTa) few) j) (atA (l.getD i dTa) few)))) 17 (.b (endB (dlT (playD l few i) (atA (l.getD i dTa) few) j) (atA (l.getD i dTa) few)))) 60 (.v (.int .u8 (((l.getD i dTa).dw) % 6)))) 61 (.b (((((l.getD i dTa).dw % 6) == 0) || (((l.getD i dTa).dw % 6) == 1)) || (((l.getD i dTa).dw % 6) == 2)))) 79 (.b ((((l.getD i dTa).dw) % 6) == 3))) 93 (.b ((((l.getD i dTa).dw) % 6) == 4))) 117 (.b ((decide ((j : Int) ≥ ((idsT (endL (atA (l.getD i dTa) few) (sortT (playD l few i)))).length : Int))) || (((idsT (endL (atA (l.getD i dTa) few) (sortT (playD l few i)))).getD j 0) != (endI (dlT (playD l few i) (atA (l.getD i dTa) few) j) (atA (l.getD i dTa) few)))))) (updO (updO noOb 1 (.live ⟨[.sl 2 0 ((restL (atA (l.getD i dTa) few) (sortT (playD l few i))).length)], 57, 1⟩)) 2 (.live ⟨(enc eT (restL (atA (l.getD i dTa) few) (sortT (playD l few i)))), 59, 2⟩)) ?_
        refine awp_cond ((decide ((j : Int) ≥ ((idsT (endL (atA (l.getD i dTa) few) (sortT (playD l few i)))).length : Int))) || (((idsT (endL (atA (l.getD i dTa) few) (sortT (playD l few i)))).getD j 0) != (endI (dlT (playD l few i) (atA (l.getD i dTa) few) j) (atA (l.getD i dTa) few)))) rfl rfl (fun hc12 => ?_) (fun hc12 => ?_)
        ·skip
         exfalso; simp only [Bool.or_eq_true, decide_eq_true_eq, bne_iff_ne] at hc12; have h2_ := hdy.2; omega
        ·skip
         obtain ⟨hf20a, hf20b⟩ := or_f hc12
         have hf21 := of_decide_eq_false hf20a
         have hf22 := (bne_eq_false_iff_eq).1 hf20b
         refine awp_skip ?_
         refine seqR ?_
         refine mG (.i (j : Int)) ?_
         refine opG rfl (aop_binI (u := (.int .i64 ((j + 1 : Nat) : Int))) rfl rfl rfl rfl rfl trivial (addN (by omega)) ?_)
         refine mG (.i ((j + 1 : Nat) : Int)) ?_
         refine op0 ?_
         refine regR ?_
         refine mG (.q eT (dlT (playD l few i) (atA (l.getD i dTa) few) j)) ?_
         refine mG (.i (endI (dlT (playD l few i) (atA (l.getD i dTa) few) j) (atA (l.getD i dTa) few))) ?_
         refine opG rfl (call_ (d_Stop (dlT (playD l few i) (atA (l.getD i dTa) few) j) (endI (dlT (playD l few i) (atA (l.getD i dTa) few) j) (atA (l.getD i dTa) few)) (by first | omega | (simp; done) | decide | (simp at *; omega))) rfl rfl rfl rfl rfl bd18 rfl ?_)
         refine mG (.tup [.q eT (delT (dlT (playD l few i) (atA (l.getD i dTa) few) j) (endI (dlT (playD l few i) (atA (l.getD i dTa) few) j) (atA (l.getD i dTa) few))), .b (hasT (dlT (playD l few i) (atA (l.getD i dTa) few) j) (endI (dlT (playD l few i) (atA (l.getD i dTa) few) j) (atA (l.getD i dTa) few)))]) ?_
         refine opG rfl (aop_extract rfl rfl rfl rfl rfl ?_)
         refine opG rfl (aop_extract rfl rfl rfl rfl rfl ?_)
         refine mG (.q eT (delT (dlT (playD l few i) (atA (l.getD i dTa) few) j) (endI (dlT (playD l few i) (atA (l.getD i dTa) few) j) (atA (l.getD i dTa) few)))) ?_
         refine op0 ?_
         show _ ∧ _
         refine ⟨by omega, trivial, ?_⟩
         exact iL [(1, 1), (2, 2)] [((1, 1), .live _), ((2, 2), .live _)] ⟨row_map (o := ⟨[.sl 2 0 ((restL (atA (l.getD i dTa) few) (sortT (playD l few i))).length)], 57, 1⟩) rfl (om_ (lm_cons rfl lm_nil)) (oks_cons (.sl _ _ _ (by simp)) oks_nil), row_no rfl rfl, trivial⟩
      ·skip
       have hf23 := (beq_eq_false_iff_ne).1 hc9
       have hdc_ : (playD l few i) = (playD l few (i + 1)) := (step_5b hc5 hc7 hc9).symm
       have hrw_ : (sortT (playD l few i)) = (sortT (playD l few (i + 1))) := by rw [hdc_]
       refine awp_skip ?_
       show Imp _ _ _
       exact iL [(1, 1), (2, 2)] [((1, 1), .live _), ((2, 2), .live _)] ⟨row_map (o := ⟨[.sl 2 0 ((sortT (playD l few i)).length)], 57, 1⟩) rfl (by rw [hrw_]; exact (om_ (lm_cons rfl lm_nil))) (oks_cons (.sl _ _ _ (by simp)) oks_nil), row_no rfl (by rw [hrw_]), trivial⟩ (he := (sS rfl (sS rfl (sS rfl (sS rfl (sS rfl (sS (by exact congrArg (fun l_ : List Tm => AV.ro l_.length (enc eT l_)) hdc_) (sM rfl (sS rfl (sS rfl (sS rfl sr_none)))))))))))
   refine seqR ?_
   refine mG (.pt 1 0) ?_
   refine mG (.i (idA (l.getD i dTa) few)) ?_
   refine mG (.i (atA (l.getD i dTa) few)) ?_
   refine opG rfl (callL_ (t_Left (sortT (playD l few (i + 1))) (idA (l.getD i dTa) few) (atA (l.getD i dTa) few) (by omega)) rfl rfl rfl rfl rfl bd20 (lends_cons (lend_pt rfl (lends_cons (lend_s (id := 2) (n := (sortT (playD l few (i + 1))).length) (o := ⟨(enc eT (sortT (playD l few (i + 1)))), 59, 2⟩) rfl (enc_len (fun _ => rfl) (by first | rfl | (simp; done)))) lends_nil)) (lends_cons (lend_n (av := .i (idA (l.getD i dTa) few))) (lends_cons (lend_n (av := .i (atA (l.getD i dTa) few))) lends_nil))) ?_)
   refine mG (.tup [.i (leftT (sortT (playD l few (i + 1))) (idA (l.getD i dTa) few) (atA (l.getD i dTa) few)), .b (hasT (sortT (playD l few (i + 1))) (idA (l.getD i dTa) few))]) ?_
   refine opG rfl (aop_extract rfl rfl rfl rfl rfl ?_)
   refine opG rfl (aop_extract rfl rfl rfl rfl rfl ?_)
   refine opG rfl (aop_eqv (d := 18) (a := .i (leftT (sortT (playD l few (i + 1))) (idA (l.getD i dTa) few) (atA (l.getD i dTa) few))) (b := .i (leftT (playD l few (i + 1)) (idA (l.getD i dTa) few) (atA (l.getD i dTa) few))) (aop_move (av := .i (leftT (sortT (playD l few (i + 1))) (idA (l.getD i dTa) few) (atA (l.getD i dTa) few))) (.inr rfl) rfl rfl rfl rfl) (by rw [s_left hp1.uq] <;> rfl) ?_)
   refine opG rfl (aop_eqv (d := 19) (a := .b (hasT (sortT (playD l few (i + 1))) (idA (l.getD i dTa) few))) (b := .b (hasT (playD l few (i + 1)) (idA (l.getD i dTa) few))) (aop_move (av := .b (hasT (sortT (playD l few (i + 1))) (idA (l.getD i dTa) few))) (.inr rfl) rfl rfl rfl rfl) (by rw [s_has] <;> rfl) ?_)
   refine op0 ?_
   refine rT (upd (upd (upd (upd (upd (upd (upd (upd (upd (upd (upd (upd none_ 0 (.q eTa l)) 1 (.b few)) 4 (.b false)) 5 (.pt 1 0)) 6 (.q eT (playD l few (i + 1)))) 7 (.i (i : Int))) 8 (.i (idA (l.getD i dTa) few))) 9 (.i (atA (l.getD i dTa) few))) 18 (.i (leftT (playD l few (i + 1)) (idA (l.getD i dTa) few) (atA (l.getD i dTa) few)))) 19 (.b (hasT (playD l few (i + 1)) (idA (l.getD i dTa) few)))) 60 (.v (.int .u8 (((l.getD i dTa).dw) % 6)))) 61 (.b (((((l.getD i dTa).dw % 6) == 0) || (((l.getD i dTa).dw % 6) == 1)) || (((l.getD i dTa).dw % 6) == 2)))) (updO (updO noOb 1 (.live ⟨[.sl 2 0 ((sortT (playD l few (i + 1))).length)], 57, 1⟩)) 2 (.live ⟨(enc eT (sortT (playD l few (i + 1)))), 59, 2⟩)) ?_
   refine seqR ?_
   refine mG (.q eT (playD l few (i + 1))) ?_
   refine mG (.i (idA (l.getD i dTa) few)) ?_
   refine mG (.i (atA (l.getD i dTa) few)) ?_
   refine opG rfl (call_ (d_Left (playD l few (i + 1)) (idA (l.getD i dTa) few) (atA (l.getD i dTa) few) (by omega) hp1.w hao) rfl rfl rfl rfl rfl bd21 rfl ?_)
   refine mG (.tup [.i (leftT (playD l few (i + 1)) (idA (l.getD i dTa) few) (atA (l.getD i dTa) few)), .b (hasT (playD l few (i + 1)) (idA (l.getD i dTa) few))]) ?_
   refine opG rfl (aop_extract rfl rfl rfl rfl rfl ?_)
   refine opG rfl (aop_extract rfl rfl rfl rfl rfl ?_)
   refine mG (.i (leftT (playD l few (i + 1)) (idA (l.getD i dTa) few) (atA (l.getD i dTa) few))) ?_
   refine mG (.b (hasT (playD l few (i + 1)) (idA (l.getD i dTa) few))) ?_
   refine op0 ?_
   refine rT (upd (upd (upd (upd (upd (upd (upd (upd (upd (upd (upd (upd (upd (upd none_ 0 (.q eTa l)) 1 (.b few)) 4 (.b false)) 5 (.pt 1 0)) 6 (.q eT (playD l few (i + 1)))) 7 (.i (i : Int))) 8 (.i (idA (l.getD i dTa) few))) 9 (.i (atA (l.getD i dTa) few))) 18 (.i (leftT (playD l few (i + 1)) (idA (l.getD i dTa) few) (atA (l.getD i dTa) few)))) 19 (.b (hasT (playD l few (i + 1)) (idA (l.getD i dTa) few)))) 20 (.i (leftT (playD l few (i + 1)) (idA (l.getD i dTa) few) (atA (l.getD i dTa) few)))) 21 (.b (hasT (playD l few (i + 1)) (idA (l.getD i dTa) few)))) 60 (.v (.int .u8 (((l.getD i dTa).dw) % 6)))) 61 (.b (((((l.getD i dTa).dw % 6) == 0) || (((l.getD i dTa).dw % 6) == 1)) || (((l.getD i dTa).dw % 6) == 2)))) (updO (updO noOb 1 (.live ⟨[.sl 2 0 ((sortT (playD l few (i + 1))).length)], 57, 1⟩)) 2 (.live ⟨(enc eT (sortT (playD l few (i + 1)))), 59, 2⟩)) ?_
   refine seqR ?_
   refine mG (.pt 1 0) ?_
   refine mG (.i (idA (l.getD i dTa) few)) ?_
   refine mG (.q eTa l) ?_
   refine mG (.i (i : Int)) ?_
   refine opG rfl (aop_ixE dTa rfl rfl rfl ut35 sz39 rfl rfl (fun _ => rfl) rfl (by first | omega | (simp; done) | decide | (simp at *; omega)) ?_)
   refine opG rfl (aop_fieldAddr (av := .rp (([.v (.int .u8 ((l.getD i dTa).dw)), .i ((l.getD i dTa).id), .i ((l.getD i dTa).at_)] : List AV) ++ ((enc eTa l).drop ((i + 1) * 3)))) (av' := .rp (([.i ((l.getD i dTa).at_)] : List AV) ++ ((enc eTa l).drop ((i + 1) * 3)))) rfl rfl rfl ft39_2 sz2 rfl rfl rfl ?_)
   refine opG rfl (aop_ld (av := .i ((l.getD i dTa).at_)) rfl rfl rfl ag2 rfl rfl ?_)
   refine opG rfl (callL_ (t_Left (sortT (playD l few (i + 1))) (idA (l.getD i dTa) few) (l.getD i dTa).at_ (by omega)) rfl rfl rfl rfl rfl bd20 (lends_cons (lend_pt rfl (lends_cons (lend_s (id := 2) (n := (sortT (playD l few (i + 1))).length) (o := ⟨(enc eT (sortT (playD l few (i + 1)))), 59, 2⟩) rfl (enc_len (fun _ => rfl) (by first | rfl | (simp; done)))) lends_nil)) (lends_cons (lend_n (av := .i (idA (l.getD i dTa) few))) (lends_cons (lend_n (av := .i ((l.getD i dTa).at_))) lends_nil))) ?_)
   refine mG (.tup [.i (leftT (sortT (playD l few (i + 1))) (idA (l.getD i dTa) few) ((l.getD i dTa).at_)), .b (hasT (sortT (playD l few (i + 1))) (idA (l.getD i dTa) few))]) ?_
   refine opG rfl (aop_extract rfl rfl rfl rfl rfl ?_)
   refine opG rfl (aop_extract rfl rfl rfl rfl rfl ?_)
   refine opG rfl (aop_eqv (d := 22) (a := .i (leftT (sortT (playD l few (i + 1))) (idA (l.getD i dTa) few) ((l.getD i dTa).at_))) (b := .i (leftT (playD l few (i + 1)) (idA (l.getD i dTa) few) (l.getD i dTa).at_)) (aop_move (av := .i (leftT (sortT (playD l few (i + 1))) (idA (l.getD i dTa) few) ((l.getD i dTa).at_))) (.inr rfl) rfl rfl rfl rfl) (by rw [s_left hp1.uq] <;> rfl) ?_)
   refine opG rfl (aop_eqv (d := 23) (a := .b (hasT (sortT (playD l few (i + 1))) (idA (l.getD i dTa) few))) (b := .b (hasT (playD l few (i + 1)) (idA (l.getD i dTa) few))) (aop_move (av := .b (hasT (sortT (playD l few (i + 1))) (idA (l.getD i dTa) few))) (.inr rfl) rfl rfl rfl rfl) (by rw [s_has] <;> rfl) ?_)
   refine op0 ?_
   refine rT (upd (upd (upd (upd (upd (upd (upd (upd (upd (upd (upd (upd (upd (upd (upd (upd none_ 0 (.q eTa l)) 1 (.b few)) 4 (.b false)) 5 (.pt 1 0)) 6 (.q eT (playD l few (i + 1)))) 7 (.i (i : Int))) 8 (.i (idA (l.getD i dTa) few))) 9 (.i (atA (l.getD i dTa) few))) 18 (.i (leftT (playD l few (i + 1)) (idA (l.getD i dTa) few) (atA (l.getD i dTa) few)))) 19 (.b (hasT (playD l few (i + 1)) (idA (l.getD i dTa) few)))) 20 (.i (leftT (playD l few (i + 1)) (idA (l.getD i dTa) few) (atA (l.getD i dTa) few)))) 21 (.b (hasT (playD l few (i + 1)) (idA (l.getD i dTa) few)))) 22 (.i (leftT (playD l few (i + 1)) (idA (l.getD i dTa) few) (l.getD i dTa).at_))) 23 (.b (hasT (playD l few (i + 1)) (idA (l.getD i dTa) few)))) 60 (.v (.int .u8 (((l.getD i dTa).dw) % 6)))) 61 (.b (((((l.getD i dTa).dw % 6) == 0) || (((l.getD i dTa).dw % 6) == 1)) || (((l.getD i dTa).dw % 6) == 2)))) (updO (updO noOb 1 (.live ⟨[.sl 2 0 ((sortT (playD l few (i + 1))).length)], 57, 1⟩)) 2 (.live ⟨(enc eT (sortT (playD l few (i + 1)))), 59, 2⟩)) ?_
   refine seqR ?_
   refine mG (.q eT (playD l few (i + 1))) ?_
   refine mG (.i (idA (l.getD i dTa) few)) ?_
   refine mG (.q eTa l) ?_
   refine mG (.i (i : Int)) ?_
   refine opG rfl (aop_ixE dTa rfl rfl rfl ut35 sz39 rfl rfl (fun _ => rfl) rfl (by first | omega | (simp; done) | decide | (simp at *; omega)) ?_)
   refine opG rfl (aop_fieldAddr (av := .rp (([.v (.int .u8 ((l.getD i dTa).dw)), .i ((l.getD i dTa).id), .i ((l.getD i dTa).at_)] : List AV) ++ ((enc eTa l).drop ((i + 1) * 3)))) (av' := .rp (([.i ((l.getD i dTa).at_)] : List AV) ++ ((enc eTa l).drop ((i + 1) * 3)))) rfl rfl rfl ft39_2 sz2 rfl rfl rfl ?_)
   refine opG rfl (aop_ld (av := .i ((l.getD i dTa).at_)) rfl rfl rfl ag2 rfl rfl ?_)
   refine opG rfl (call_ (d_Left (playD l few (i + 1)) (idA (l.getD i dTa) few) (l.getD i dTa).at_ (by omega) hp1.w hxo.at_) rfl rfl rfl rfl rfl bd21 rfl ?_)
   refine mG (.tup [.i (leftT (playD l few (i + 1)) (idA (l.getD i dTa) few) ((l.getD i dTa).at_)), .b (hasT (playD l few (i + 1)) (idA (l.getD i dTa) few))]) ?_
   refine opG rfl (aop_extract rfl rfl rfl rfl rfl ?_)
   refine opG rfl (aop_extract rfl rfl rfl rfl rfl ?_)
   refine mG (.i (leftT (playD l few (i + 1)) (idA (l.getD i dTa) few) ((l.getD i dTa).at_))) ?_
   refine mG (.b (hasT (playD l few (i + 1)) (idA (l.getD i dTa) few))) ?_
   refine op0 ?_
   refine rT (upd (upd (upd (upd (upd (upd (upd (upd (upd (upd (upd (upd (upd (upd (upd (upd (upd (upd none_ 0 (.q eTa l)) 1 (.b few)) 4 (.b false)) 5 (.pt 1 0)) 6 (.q eT (playD l few (i + 1)))) 7 (.i (i : Int))) 8 (.i (idA (l.getD i dTa) few))) 9 (.i (atA (l.getD i dTa) few))) 18 (.i (leftT (playD l few (i + 1)) (idA (l.getD i dTa) few) (atA (l.getD i dTa) few)))) 19 (.b (hasT (playD l few (i + 1)) (idA (l.getD i dTa) few)))) 20 (.i (leftT (playD l few (i + 1)) (idA (l.getD i dTa) few) (atA (l.getD i dTa) few)))) 21 (.b (hasT (playD l few (i + 1)) (idA (l.getD i dTa) few)))) 22 (.i (leftT (playD l few (i + 1)) (idA (l.getD i dTa) few) (l.getD i dTa).at_))) 23 (.b (hasT (playD l few (i + 1)) (idA (l.getD i dTa) few)))) 24 (.i (leftT (playD l few (i + 1)) (idA (l.getD i dTa) few) ((l.getD i dTa).at_)))) 25 (.b (hasT (playD l few (i + 1)) (idA (l.getD i dTa) few)))) 60 (.v (.int .u8 (((l.getD i dTa).dw) % 6)))) 61 (.b (((((l.getD i dTa).dw % 6) == 0) || (((l.getD i dTa).dw % 6) == 1)) || (((l.getD i dTa).dw % 6) == 2)))) (updO (updO noOb 1 (.live ⟨[.sl 2 0 ((sortT (playD l few (i + 1))).length)], 57, 1⟩)) 2 (.live ⟨(enc eT (sortT (playD l few (i + 1)))), 59, 2⟩)) ?_
   refine seqR ?_
   refine mG (.i (leftT (playD l few (i + 1)) (idA (l.getD i dTa) few) (atA (l.getD i dTa) few))) ?_
   refine mG (.i (leftT (playD l few (i + 1)) (idA (l.getD i dTa) few) (atA (l.getD i dTa) few))) ?_
   refine opG rfl (aop_eqv (d := 168) (a := .b ((leftT (playD l few (i + 1)) (idA (l.getD i dTa) few) (atA (l.getD i dTa) few)) != (leftT (playD l few (i + 1)) (idA (l.getD i dTa) few) (atA (l.getD i dTa) few)))) (b := .b false) (aop_binI (u := (.bool ((leftT (playD l few (i + 1)) (idA (l.getD i dTa) few) (atA (l.getD i dTa) few)) != (leftT (playD l few (i + 1)) (idA (l.getD i dTa) few) (atA (l.getD i dTa) few))))) rfl rfl rfl rfl rfl trivial rfl rfl) (by exact congrArg (fun b_ => AV.v (.bool b_)) (bne_self_eq_false _)) ?_)
   refine mG (.b false) ?_
   refine opY rfl rfl rfl rfl (aop_move (av := .b (hasT (playD l few (i + 1)) (idA (l.getD i dTa) few))) (.inl rfl) rfl rfl rfl ?_)
   refine opY rfl rfl rfl rfl (aop_move (av := .b (hasT (playD l few (i + 1)) (idA (l.getD i dTa) few))) (.inl rfl) rfl rfl rfl ?_)
   refine opY rfl rfl rfl rfl (aop_eqv (d := 172) (a := .b ((hasT (playD l few (i + 1)) (idA (l.getD i dTa) few)) != (hasT (playD l few (i + 1)) (idA (l.getD i dTa) few)))) (b := .b false) (aop_neB rfl rfl rfl rfl rfl ut4 rfl) (by exact congrArg (fun b_ => AV.v (.bool b_)) (bne_self_eq_false _)) ?_)
   refine opG rfl (aop_eqv (d := 173) (a := .b false) (b := .b false) (aop_pick (b := false) (av := .b false) rfl rfl rfl rfl rfl rfl) (by rfl) ?_)
   refine mG (.b false) ?_
   refine opY rfl rfl rfl rfl (aop_move (av := .i (leftT (playD l few (i + 1)) (idA (l.getD i dTa) few) (l.getD i dTa).at_)) (.inl rfl) rfl rfl rfl ?_)
   refine opY rfl rfl rfl rfl (aop_move (av := .i (leftT (playD l few (i + 1)) (idA (l.getD i dTa) few) ((l.getD i dTa).at_))) (.inl rfl) rfl rfl rfl ?_)
   refine opY rfl rfl rfl rfl (aop_eqv (d := 177) (a := .b ((leftT (playD l few (i + 1)) (idA (l.getD i dTa) few) (l.getD i dTa).at_) != (leftT (playD l few (i + 1)) (idA (l.getD i dTa) few) ((l.getD i dTa).at_)))) (b := .b false) (aop_binI (u := (.bool ((leftT (playD l few (i + 1)) (idA (l.getD i dTa) few) (l.getD i dTa).at_) != (leftT (playD l few (i + 1)) (idA (l.getD i dTa) few) ((l.getD i dTa).at_))))) rfl rfl rfl rfl rfl trivial rfl rfl) (by exact congrArg (fun b_ => AV.v (.bool b_)) (bne_self_eq_false _)) ?_)
   refine opG rfl (aop_eqv (d := 178) (a := .b false) (b := .b false) (aop_pick (b := false) (av := .b false) rfl rfl rfl rfl rfl rfl) (by rfl) ?_)
   refine mG (.b false) ?_
   refine opY rfl rfl rfl rfl (aop_move (av := .b (hasT (playD l few (i + 1)) (idA (l.getD i dTa) few))) (.inl rfl) rfl rfl rfl ?_)
   refine opY rfl rfl rfl rfl (aop_move (av := .b (hasT (playD l few (i + 1)) (idA (l.getD i dTa) few))) (.inl rfl) rfl rfl rfl ?_)
   refine opY rfl rfl rfl rfl (aop_eqv (d := 182) (a := .b ((hasT (playD l few (i + 1)) (idA (l.getD i dTa) few)) != (hasT (playD l few (i + 1)) (idA (l.getD i dTa) few)))) (b := .b false) (aop_neB rfl rfl rfl rfl rfl ut4 rfl) (by exact congrArg (fun b_ => AV.v (.bool b_)) (bne_self_eq_false _)) ?_)
   refine opG rfl (aop_eqv (d := 183) (a := .b false) (b := .b false) (aop_pick (b := false) (av := .b false) rfl rfl rfl rfl rfl rfl) (by rfl) ?_)
   refine mG (.b false) ?_
   refine opY rfl rfl rfl rfl (aop_move (av := .pt 1 0) (.inl rfl) rfl rfl rfl ?_)
   refine opY rfl rfl rfl rfl (callL_ (t_Len (sortT (playD l few (i + 1))) (by first | omega | (simp; done) | decide | (simp at *; omega))) rfl rfl rfl rfl rfl bd14 (lends_cons (lend_pt rfl (lends_cons (lend_s (id := 2) (n := (sortT (playD l few (i + 1))).length) (o := ⟨(enc eT (sortT (playD l few (i + 1)))), 59, 2⟩) rfl (enc_len (fun _ => rfl) (by first | rfl | (simp; done)))) lends_nil)) lends_nil) ?_)
   refine opY rfl rfl rfl rfl (aop_move (av := .q eT (playD l few (i + 1))) (.inl rfl) rfl rfl rfl ?_)
   refine opY rfl rfl rfl rfl (aop_len rfl rfl rfl rfl ut36 (len_ro rfl) ?_)
   refine opY rfl rfl rfl rfl (aop_eqv (d := 189) (a := .b (((sortT (playD l few (i + 1))).length : Int) != ((playD l few (i + 1)).length : Int))) (b := .b false) (aop_binI (u := (.bool (((sortT (playD l few (i + 1))).length : Int) != ((playD l few (i + 1)).length : Int)))) rfl rfl rfl rfl rfl trivial rfl rfl) (by rw [sortT_len]; exact congrArg (fun b_ => AV.v (.bool b_)) (bne_self_eq_false _)) ?_)
   refine opG rfl (aop_eqv (d := 190) (a := .b false) (b := .b false) (aop_pick (b := false) (av := .b false) rfl rfl rfl rfl rfl rfl) (by rfl) ?_)
   refine op0 ?_
   refine rT (upd (upd (upd (upd (upd (upd (upd (upd (upd (upd (upd (upd (upd (upd (upd (upd (upd (upd (upd none_ 0 (.q eTa l)) 1 (.b few)) 4 (.b false)) 5 (.pt 1 0)) 6 (.q eT (playD l few (i + 1)))) 7 (.i (i : Int))) 8 (.i (idA (l.getD i dTa) few))) 9 (.i (atA (l.getD i dTa) few))) 18 (.i (leftT (playD l few (i + 1)) (idA (l.getD i dTa) few) (atA (l.getD i dTa) few)))) 19 (.b (hasT (playD l few (i + 1)) (idA (l.getD i dTa) few)))) 20 (.i (leftT (playD l few (i + 1)) (idA (l.getD i dTa) few) (atA (l.getD i dTa) few)))) 21 (.b (hasT (playD l few (i + 1)) (idA (l.getD i dTa) few)))) 22 (.i (leftT (playD l few (i + 1)) (idA (l.getD i dTa) few) (l.getD i dTa).at_))) 23 (.b (hasT (playD l few (i + 1)) (idA (l.getD i dTa) few)))) 24 (.i (leftT (playD l few (i + 1)) (idA (l.getD i dTa) few) ((l.getD i dTa).at_)))) 25 (.b (hasT (playD l few (i + 1)) (idA (l.getD i dTa) few)))) 60 (.v (.int .u8 (((l.getD i dTa).dw) % 6)))) 61 (.b (((((l.getD i dTa).dw % 6) == 0) || (((l.getD i dTa).dw % 6) == 1)) || (((l.getD i dTa).dw % 6) == 2)))) 190 (.b false)) (updO (updO noOb 1 (.live ⟨[.sl 2 0 ((sortT (playD l few (i + 1))).length)], 57, 1⟩)) 2 (.live ⟨(enc eT (sortT (playD l few (i + 1)))), 59, 2⟩)) ?_
   refine awp_cond false rfl rfl (fun h => by cases h) (fun _ => ?_)
   refine awp_skip ?_
   refine regR ?_
   refine mG (.i (i : Int)) ?_
   refine opG rfl (aop_binI (u := (.int .i64 ((i + 1 : Nat) : Int))) rfl rfl rfl rfl rfl trivial (addN (by omega)) ?_)
   refine mG (.i ((i + 1 : Nat) : Int)) ?_
   refine op0 ?_
   show _ ∧ _
   refine ⟨by omega, trivial, ?_⟩
   exact iL [(1, 1), (2, 2)] [((1, 1), .live _), ((2, 2), .live _)] ⟨row_map (o := ⟨[.sl 2 0 ((sortT (playD l few (i + 1))).length)], 57, 1⟩) rfl (om_ (lm_cons rfl lm_nil)) (oks_cons (.sl _ _ _ (by simp)) oks_nil), row_no rfl rfl, trivial⟩
  ·skip
   have hf24 := of_decide_eq_false hc1
   refine awp_exit ?_
   refine seqR ?_
   refine mG (.b true) ?_
   refine op0 ?_
   refine awp_ret ?_
   exact fret (av := .v (.bool true)) rfl rfl rfl
end Go.Lo
