/- Walks of Go functions in the logic of values. -/
import Derived.Test.YthfmdljohlolpaaFnStTy
import Derived.Test.YthfmdljohlolpaaDef
import Derived.Test.YthfmdljohlolpaaRi
import Derived.Test.YthfmdljohlolpaaTd
import Derived.Test.YthfmdljohlolpaaTc
import Derived.Test.YthfmdljohlolpaaTe
import Derived.Test.YthfmdljohlolpaaTg
import Derived.Test.YthfmdljohlolpaaTh
import Derived.Test.YthfmdljohlolpaaTi
import Derived.Test.YthfmdljohlolpaaFnA
import Derived.Test.YthfmdljohlolpaaFnB
set_option linter.unusedVariables false
set_option linter.unusedSimpArgs false
set_option maxRecDepth 10000
set_option maxHeartbeats 16000000
namespace Go.Lo
open Go.Proofs
theorem l8_three   : Fn Try.prog 9 [] (.v (.bool true)) := by
 have h1 := startT_len (l := ([] : List Tm)) (i := 5) (a := 9) (by decide)
 have h2 := startT_len (i := 3) (a := 9) h1
 have h3 := startT_len (i := 7) (a := 2) h2
 have h4 := end_len 9 (startT (startT (startT ([] : List Tm) 5 9) 3 9) 7 2)
 refine fnE_of_body (N := 18) Try.func9 rfl rfl (resOf1 rfl) (by simp) (fun w0 X hL_ => ?_)
 refine seqR ?_
 refine mG (.b false) ?_
 refine op0 ?_
 refine seqR ?_
 refine opG rfl (callG_ false [] [51, 52] (t_New) rfl rfl rfl rfl rfl bd10 (by decide) trivial trivial rfl ⟨rfl, rfl, trivial⟩ (fun h => by cases h) rfl (place_cons (ost_map (lm_cons rfl lm_nil)) (place_cons (ost_no (cs := (enc eT ([] : List Tm)))) place_nil)) ?_)
 refine mG (.pt 51 0) ?_
 refine op0 ?_
 refine seqR ?_
 refine mG (.pt 51 0) ?_
 refine opG rfl (callG_ false [51, 52] [53] (t_Start ([] : List Tm) 5 9 (by decide)) rfl rfl rfl rfl rfl bd11 (by decide) ⟨giv_map (o := ⟨[.sl 52 0 0], 57, 1⟩) rfl (om_ (lm_cons rfl lm_nil)) (oks_cons (.sl _ _ _ (by simp)) oks_nil), giv_no (o := ⟨(enc eT ([] : List Tm)), 59, 2⟩) rfl rfl, trivial⟩ ⟨(arg_own (.pt _ _ (by simp)) rfl), (arg_no (a := .i 5)), (arg_no (a := .i 9)), trivial⟩ rfl ⟨rfl, trivial⟩ (fun h => by cases h) (am_no (a := .i (errT ([] : List Tm) 5))) (place_cons (ost_map (lm_cons rfl lm_nil)) (place_cons rfl (place_cons (ost_no (cs := (enc eT (startT ([] : List Tm) 5 9)))) place_nil))) ?_)
 refine op0 ?_
 refine rs_ (upd (upd none_ 0 (.b false)) 1 (.pt 51 0)) (updO (updO (updO (updO (updO noOb 51 (.live ⟨[.sl 52 0 0], 57, 1⟩)) 52 (.live ⟨(enc eT ([] : List Tm)), 59, 2⟩)) 51 (.live ⟨[.sl 53 0 ((startT ([] : List Tm) 5 9).length)], 57, 1⟩)) 52 .dead) 53 (.live ⟨(enc eT (startT ([] : List Tm) 5 9)), 59, 2⟩)) (lu rfl (lu rfl ln)) rfl ?_
 refine seqR ?_
 refine mG (.pt 51 0) ?_
 refine opG rfl (callG_ false [51, 53] [54] (t_Start (startT ([] : List Tm) 5 9) 3 9 (by omega)) rfl rfl rfl rfl rfl bd11 (by decide) ⟨giv_map (o := ⟨[.sl 53 0 ((startT ([] : List Tm) 5 9).length)], 57, 1⟩) rfl (om_ (lm_cons rfl lm_nil)) (oks_cons (.sl _ _ _ (by simp)) oks_nil), giv_no (o := ⟨(enc eT (startT ([] : List Tm) 5 9)), 59, 2⟩) rfl rfl, trivial⟩ ⟨(arg_own (.pt _ _ (by simp)) rfl), (arg_no (a := .i 3)), (arg_no (a := .i 9)), trivial⟩ rfl ⟨rfl, trivial⟩ (fun h => by cases h) (am_no (a := .i (errT (startT ([] : List Tm) 5 9) 3))) (place_cons (ost_map (lm_cons rfl lm_nil)) (place_cons rfl (place_cons (ost_no (cs := (enc eT (startT (startT ([] : List Tm) 5 9) 3 9)))) place_nil))) ?_)
 refine op0 ?_
 refine seqR ?_
 refine mG (.pt 51 0) ?_
 refine opG rfl (callG_ false [51, 54] [55] (t_Start (startT (startT ([] : List Tm) 5 9) 3 9) 7 2 (by omega)) rfl rfl rfl rfl rfl bd11 (by decide) ⟨giv_map (o := ⟨[.sl 54 0 ((startT (startT ([] : List Tm) 5 9) 3 9).length)], 57, 1⟩) rfl (om_ (lm_cons rfl lm_nil)) (oks_cons (.sl _ _ _ (by simp)) oks_nil), giv_no (o := ⟨(enc eT (startT (startT ([] : List Tm) 5 9) 3 9)), 59, 2⟩) rfl rfl, trivial⟩ ⟨(arg_own (.pt _ _ (by simp)) rfl), (arg_no (a := .i 7)), (arg_no (a := .i 2)), trivial⟩ rfl ⟨rfl, trivial⟩ (fun h => by cases h) (am_no (a := .i (errT (startT (startT ([] : List Tm) 5 9) 3 9) 7))) (place_cons (ost_map (lm_cons rfl lm_nil)) (place_cons rfl (place_cons (ost_no (cs := (enc eT (startT (startT (startT ([] : List Tm) 5 9) 3 9) 7 2)))) place_nil))) ?_)
 refine op0 ?_
 refine rs_ (upd (upd none_ 0 (.b false)) 1 (.pt 51 0)) (updO (updO (updO (updO (updO (updO (updO (updO (updO (updO (updO noOb 51 (.live ⟨[.sl 52 0 0], 57, 1⟩)) 52 (.live ⟨(enc eT ([] : List Tm)), 59, 2⟩)) 51 (.live ⟨[.sl 53 0 ((startT ([] : List Tm) 5 9).length)], 57, 1⟩)) 52 .dead) 53 (.live ⟨(enc eT (startT ([] : List Tm) 5 9)), 59, 2⟩)) 51 (.live ⟨[.sl 54 0 ((startT (startT ([] : List Tm) 5 9) 3 9).length)], 57, 1⟩)) 53 .dead) 54 (.live ⟨(enc eT (startT (startT ([] : List Tm) 5 9) 3 9)), 59, 2⟩)) 51 (.live ⟨[.sl 55 0 ((startT (startT (startT ([] : List Tm) 5 9) 3 9) 7 2).length)], 57, 1⟩)) 54 .dead) 55 (.live ⟨(enc eT (startT (startT (startT ([] : List Tm) 5 9) 3 9) 7 2)), 59, 2⟩)) (lu rfl (lu rfl ln)) rfl ?_
 refine awp_imp ⟨(upd (upd none_ 0 (.b false)) 1 (.pt 51 0)), (updO noOb 51 (.live ⟨[.q eT (startT (startT (startT ([] : List Tm) 5 9) 3 9) 7 2)], 57, 1⟩))⟩ ?_ ?_
 ·skip
  refine (frz_ [51] [(51, ⟨[.q eT (startT (startT (startT ([] : List Tm) 5 9) 3 9) 7 2)], 57, 1⟩)] rfl (fun _ h => h) ⟨keep_cells (cs := [.sl 55 0 ((startT (startT (startT ([] : List Tm) 5 9) 3 9) 7 2).length)]) (by simp) rfl rfl (frzs_cons (.inr (lend_s (id := 55) (n := (startT (startT (startT ([] : List Tm) 5 9) 3 9) 7 2).length) (o := ⟨(enc eT (startT (startT (startT ([] : List Tm) 5 9) 3 9) 7 2)), 59, 2⟩) rfl (enc_len (fun _ => rfl) (by first | rfl | (simp; done))))) frzs_nil), trivial⟩ (fz_same 1 (.pt 51 0) rfl (fz_same 0 (.b false) rfl fz_none))).trans ?_
  exact imp_ler [(51, 51)] (lerI 51 51 (o := ⟨[.q eT (startT (startT (startT ([] : List Tm) 5 9) 3 9) 7 2)], 57, 1⟩) rfl rfl (sM rfl (sS rfl sr_none))) (keep_of rfl)
 refine seqR ?_
 refine mG (.pt 51 0) ?_
 refine opG rfl (callG_ false [51] [56] (t_Ended (startT (startT (startT ([] : List Tm) 5 9) 3 9) 7 2) 9 (by omega)) rfl rfl rfl rfl rfl bd12 (by decide) ⟨giv_no (o := ⟨[.q eT (startT (startT (startT ([] : List Tm) 5 9) 3 9) 7 2)], 57, 1⟩) rfl rfl, trivial⟩ ⟨(arg_own (.pt _ _ (by simp)) rfl), (arg_no (a := .i 9)), trivial⟩ rfl ⟨rfl, trivial⟩ (fun h => by cases h) rfl (place_cons (ost_no (cs := [.q eT (restL 9 (startT (startT (startT ([] : List Tm) 5 9) 3 9) 7 2))])) (place_cons (ost_no (cs := (enc eI (idsT (endL 9 (startT (startT (startT ([] : List Tm) 5 9) 3 9) 7 2)))))) place_nil)) ?_)
 refine opG rfl (aop_lit rfl rfl rfl ut28 iz3 (by decide) (by decide) rfl rfl ?_)
 refine opG rfl (callL_ (r01_Ints (idsT (endL 9 (startT (startT (startT ([] : List Tm) 5 9) 3 9) 7 2))) [(7 : Int), (3 : Int), (5 : Int)] (by first | omega | (simp; done) | decide | (simp at *; omega))) rfl rfl rfl rfl rfl bd22 (lends_cons (lend_s (id := 56) (n := (idsT (endL 9 (startT (startT (startT ([] : List Tm) 5 9) 3 9) 7 2))).length) (o := ⟨(enc eI (idsT (endL 9 (startT (startT (startT ([] : List Tm) 5 9) 3 9) 7 2)))), 3, 1⟩) rfl (enc_len (fun _ => rfl) (by first | rfl | (simp; done)))) (lends_cons (lend_n (av := .ro 3 [.i 7, .i 3, .i 5])) lends_nil)) ?_)
 refine mG (.b (decide ((idsT (endL 9 (startT (startT (startT ([] : List Tm) 5 9) 3 9) 7 2))) = [(7 : Int), (3 : Int), (5 : Int)]))) ?_
 refine aops_grp 4 17 (.b ((decide ((idsT (endL 9 (startT (startT (startT ([] : List Tm) 5 9) 3 9) 7 2))) = [(7 : Int), (3 : Int), (5 : Int)])) && (((restL 9 (startT (startT (startT ([] : List Tm) 5 9) 3 9) 7 2)).length : Int) == 0))) ?_ ?_
 ·refine (Bool.eq_false_or_eq_true (decide ((idsT (endL 9 (startT (startT (startT ([] : List Tm) 5 9) 3 9) 7 2))) = [(7 : Int), (3 : Int), (5 : Int)]))).elim (fun hg1 => ?_) (fun hg1 => ?_)
  ·skip
   refine opY rfl rfl rfl (by show AV.v (.bool (decide ((idsT (endL 9 (startT (startT (startT ([] : List Tm) 5 9) 3 9) 7 2))) = [(7 : Int), (3 : Int), (5 : Int)]))) = _; rw [hg1]) (aop_move (av := .pt 51 0) (.inl rfl) rfl rfl rfl ?_)
   refine opY rfl rfl rfl (by show AV.v (.bool (decide ((idsT (endL 9 (startT (startT (startT ([] : List Tm) 5 9) 3 9) 7 2))) = [(7 : Int), (3 : Int), (5 : Int)]))) = _; rw [hg1]) (callL_ (t_Len (restL 9 (startT (startT (startT ([] : List Tm) 5 9) 3 9) 7 2)) (by first | omega | (simp; done) | decide | (simp at *; omega))) rfl rfl rfl rfl rfl bd14 (lends_cons (lend_pt rfl (lends_cons (lend_n (av := .q eT (restL 9 (startT (startT (startT ([] : List Tm) 5 9) 3 9) 7 2)))) lends_nil)) lends_nil) ?_)
   refine opY rfl rfl rfl (by show AV.v (.bool (decide ((idsT (endL 9 (startT (startT (startT ([] : List Tm) 5 9) 3 9) 7 2))) = [(7 : Int), (3 : Int), (5 : Int)]))) = _; rw [hg1]) (aop_binI (u := (.bool (((restL 9 (startT (startT (startT ([] : List Tm) 5 9) 3 9) 7 2)).length : Int) == 0))) rfl rfl rfl rfl rfl trivial rfl ?_)
   refine opG rfl (aop_pick (b := (decide ((idsT (endL 9 (startT (startT (startT ([] : List Tm) 5 9) 3 9) 7 2))) = [(7 : Int), (3 : Int), (5 : Int)]))) (av := .b (((restL 9 (startT (startT (startT ([] : List Tm) 5 9) 3 9) 7 2)).length : Int) == 0)) rfl rfl rfl rfl ((congrArg (fun b_ => cond b_ _ _) hg1).trans rfl) ?_)
   refine op0 ?_
   exact imp_env (lee_both 17 _ _ (by rw [hg1] <;> rfl) (lee_out 16 _ rfl (lee_out 15 _ rfl (lee_out 14 _ rfl (lee_same _)))))
  ·skip
   refine nG hg1 ?_
   refine nG hg1 ?_
   refine nG hg1 ?_
   refine opG rfl (aop_pick (b := (decide ((idsT (endL 9 (startT (startT (startT ([] : List Tm) 5 9) 3 9) 7 2))) = [(7 : Int), (3 : Int), (5 : Int)]))) (av := .b false) rfl rfl rfl rfl ((congrArg (fun b_ => cond b_ _ _) hg1).trans rfl) ?_)
   refine op0 ?_
   exact imp_env (lee_both 17 _ _ (by rw [hg1] <;> rfl) (lee_out 16 _ rfl (lee_out 15 _ rfl (lee_out 14 _ rfl (lee_same _)))))
 refine mG (.b ((decide ((idsT (endL 9 (startT (startT (startT ([] : List Tm) 5 9) 3 9) 7 2))) = [(7 : Int), (3 : Int), (5 : Int)])) && (((restL 9 (startT (startT (startT ([] : List Tm) 5 9) 3 9) 7 2)).length : Int) == 0))) ?_
 refine op0 ?_
 refine rs_ (upd none_ 0 (.b ((decide ((idsT (endL 9 (startT (startT (startT ([] : List Tm) 5 9) 3 9) 7 2))) = [(7 : Int), (3 : Int), (5 : Int)])) && (((restL 9 (startT (startT (startT ([] : List Tm) 5 9) 3 9) 7 2)).length : Int) == 0)))) (updO (updO (updO noOb 51 (.live ⟨[.q eT (startT (startT (startT ([] : List Tm) 5 9) 3 9) 7 2)], 57, 1⟩)) 51 (.live ⟨[.q eT (restL 9 (startT (startT (startT ([] : List Tm) 5 9) 3 9) 7 2))], 57, 1⟩)) 56 (.live ⟨(enc eI (idsT (endL 9 (startT (startT (startT ([] : List Tm) 5 9) 3 9) 7 2)))), 3, 1⟩)) (lu rfl ln) rfl ?_
 refine awp_ret ?_
 exact fret (av := .v (.bool ((decide ((idsT (endL 9 (startT (startT (startT ([] : List Tm) 5 9) 3 9) 7 2))) = [(7 : Int), (3 : Int), (5 : Int)])) && (((restL 9 (startT (startT (startT ([] : List Tm) 5 9) 3 9) 7 2)).length : Int) == 0)))) rfl rfl (by rw [three_law])
theorem l8_TimerStops (l : List Int) (n now : Int) (hn : 0 ≤ n ∧ n ≤ 255) : Fn Try.prog 8 [.ro l.length (enc eI l), .v (.int .u8 n), .v (.int .i64 now)] (.v (.bool true)) := by
 obtain ⟨kk, hkk⟩ : ∃ kk, kk = n % ((l.length : Int) + 1) := ⟨_, rfl⟩
 have hk0 : 0 ≤ kk := by rw [hkk]; exact Int.emod_nonneg _ (by omega)
 have hk1 : kk < (l.length : Int) + 1 := by rw [hkk]; exact Int.emod_lt_of_pos _ (by omega)
 obtain ⟨RX, hX⟩ : ∃ RX, RX = rowU l kk l.length := ⟨_, rfl⟩
 have hXl : RX.length ≤ l.length := by rw [hX]; exact rowU_len _ _ _
 have hel := end_len now RX
 refine fnE_of_body (N := 95) Try.func8 rfl rfl (resOf1 rfl) (by simp) (fun w0 X hL_ => ?_)
 refine seqR ?_
 refine mG (.b false) ?_
 refine op0 ?_
 refine awp_seq ?_
 refine seqR ?_
 refine opG rfl (call_ (l8_three) rfl rfl rfl rfl rfl bd9 rfl ?_)
 refine opG rfl (aop_not rfl rfl rfl rfl ?_)
 refine mG (.b false) ?_
 refine opY rfl rfl rfl rfl (aop_move (av := .q eI l) (.inl rfl) rfl rfl rfl ?_)
 refine opY rfl rfl rfl rfl (aop_len rfl rfl rfl rfl ut22 (len_ro rfl) ?_)
 refine opY rfl rfl rfl rfl (aop_binI (u := (.bool (decide ((l.length : Int) > 30)))) rfl rfl rfl rfl rfl trivial rfl ?_)
 refine opG rfl (aop_pick (b := false) (av := .b (decide ((l.length : Int) > 30))) rfl rfl rfl rfl rfl ?_)
 refine op0 ?_
 refine rs_ (upd (upd (upd (upd (upd none_ 0 (.q eI l)) 1 (.v (.int .u8 n))) 2 (.i now)) 6 (.b false)) 21 (.b (decide ((l.length : Int) > 30)))) noOb (lu rfl (lu rfl (lu rfl (lu rfl (lu rfl ln))))) rfl ?_
 refine awp_cond (decide ((l.length : Int) > 30)) rfl rfl (fun hc0 => ?_) (fun hc0 => ?_)
 ·skip
  have hf1 := of_decide_eq_true hc0
  refine seqR ?_
  refine opG rfl (call_ (l8_three) rfl rfl rfl rfl rfl bd9 rfl ?_)
  refine mG (.b true) ?_
  refine op0 ?_
  refine awp_ret ?_
  exact fret (av := .v (.bool true)) rfl rfl (by first | rw [stops_val hX] | rfl)
 ·skip
  have hf2 := of_decide_eq_false hc0
  refine awp_skip ?_
  refine seqR ?_
  refine opG rfl (callG_ false [] [51, 52] (t_New) rfl rfl rfl rfl rfl bd10 (by decide) trivial trivial rfl ⟨rfl, rfl, trivial⟩ (fun h => by cases h) rfl (place_cons (ost_map (lm_cons rfl lm_nil)) (place_cons (ost_no (cs := (enc eT ([] : List Tm)))) place_nil)) ?_)
  refine opG rfl (callG_ false [] [53, 54] (t_New) rfl rfl rfl rfl rfl bd10 (by decide) trivial trivial rfl ⟨rfl, rfl, trivial⟩ (fun h => by cases h) rfl (place_cons (ost_map (lm_cons rfl lm_nil)) (place_cons (ost_no (cs := (enc eT ([] : List Tm)))) place_nil)) ?_)
  refine mG (.pt 51 0) ?_
  refine mG (.pt 53 0) ?_
  refine op0 ?_
  refine rs_ (upd (upd (upd (upd (upd (upd none_ 0 (.q eI l)) 1 (.v (.int .u8 n))) 2 (.i now)) 6 (.b false)) 7 (.pt 51 0)) 8 (.pt 53 0)) (updO (updO (updO (updO noOb 51 (.live ⟨[.sl 52 0 0], 57, 1⟩)) 52 (.live ⟨(enc eT ([] : List Tm)), 59, 2⟩)) 53 (.live ⟨[.sl 54 0 0], 57, 1⟩)) 54 (.live ⟨(enc eT ([] : List Tm)), 59, 2⟩)) (lu rfl (lu rfl (lu rfl (lu rfl (lu rfl (lu rfl ln)))))) rfl ?_
  refine seqR ?_
  refine mG (.v (.int .u8 n)) ?_
  refine opG rfl (aop_conv' rfl rfl rfl ut5 ut3 rfl (IntWalk.i64_in _ (by omega)) ?_)
  refine mG (.q eI l) ?_
  refine opG rfl (aop_len rfl rfl rfl rfl ut22 (len_ro rfl) ?_)
  refine opG rfl (aop_binI (u := (.int .i64 ((l.length + 1 : Nat) : Int))) rfl rfl rfl rfl rfl trivial (addN (by omega)) ?_)
  refine opG rfl (aop_binI (u := (.int .i64 (n % ((l.length + 1 : Nat) : Int)))) rfl rfl rfl rfl rfl (by show _ ≠ _; omega) (remI (by omega)) ?_)
  refine opG rfl (aop_eqv (d := 9) (a := .i (n % ((l.length + 1 : Nat) : Int))) (b := .i kk) (aop_move (av := .i (n % ((l.length + 1 : Nat) : Int))) (.inr rfl) rfl rfl rfl rfl) (by rw [hkk] <;> rfl) ?_)
  refine op0 ?_
  refine rs_ (upd (upd (upd (upd (upd (upd none_ 0 (.q eI l)) 2 (.i now)) 6 (.b false)) 7 (.pt 51 0)) 8 (.pt 53 0)) 9 (.i kk)) (updO (updO (updO (updO noOb 51 (.live ⟨[.sl 52 0 0], 57, 1⟩)) 52 (.live ⟨(enc eT ([] : List Tm)), 59, 2⟩)) 53 (.live ⟨[.sl 54 0 0], 57, 1⟩)) 54 (.live ⟨(enc eT ([] : List Tm)), 59, 2⟩)) (lu rfl (lu rfl (lu rfl (lu rfl (lu rfl (lu rfl ln)))))) rfl ?_
  refine awp_seq ?_
  refine seqR ?_
  refine mG (.i 0) ?_
  refine op0 ?_
  refine awp_block ?_
  refine awp_countI (fun i => ⟨(upd (upd (upd (upd (upd (upd (upd none_ 0 (.q eI l)) 2 (.i now)) 6 (.b false)) 7 (.pt 1 0)) 8 (.pt 3 0)) 9 (.i kk)) 10 (.i (i : Int))), (updO (updO (updO (updO noOb 1 (.live ⟨[.sl 2 0 ((rowK l i).length)], 57, 1⟩)) 2 (.live ⟨(enc eT (rowK l i)), 59, 2⟩)) 3 (.live ⟨[.sl 4 0 ((rowU l kk i).length)], 57, 1⟩)) 4 (.live ⟨(enc eT (rowU l kk i)), 59, 2⟩))⟩) (fun i => True) (l.length) ?_ trivial (fun i hk_i hinv => ?_)
  ·skip
   exact imp_ler [(51, 1), (52, 2), (53, 3), (54, 4)] (lerL [(51, 1), (52, 2), (53, 3), (54, 4)] [((51, 1), .live ⟨[.sl 2 0 ((rowK l 0).length)], 57, 1⟩), ((52, 2), .live ⟨(enc eT (rowK l 0)), 59, 2⟩), ((53, 3), .live ⟨[.sl 4 0 ((rowU l kk 0).length)], 57, 1⟩), ((54, 4), .live ⟨(enc eT (rowU l kk 0)), 59, 2⟩)] rfl (by decide) (by decide) ⟨row_map (o := ⟨[.sl 52 0 0], 57, 1⟩) rfl (by rw [rowK_0]; exact (om_ (lm_cons rfl lm_nil))) (oks_cons (.sl _ _ _ (by simp)) oks_nil), row_no (o := ⟨(enc eT ([] : List Tm)), 59, 2⟩) rfl (by rw [rowK_0] <;> rfl), row_map (o := ⟨[.sl 54 0 0], 57, 1⟩) rfl (by rw [rowU_0]; exact (om_ (lm_cons rfl lm_nil))) (oks_cons (.sl _ _ _ (by simp)) oks_nil), row_no (o := ⟨(enc eT ([] : List Tm)), 59, 2⟩) rfl (by rw [rowU_0] <;> rfl), trivial⟩ (sr_same 10 (.i (0 : Int)) rfl NoI.out (sr_same 9 (.i kk) rfl NoI.out (sr_map 8 (.pt 3 0) (by first | exact Ok.sl _ _ _ (by first | decide | simp) | exact Ok.pt _ _ (by first | decide | simp)) rfl (sr_map 7 (.pt 1 0) (by first | exact Ok.sl _ _ _ (by first | decide | simp) | exact Ok.pt _ _ (by first | decide | simp)) rfl (sr_same 6 (.b false) rfl NoI.out (sr_same 2 (.i now) rfl NoI.out (sr_same 0 (.q eI l) rfl NoI.out sr_none)))))))) (keep_of rfl)
  have hrl := rowK_len l i
  have hul := rowU_len l kk i
  refine awp_seq ?_
  refine seqR ?_
  refine mG (.i (i : Int)) ?_
  refine mG (.q eI l) ?_
  refine opG rfl (aop_len rfl rfl rfl rfl ut22 (len_ro rfl) ?_)
  refine bG ((.bool (decide ((i : Int) < (l.length : Int))))) ?_
  refine op0 ?_
  refine rs_ (upd (upd (upd (upd (upd (upd (upd (upd none_ 0 (.q eI l)) 2 (.i now)) 6 (.b false)) 7 (.pt 1 0)) 8 (.pt 3 0)) 9 (.i kk)) 10 (.i (i : Int))) 34 (.b (decide ((i : Int) < (l.length : Int))))) (updO (updO (updO (updO noOb 1 (.live ⟨[.sl 2 0 ((rowK l i).length)], 57, 1⟩)) 2 (.live ⟨(enc eT (rowK l i)), 59, 2⟩)) 3 (.live ⟨[.sl 4 0 ((rowU l kk i).length)], 57, 1⟩)) 4 (.live ⟨(enc eT (rowU l kk i)), 59, 2⟩)) (lu rfl (lu rfl (lu rfl (lu rfl (lu rfl (lu rfl (lu rfl (lu rfl ln)))))))) rfl ?_
  refine awp_cond (decide ((i : Int) < (l.length : Int))) rfl rfl (fun hc1 => ?_) (fun hc1 => ?_)
  ·skip
   have hf3 := of_decide_eq_true hc1
   refine awp_skip ?_
   refine awp_seq ?_
   refine awp_block ?_
   refine seqR ?_
   refine mG (.pt 1 0) ?_
   refine mG (.i (i : Int)) ?_
   refine mG (.q eI l) ?_
   refine mG (.i (i : Int)) ?_
   refine opG rfl (aop_ixE 0 rfl rfl rfl ut22 sz2 rfl rfl (fun _ => rfl) rfl (by first | omega | (simp; done) | decide | (simp at *; omega)) ?_)
   refine opG rfl (aop_ld (av := .i (l.getD i 0)) rfl rfl rfl ag2 rfl rfl ?_)
   refine opG rfl (callG_ false [1, 2] [55] (t_Start (rowK l i) i (l.getD i 0) (by omega)) rfl rfl rfl rfl rfl bd11 (by decide) ⟨giv_map (o := ⟨[.sl 2 0 ((rowK l i).length)], 57, 1⟩) rfl (om_ (lm_cons rfl lm_nil)) (oks_cons (.sl _ _ _ (by simp)) oks_nil), giv_no (o := ⟨(enc eT (rowK l i)), 59, 2⟩) rfl rfl, trivial⟩ ⟨(arg_own (.pt _ _ (by simp)) rfl), (arg_no (a := .i (i : Int))), (arg_no (a := .i (l.getD i 0))), trivial⟩ rfl ⟨rfl, trivial⟩ (fun h => by cases h) (am_no (a := .i (errT (rowK l i) (i : Int)))) (place_cons (ost_map (lm_cons rfl lm_nil)) (place_cons rfl (place_cons (ost_no (cs := (enc eT (startT (rowK l i) (i : Int) (l.getD i 0))))) place_nil))) ?_)
   refine op0 ?_
   refine rs_ (upd (upd (upd (upd (upd (upd (upd none_ 0 (.q eI l)) 2 (.i now)) 6 (.b false)) 7 (.pt 1 0)) 8 (.pt 3 0)) 9 (.i kk)) 10 (.i (i : Int))) (updO (updO (updO (updO (updO (updO (updO noOb 1 (.live ⟨[.sl 2 0 ((rowK l i).length)], 57, 1⟩)) 2 (.live ⟨(enc eT (rowK l i)), 59, 2⟩)) 3 (.live ⟨[.sl 4 0 ((rowU l kk i).length)], 57, 1⟩)) 4 (.live ⟨(enc eT (rowU l kk i)), 59, 2⟩)) 1 (.live ⟨[.sl 55 0 ((startT (rowK l i) (i : Int) (l.getD i 0)).length)], 57, 1⟩)) 2 .dead) 55 (.live ⟨(enc eT (startT (rowK l i) (i : Int) (l.getD i 0))), 59, 2⟩)) (lu rfl (lu rfl (lu rfl (lu rfl (lu rfl (lu rfl (lu rfl ln))))))) rfl ?_
   refine seqR ?_
   refine mG (.i (i : Int)) ?_
   refine mG (.i kk) ?_
   refine bG ((.bool ((i : Int) != kk))) ?_
   refine op0 ?_
   refine awp_cond ((i : Int) != kk) rfl rfl (fun hc2 => ?_) (fun hc2 => ?_)
   ·skip
    have hf4 := (bne_iff_ne).1 hc2
    refine regR ?_
    refine mG (.pt 3 0) ?_
    refine mG (.i (i : Int)) ?_
    refine mG (.q eI l) ?_
    refine mG (.i (i : Int)) ?_
    refine opG rfl (aop_ixE 0 rfl rfl rfl ut22 sz2 rfl rfl (fun _ => rfl) rfl (by first | omega | (simp; done) | decide | (simp at *; omega)) ?_)
    refine opG rfl (aop_ld (av := .i (l.getD i 0)) rfl rfl rfl ag2 rfl rfl ?_)
    refine opG rfl (callG_ false [3, 4] [56] (t_Start (rowU l kk i) i (l.getD i 0) (by omega)) rfl rfl rfl rfl rfl bd11 (by decide) ⟨giv_map (o := ⟨[.sl 4 0 ((rowU l kk i).length)], 57, 1⟩) rfl (om_ (lm_cons rfl lm_nil)) (oks_cons (.sl _ _ _ (by simp)) oks_nil), giv_no (o := ⟨(enc eT (rowU l kk i)), 59, 2⟩) rfl rfl, trivial⟩ ⟨(arg_own (.pt _ _ (by simp)) rfl), (arg_no (a := .i (i : Int))), (arg_no (a := .i (l.getD i 0))), trivial⟩ rfl ⟨rfl, trivial⟩ (fun h => by cases h) (am_no (a := .i (errT (rowU l kk i) (i : Int)))) (place_cons (ost_map (lm_cons rfl lm_nil)) (place_cons rfl (place_cons (ost_no (cs := (enc eT (startT (rowU l kk i) (i : Int) (l.getD i 0))))) place_nil))) ?_)
    refine op0 ?_
    refine rs_ (upd (upd (upd (upd (upd (upd (upd none_ 0 (.q eI l)) 2 (.i now)) 6 (.b false)) 7 (.pt 1 0)) 8 (.pt 3 0)) 9 (.i kk)) 10 (.i (i : Int))) (updO (updO (updO (updO (updO (updO (updO (updO (updO (updO noOb 1 (.live ⟨[.sl 2 0 ((rowK l i).length)], 57, 1⟩)) 2 (.live ⟨(enc eT (rowK l i)), 59, 2⟩)) 3 (.live ⟨[.sl 4 0 ((rowU l kk i).length)], 57, 1⟩)) 4 (.live ⟨(enc eT (rowU l kk i)), 59, 2⟩)) 1 (.live ⟨[.sl 55 0 ((startT (rowK l i) (i : Int) (l.getD i 0)).length)], 57, 1⟩)) 2 .dead) 55 (.live ⟨(enc eT (startT (rowK l i) (i : Int) (l.getD i 0))), 59, 2⟩)) 3 (.live ⟨[.sl 56 0 ((startT (rowU l kk i) (i : Int) (l.getD i 0)).length)], 57, 1⟩)) 4 .dead) 56 (.live ⟨(enc eT (startT (rowU l kk i) (i : Int) (l.getD i 0))), 59, 2⟩)) (lu rfl (lu rfl (lu rfl (lu rfl (lu rfl (lu rfl (lu rfl ln))))))) rfl ?_
    refine regR ?_
    refine mG (.i (i : Int)) ?_
    refine opG rfl (aop_binI (u := (.int .i64 ((i + 1 : Nat) : Int))) rfl rfl rfl rfl rfl trivial (addN (by omega)) ?_)
    refine mG (.i ((i + 1 : Nat) : Int)) ?_
    refine op0 ?_
    show _ ∧ _
    have hs_ := rowK_step l (show i < 32 by omega)
    have hu_ := rowU_on (l := l) (show (i : Int) ≠ kk by omega) (by omega)
    refine ⟨by omega, trivial, ?_⟩
    exact imp_ler [(1, 1), (55, 2), (3, 3), (56, 4)] (lerL [(1, 1), (55, 2), (3, 3), (56, 4)] [((1, 1), .live ⟨[.sl 2 0 ((rowK l (i + 1)).length)], 57, 1⟩), ((55, 2), .live ⟨(enc eT (rowK l (i + 1))), 59, 2⟩), ((3, 3), .live ⟨[.sl 4 0 ((rowU l kk (i + 1)).length)], 57, 1⟩), ((56, 4), .live ⟨(enc eT (rowU l kk (i + 1))), 59, 2⟩)] rfl (by decide) (by decide) ⟨row_map (o := ⟨[.sl 55 0 ((startT (rowK l i) (i : Int) (l.getD i 0)).length)], 57, 1⟩) rfl (by rw [← hs_]; exact (om_ (lm_cons rfl lm_nil))) (oks_cons (.sl _ _ _ (by simp)) oks_nil), row_no (o := ⟨(enc eT (startT (rowK l i) (i : Int) (l.getD i 0))), 59, 2⟩) rfl (by rw [← hs_]), row_map (o := ⟨[.sl 56 0 ((startT (rowU l kk i) (i : Int) (l.getD i 0)).length)], 57, 1⟩) rfl (by rw [← hu_]; exact (om_ (lm_cons rfl lm_nil))) (oks_cons (.sl _ _ _ (by simp)) oks_nil), row_no (o := ⟨(enc eT (startT (rowU l kk i) (i : Int) (l.getD i 0))), 59, 2⟩) rfl (by rw [← hu_]), trivial⟩ (sr_same 10 (.i ((i + 1) : Int)) rfl NoI.out (sr_same 9 (.i kk) rfl NoI.out (sr_map 8 (.pt 3 0) (by first | exact Ok.sl _ _ _ (by first | decide | simp) | exact Ok.pt _ _ (by first | decide | simp)) rfl (sr_map 7 (.pt 1 0) (by first | exact Ok.sl _ _ _ (by first | decide | simp) | exact Ok.pt _ _ (by first | decide | simp)) rfl (sr_same 6 (.b false) rfl NoI.out (sr_same 2 (.i now) rfl NoI.out (sr_same 0 (.q eI l) rfl NoI.out sr_none)))))))) (keep_of rfl)
   ·skip
    have hf5 := (bne_eq_false_iff_eq).1 hc2
    refine awp_skip ?_
    refine regR ?_
    refine mG (.i (i : Int)) ?_
    refine opG rfl (aop_binI (u := (.int .i64 ((i + 1 : Nat) : Int))) rfl rfl rfl rfl rfl trivial (addN (by omega)) ?_)
    refine mG (.i ((i + 1 : Nat) : Int)) ?_
    refine op0 ?_
    show _ ∧ _
    have hs_ := rowK_step l (show i < 32 by omega)
    have hu_ := rowU_off (l := l) (show (i : Int) = kk by omega)
    refine ⟨by omega, trivial, ?_⟩
    exact imp_ler [(1, 1), (55, 2), (3, 3), (4, 4)] (lerL [(1, 1), (55, 2), (3, 3), (4, 4)] [((1, 1), .live ⟨[.sl 2 0 ((rowK l (i + 1)).length)], 57, 1⟩), ((55, 2), .live ⟨(enc eT (rowK l (i + 1))), 59, 2⟩), ((3, 3), .live ⟨[.sl 4 0 ((rowU l kk (i + 1)).length)], 57, 1⟩), ((4, 4), .live ⟨(enc eT (rowU l kk (i + 1))), 59, 2⟩)] rfl (by decide) (by decide) ⟨row_map (o := ⟨[.sl 55 0 ((startT (rowK l i) (i : Int) (l.getD i 0)).length)], 57, 1⟩) rfl (by rw [← hs_]; exact (om_ (lm_cons rfl lm_nil))) (oks_cons (.sl _ _ _ (by simp)) oks_nil), row_no (o := ⟨(enc eT (startT (rowK l i) (i : Int) (l.getD i 0))), 59, 2⟩) rfl (by rw [← hs_]), row_map (o := ⟨[.sl 4 0 ((rowU l kk i).length)], 57, 1⟩) rfl (by rw [hu_]; exact (om_ (lm_cons rfl lm_nil))) (oks_cons (.sl _ _ _ (by simp)) oks_nil), row_no (o := ⟨(enc eT (rowU l kk i)), 59, 2⟩) rfl (by rw [hu_]), trivial⟩ (sr_same 10 (.i ((i + 1) : Int)) rfl NoI.out (sr_same 9 (.i kk) rfl NoI.out (sr_map 8 (.pt 3 0) (by first | exact Ok.sl _ _ _ (by first | decide | simp) | exact Ok.pt _ _ (by first | decide | simp)) rfl (sr_map 7 (.pt 1 0) (by first | exact Ok.sl _ _ _ (by first | decide | simp) | exact Ok.pt _ _ (by first | decide | simp)) rfl (sr_same 6 (.b false) rfl NoI.out (sr_same 2 (.i now) rfl NoI.out (sr_same 0 (.q eI l) rfl NoI.out sr_none)))))))) (keep_of rfl)
  ·skip
   have hf6 := of_decide_eq_false hc1
   have hi : i = l.length := by omega
   have hsh := stop_has l (kk := kk) i hk0
   have hdl := delT_len (l := rowK l i) (i := kk)
   refine awp_exit ?_
   refine awp_seq ?_
   refine seqR ?_
   refine mG (.pt 1 0) ?_
   refine mG (.i kk) ?_
   refine opG rfl (callG_ false [1, 2] [] (t_Stop (rowK l i) kk (by first | omega | (simp; done) | decide | (simp at *; omega))) rfl rfl rfl rfl rfl bd15 (by decide) ⟨giv_map (o := ⟨[.sl 2 0 ((rowK l i).length)], 57, 1⟩) rfl (om_ (lm_cons rfl lm_nil)) (oks_cons (.sl _ _ _ (by simp)) oks_nil), giv_no (o := ⟨(enc eT (rowK l i)), 59, 2⟩) rfl rfl, trivial⟩ ⟨(arg_own (.pt _ _ (by simp)) rfl), (arg_no (a := .i kk)), trivial⟩ rfl trivial (fun h => by cases h) (am_no (a := .b (hasT (rowK l i) kk))) (place_cons (ost_map (lm_cons rfl lm_nil)) (place_cons (ost_no (cs := (enc eT (delT (rowK l i) kk)))) place_nil)) ?_)
   refine mG (.i kk) ?_
   refine mG (.q eI l) ?_
   refine opG rfl (aop_len rfl rfl rfl rfl ut22 (len_ro rfl) ?_)
   refine bG ((.bool (decide (kk < (l.length : Int))))) ?_
   refine opG rfl (aop_eqv (d := 61) (a := .b ((hasT (rowK l i) kk) != (decide (kk < (l.length : Int))))) (b := .b false) (aop_neB rfl rfl rfl rfl rfl ut4 rfl) (by rw [hsh, hi]; exact congrArg (fun b_ => AV.v (.bool b_)) (bne_self_eq_false _)) ?_)
   refine mG (.b false) ?_
   refine opY rfl rfl rfl rfl (aop_move (av := .pt 1 0) (.inl rfl) rfl rfl rfl ?_)
   refine opY rfl rfl rfl rfl (callL_ (t_Len (delT (rowK l i) kk) (by first | omega | (simp; done) | decide | (simp at *; omega))) rfl rfl rfl rfl rfl bd14 (lends_cons (lend_pt rfl (lends_cons (lend_s (id := 2) (n := (delT (rowK l i) kk).length) (o := ⟨(enc eT (delT (rowK l i) kk)), 59, 2⟩) rfl (enc_len (fun _ => rfl) (by first | rfl | (simp; done)))) lends_nil)) lends_nil) ?_)
   refine opY rfl rfl rfl rfl (aop_move (av := .pt 3 0) (.inl rfl) rfl rfl rfl ?_)
   refine opY rfl rfl rfl rfl (callL_ (t_Len (rowU l kk i) (by first | omega | (simp; done) | decide | (simp at *; omega))) rfl rfl rfl rfl rfl bd14 (lends_cons (lend_pt rfl (lends_cons (lend_s (id := 4) (n := (rowU l kk i).length) (o := ⟨(enc eT (rowU l kk i)), 59, 2⟩) rfl (enc_len (fun _ => rfl) (by first | rfl | (simp; done)))) lends_nil)) lends_nil) ?_)
   refine opY rfl rfl rfl rfl (aop_eqv (d := 67) (a := .b (((delT (rowK l i) kk).length : Int) != ((rowU l kk i).length : Int))) (b := .b false) (aop_binI (u := (.bool (((delT (rowK l i) kk).length : Int) != ((rowU l kk i).length : Int)))) rfl rfl rfl rfl rfl trivial rfl rfl) (by rw [hi, stop_row]; exact congrArg (fun b_ => AV.v (.bool b_)) (bne_self_eq_false _)) ?_)
   refine opG rfl (aop_pick (b := false) (av := .b false) rfl rfl rfl rfl rfl ?_)
   refine op0 ?_
   refine rs_ (upd (upd (upd (upd (upd (upd none_ 2 (.i now)) 6 (.b false)) 7 (.pt 1 0)) 8 (.pt 3 0)) 9 (.i kk)) 68 (.b false)) (updO (updO (updO (updO (updO (updO noOb 1 (.live ⟨[.sl 2 0 ((rowK l i).length)], 57, 1⟩)) 2 (.live ⟨(enc eT (rowK l i)), 59, 2⟩)) 3 (.live ⟨[.sl 4 0 ((rowU l kk i).length)], 57, 1⟩)) 4 (.live ⟨(enc eT (rowU l kk i)), 59, 2⟩)) 1 (.live ⟨[.sl 2 0 ((delT (rowK l i) kk).length)], 57, 1⟩)) 2 (.live ⟨(enc eT (delT (rowK l i) kk)), 59, 2⟩)) (lu rfl (lu rfl (lu rfl (lu rfl (lu rfl (lu rfl ln)))))) rfl ?_
   refine awp_cond false rfl rfl (fun h => by cases h) (fun _ => ?_)
   refine awp_skip ?_
   refine awp_imp ⟨(upd (upd (upd (upd (upd (upd none_ 2 (.i now)) 6 (.b false)) 7 (.pt 1 0)) 8 (.pt 3 0)) 9 (.i kk)) 68 (.b false)), (updO (updO noOb 1 (.live ⟨[.q eT RX], 57, 1⟩)) 3 (.live ⟨[.q eT RX], 57, 1⟩))⟩ ?_ ?_
   ·skip
    refine (frz_ [1, 3] [(1, ⟨[.q eT (delT (rowK l i) kk)], 57, 1⟩), (3, ⟨[.q eT (rowU l kk i)], 57, 1⟩)] rfl (fun _ h => h) ⟨keep_cells (cs := [.sl 2 0 ((delT (rowK l i) kk).length)]) (by simp) rfl rfl (frzs_cons (.inr (lend_s (id := 2) (n := (delT (rowK l i) kk).length) (o := ⟨(enc eT (delT (rowK l i) kk)), 59, 2⟩) rfl (enc_len (fun _ => rfl) (by first | rfl | (simp; done))))) frzs_nil), keep_cells (cs := [.sl 4 0 ((rowU l kk i).length)]) (by simp) rfl rfl (frzs_cons (.inr (lend_s (id := 4) (n := (rowU l kk i).length) (o := ⟨(enc eT (rowU l kk i)), 59, 2⟩) rfl (enc_len (fun _ => rfl) (by first | rfl | (simp; done))))) frzs_nil), trivial⟩ (fz_same 68 (.b false) rfl (fz_same 9 (.i kk) rfl (fz_same 8 (.pt 3 0) rfl (fz_same 7 (.pt 1 0) rfl (fz_same 6 (.b false) rfl (fz_same 2 (.i now) rfl fz_none))))))).trans ?_
    exact imp_ler [(1, 1), (3, 3)] (lerJ 1 1 3 3 (o := ⟨[.q eT (delT (rowK l i) kk)], 57, 1⟩) (o2 := ⟨[.q eT (rowU l kk i)], 57, 1⟩) (by decide) (by decide) rfl rfl (by rw [hX, hi, stop_row]) (by rw [hX, hi]) (sS rfl (sS rfl (sM rfl (sM rfl (sS rfl (sS rfl sr_none))))))) (keep_of rfl)
   refine seqR ?_
   refine mG (.pt 1 0) ?_
   refine mG (.i now) ?_
   refine opG rfl (callG_ false [1] [57] (t_Ended RX now (by omega)) rfl rfl rfl rfl rfl bd12 (by decide) ⟨giv_no (o := ⟨[.q eT RX], 57, 1⟩) rfl rfl, trivial⟩ ⟨(arg_own (.pt _ _ (by simp)) rfl), (arg_no (a := .i now)), trivial⟩ rfl ⟨rfl, trivial⟩ (fun h => by cases h) rfl (place_cons (ost_no (cs := [.q eT (restL now RX)])) (place_cons (ost_no (cs := (enc eI (idsT (endL now RX))))) place_nil)) ?_)
   refine mG (.pt 3 0) ?_
   refine mG (.i now) ?_
   refine opG rfl (callG_ false [3] [58] (t_Ended RX now (by omega)) rfl rfl rfl rfl rfl bd12 (by decide) ⟨giv_no (o := ⟨[.q eT RX], 57, 1⟩) rfl rfl, trivial⟩ ⟨(arg_own (.pt _ _ (by simp)) rfl), (arg_no (a := .i now)), trivial⟩ rfl ⟨rfl, trivial⟩ (fun h => by cases h) rfl (place_cons (ost_no (cs := [.q eT (restL now RX)])) (place_cons (ost_no (cs := (enc eI (idsT (endL now RX))))) place_nil)) ?_)
   refine mG (.sl 57 0 ((idsT (endL now RX)).length)) ?_
   refine mG (.sl 58 0 ((idsT (endL now RX)).length)) ?_
   refine op0 ?_
   refine rs_ (upd (upd (upd (upd (upd (upd none_ 2 (.i now)) 6 (.b false)) 7 (.pt 1 0)) 9 (.i kk)) 11 (.sl 57 0 ((idsT (endL now RX)).length))) 12 (.sl 58 0 ((idsT (endL now RX)).length))) (updO (updO (updO (updO (updO (updO noOb 1 (.live ⟨[.q eT RX], 57, 1⟩)) 3 (.live ⟨[.q eT RX], 57, 1⟩)) 1 (.live ⟨[.q eT (restL now RX)], 57, 1⟩)) 57 (.live ⟨(enc eI (idsT (endL now RX))), 3, 1⟩)) 3 (.live ⟨[.q eT (restL now RX)], 57, 1⟩)) 58 (.live ⟨(enc eI (idsT (endL now RX))), 3, 1⟩)) (lu rfl (lu rfl (lu rfl (lu rfl (lu rfl (lu rfl ln)))))) rfl ?_
   refine seqR ?_
   refine mG (.pt 1 0) ?_
   refine mG (.i kk) ?_
   refine mG (.i now) ?_
   refine opG rfl (callL_ (t_Left (restL now RX) kk now (by first | omega | (simp; done) | decide | (simp at *; omega))) rfl rfl rfl rfl rfl bd20 (lends_cons (lend_pt rfl (lends_cons (lend_n (av := .q eT (restL now RX))) lends_nil)) (lends_cons (lend_n (av := .i kk)) (lends_cons (lend_n (av := .i now)) lends_nil))) ?_)
   refine mG (.tup [.i (leftT (restL now RX) kk now), .b (hasT (restL now RX) kk)]) ?_
   refine opG rfl (aop_extract rfl rfl rfl rfl rfl ?_)
   refine opG rfl (aop_extract rfl rfl rfl rfl rfl ?_)
   refine mG (.i (leftT (restL now RX) kk now)) ?_
   refine mG (.b (hasT (restL now RX) kk)) ?_
   refine op0 ?_
   refine rs_ (upd (upd (upd (upd (upd none_ 6 (.b false)) 9 (.i kk)) 11 (.sl 57 0 ((idsT (endL now RX)).length))) 12 (.sl 58 0 ((idsT (endL now RX)).length))) 14 (.b (hasT (restL now RX) kk))) (updO (updO (updO (updO (updO (updO noOb 1 (.live ⟨[.q eT RX], 57, 1⟩)) 3 (.live ⟨[.q eT RX], 57, 1⟩)) 1 (.live ⟨[.q eT (restL now RX)], 57, 1⟩)) 57 (.live ⟨(enc eI (idsT (endL now RX))), 3, 1⟩)) 3 (.live ⟨[.q eT (restL now RX)], 57, 1⟩)) 58 (.live ⟨(enc eI (idsT (endL now RX))), 3, 1⟩)) (lu rfl (lu rfl (lu rfl (lu rfl (lu rfl ln))))) rfl ?_
   refine seqR ?_
   refine mG (.sl 57 0 ((idsT (endL now RX)).length)) ?_
   refine mG (.sl 58 0 ((idsT (endL now RX)).length)) ?_
   refine opG rfl (callL_ (r01_Ints (idsT (endL now RX)) (idsT (endL now RX)) (by first | omega | (simp; done) | decide | (simp at *; omega))) rfl rfl rfl rfl rfl bd22 (lends_cons (lend_s (id := 57) (n := (idsT (endL now RX)).length) (o := ⟨(enc eI (idsT (endL now RX))), 3, 1⟩) rfl (enc_len (fun _ => rfl) (by first | rfl | (simp; done)))) (lends_cons (lend_s (id := 58) (n := (idsT (endL now RX)).length) (o := ⟨(enc eI (idsT (endL now RX))), 3, 1⟩) rfl (enc_len (fun _ => rfl) (by first | rfl | (simp; done)))) lends_nil)) ?_)
   refine mG (.b (decide ((idsT (endL now RX)) = (idsT (endL now RX))))) ?_
   refine aops_grp 5 90 (.b ((decide ((idsT (endL now RX)) = (idsT (endL now RX)))) && (!(decide (kk ∈ (idsT (endL now RX))))))) ?_ ?_
   ·refine (Bool.eq_false_or_eq_true (decide ((idsT (endL now RX)) = (idsT (endL now RX))))).elim (fun hg7 => ?_) (fun hg7 => ?_)
    ·skip
     refine opY rfl rfl rfl (by show AV.v (.bool (decide ((idsT (endL now RX)) = (idsT (endL now RX))))) = _; rw [hg7]) (aop_move (av := .sl 57 0 ((idsT (endL now RX)).length)) (.inl rfl) rfl rfl rfl ?_)
     refine opY rfl rfl rfl (by show AV.v (.bool (decide ((idsT (endL now RX)) = (idsT (endL now RX))))) = _; rw [hg7]) (aop_move (av := .i kk) (.inl rfl) rfl rfl rfl ?_)
     refine opY rfl rfl rfl (by show AV.v (.bool (decide ((idsT (endL now RX)) = (idsT (endL now RX))))) = _; rw [hg7]) (callL_ (r01_Has (idsT (endL now RX)) kk (by first | omega | (simp; done) | decide | (simp at *; omega))) rfl rfl rfl rfl rfl bd23 (lends_cons (lend_s (id := 57) (n := (idsT (endL now RX)).length) (o := ⟨(enc eI (idsT (endL now RX))), 3, 1⟩) rfl (enc_len (fun _ => rfl) (by first | rfl | (simp; done)))) (lends_cons (lend_n (av := .i kk)) lends_nil)) ?_)
     refine opY rfl rfl rfl (by show AV.v (.bool (decide ((idsT (endL now RX)) = (idsT (endL now RX))))) = _; rw [hg7]) (aop_not rfl rfl rfl rfl ?_)
     refine opG rfl (aop_pick (b := (decide ((idsT (endL now RX)) = (idsT (endL now RX))))) (av := .b (!(decide (kk ∈ (idsT (endL now RX)))))) rfl rfl rfl rfl ((congrArg (fun b_ => cond b_ _ _) hg7).trans rfl) ?_)
     refine op0 ?_
     exact imp_env (lee_both 90 _ _ (by rw [hg7] <;> rfl) (lee_out 89 _ rfl (lee_out 88 _ rfl (lee_out 87 _ rfl (lee_out 86 _ rfl (lee_same _))))))
    ·skip
     refine nG hg7 ?_
     refine nG hg7 ?_
     refine nG hg7 ?_
     refine nG hg7 ?_
     refine opG rfl (aop_pick (b := (decide ((idsT (endL now RX)) = (idsT (endL now RX))))) (av := .b false) rfl rfl rfl rfl ((congrArg (fun b_ => cond b_ _ _) hg7).trans rfl) ?_)
     refine op0 ?_
     exact imp_env (lee_both 90 _ _ (by rw [hg7] <;> rfl) (lee_out 89 _ rfl (lee_out 88 _ rfl (lee_out 87 _ rfl (lee_out 86 _ rfl (lee_same _))))))
   refine mG (.b ((decide ((idsT (endL now RX)) = (idsT (endL now RX)))) && (!(decide (kk ∈ (idsT (endL now RX))))))) ?_
   refine aops_grp 3 94 (.b (((decide ((idsT (endL now RX)) = (idsT (endL now RX)))) && (!(decide (kk ∈ (idsT (endL now RX)))))) && (!(hasT (restL now RX) kk)))) ?_ ?_
   ·refine (Bool.eq_false_or_eq_true ((decide ((idsT (endL now RX)) = (idsT (endL now RX)))) && (!(decide (kk ∈ (idsT (endL now RX))))))).elim (fun hg8 => ?_) (fun hg8 => ?_)
    ·skip
     obtain ⟨hf9a, hf9b⟩ := and_t hg8
     have hf10 := not_t hf9b
     refine opY rfl rfl rfl (by show AV.v (.bool ((decide ((idsT (endL now RX)) = (idsT (endL now RX)))) && (!(decide (kk ∈ (idsT (endL now RX))))))) = _; rw [hg8]) (aop_move (av := .b (hasT (restL now RX) kk)) (.inl rfl) rfl rfl rfl ?_)
     refine opY rfl rfl rfl (by show AV.v (.bool ((decide ((idsT (endL now RX)) = (idsT (endL now RX)))) && (!(decide (kk ∈ (idsT (endL now RX))))))) = _; rw [hg8]) (aop_not rfl rfl rfl rfl ?_)
     refine opG rfl (aop_pick (b := ((decide ((idsT (endL now RX)) = (idsT (endL now RX)))) && (!(decide (kk ∈ (idsT (endL now RX))))))) (av := .b (!(hasT (restL now RX) kk))) rfl rfl rfl rfl ((congrArg (fun b_ => cond b_ _ _) hg8).trans rfl) ?_)
     refine op0 ?_
     exact imp_env (lee_both 94 _ _ (by rw [hg8] <;> rfl) (lee_out 93 _ rfl (lee_out 92 _ rfl (lee_same _))))
    ·skip
     refine nG hg8 ?_
     refine nG hg8 ?_
     refine opG rfl (aop_pick (b := ((decide ((idsT (endL now RX)) = (idsT (endL now RX)))) && (!(decide (kk ∈ (idsT (endL now RX))))))) (av := .b false) rfl rfl rfl rfl ((congrArg (fun b_ => cond b_ _ _) hg8).trans rfl) ?_)
     refine op0 ?_
     exact imp_env (lee_both 94 _ _ (by rw [hg8] <;> rfl) (lee_out 93 _ rfl (lee_out 92 _ rfl (lee_same _))))
   refine mG (.b (((decide ((idsT (endL now RX)) = (idsT (endL now RX)))) && (!(decide (kk ∈ (idsT (endL now RX)))))) && (!(hasT (restL now RX) kk)))) ?_
   refine op0 ?_
   refine rs_ (upd none_ 6 (.b (((decide ((idsT (endL now RX)) = (idsT (endL now RX)))) && (!(decide (kk ∈ (idsT (endL now RX)))))) && (!(hasT (restL now RX) kk))))) (updO (updO (updO (updO (updO (updO noOb 1 (.live ⟨[.q eT RX], 57, 1⟩)) 3 (.live ⟨[.q eT RX], 57, 1⟩)) 1 (.live ⟨[.q eT (restL now RX)], 57, 1⟩)) 57 (.live ⟨(enc eI (idsT (endL now RX))), 3, 1⟩)) 3 (.live ⟨[.q eT (restL now RX)], 57, 1⟩)) 58 (.live ⟨(enc eI (idsT (endL now RX))), 3, 1⟩)) (lu rfl ln) rfl ?_
   refine awp_ret ?_
   exact fret (av := .v (.bool (((decide ((idsT (endL now RX)) = (idsT (endL now RX)))) && (!(decide (kk ∈ (idsT (endL now RX)))))) && (!(hasT (restL now RX) kk))))) rfl rfl (by first | rw [stops_val hX] | rfl)
end Go.Lo
