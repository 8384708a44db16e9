/- Walks of Go functions in the logic of values. -/
import Derived.Test.YthfmdljohlolpaaFnBTy
import Derived.Test.YthfmdljohlolpaaDef
import Derived.Test.YthfmdljohlolpaaRi
import Derived.Test.YthfmdljohlolpaaTd
import Derived.Test.YthfmdljohlolpaaTc
import Derived.Test.YthfmdljohlolpaaFnA
set_option linter.unusedVariables false
set_option linter.unusedSimpArgs false
set_option maxRecDepth 10000
set_option maxHeartbeats 16000000
namespace Go.Lo
open Go.Proofs
theorem r01_Rise (l : List Int) (hl : l.length ≤ 65536) : FnO Try.prog 13 [.ro l.length (enc eI l)] (.sl 0 0 ((riseL l).length)) [⟨(enc eI (riseL l)), 3, 1⟩] := by
 refine fnE_of_body (N := 54) Try.func13 rfl rfl (resOf1 rfl) (by simp) (fun w0 X hL_ => ?_)
 refine seqR ?_
 refine mG (.v (.slice none 0 0)) ?_
 refine op0 ?_
 refine seqR ?_
 refine mG (.v (.slice none 0 0)) ?_
 refine op0 ?_
 refine awp_block ?_
 refine awp_countI (fun k => ⟨(upd (upd (upd none_ 0 (.q eI l)) 2 (.v (.slice none 0 0))) 3 (.sl 1 0 ((riseK l k).length))), (updO noOb 1 (.live ⟨(enc eI (riseK l k)), 3, 1⟩))⟩) (fun k => (riseK l k).length = k ∧ k ≤ l.length) (l.length + 1) ?_ ⟨rfl, Nat.zero_le _⟩ (fun k hk_k hinv => ?_)
 ·skip
  refine (imp_adopt 3 51 3 1 rfl rfl).trans ?_
  exact iI 51 1 (o := ⟨[], 3, 1⟩) rfl
 have hk1 := hinv.1
 have hk2 := hinv.2
 refine awp_block ?_
 refine seqR ?_
 refine mG (.i (-1)) ?_
 refine op0 ?_
 refine awp_seq ?_
 refine seqR ?_
 refine mG (.i 0) ?_
 refine op0 ?_
 refine awp_block ?_
 refine awp_countI (fun i => ⟨(upd (upd (upd (upd (upd none_ 0 (.q eI l)) 2 (.v (.slice none 0 0))) 3 (.sl 1 0 ((riseK l k).length))) 4 (.i (bestK l (riseK l k) i))) 5 (.i (i : Int))), (updO noOb 1 (.live ⟨(enc eI (riseK l k)), 3, 1⟩))⟩) (fun i => True) (l.length) ?_ trivial (fun i hk_i hinv => ?_)
 ·skip
  exact iI 1 1 rfl
 have hix : (((riseK l k).length : Int) - 1).toNat = (riseK l k).length - 1 := by omega
 have hbr := bestK_range l (riseK l k) i
 refine awp_seq ?_
 refine seqR ?_
 refine mG (.i (i : Int)) ?_
 refine mG (.q eI l) ?_
 refine opG rfl (aop_len rfl rfl rfl rfl ut28 (len_ro rfl) ?_)
 refine bG ((.bool (decide ((i : Int) < (l.length : Int))))) ?_
 refine op0 ?_
 refine rT (upd (upd (upd (upd (upd (upd none_ 0 (.q eI l)) 2 (.v (.slice none 0 0))) 3 (.sl 1 0 ((riseK l k).length))) 4 (.i (bestK l (riseK l k) i))) 5 (.i (i : Int))) 9 (.b (decide ((i : Int) < (l.length : Int))))) (updO noOb 1 (.live ⟨(enc eI (riseK l k)), 3, 1⟩)) ?_
 refine awp_cond (decide ((i : Int) < (l.length : Int))) rfl rfl (fun hc0 => ?_) (fun hc0 => ?_)
 ·skip
  have hf1 := of_decide_eq_true hc0
  refine awp_skip ?_
  refine awp_seq ?_
  refine awp_block ?_
  refine awp_seq ?_
  refine (Bool.eq_false_or_eq_true (((riseK l k).length : Int) == 0)).elim (fun hg2 => ?_) (fun hg2 => ?_)
  ·skip
   have hf3 := (beq_iff_eq).1 hg2
   refine (Bool.eq_false_or_eq_true (decide ((bestK l (riseK l k) i) < 0))).elim (fun hg4 => ?_) (fun hg4 => ?_)
   ·skip
    have hf5 := of_decide_eq_true hg4
    refine awp_draw (m := 31) [(42, .b true), (41, .b true), (40, .v undef), (39, .v undef), (38, .v undef), (37, .v undef), (36, .v undef), (35, .v undef), (34, .v undef), (33, .v undef), (32, .v undef), (31, .b (decide ((bestK l (riseK l k) i) < 0))), (30, .b (decide ((bestK l (riseK l k) i) < 0))), (29, .i (bestK l (riseK l k) i)), (28, .b true), (27, .b true), (26, .v undef), (25, .v undef), (24, .v undef), (23, .v undef), (22, .v undef), (21, .v undef), (20, .v undef), (19, .v undef), (18, .v undef), (17, .v undef), (16, .v undef), (15, .b (((riseK l k).length : Int) == 0)), (14, .b (((riseK l k).length : Int) == 0)), (13, .i ((riseK l k).length : Int)), (12, .sl 1 0 ((riseK l k).length))] mixed (by kernel_rfl) ?_ ?_
    ·refine ⟨?_, ?_, ?_, ?_, ?_, ?_, ?_, ?_, ?_, ?_, ?_, ?_, ?_, ?_, ?_, ?_, ?_, ?_, ?_, ?_, ?_, ?_, ?_, ?_, ?_, ?_, ?_, ?_, ?_, ?_, ?_, trivial⟩
     ·exact sMv
     ·exact ⟨13, rfl, blt_lt rfl, fun st hob hE => aop_len rfl rfl rfl rfl ut28 (len_sl (hE 12 rfl)) (by rw [hob]; rfl)⟩
     ·exact ⟨14, rfl, blt_lt rfl, fun st hob hE => aop_binI (u := (.bool (((riseK l k).length : Int) == 0))) rfl rfl rfl (hE 13 rfl) rfl trivial rfl (by rw [hob]; rfl)⟩
     ·exact sMv
     ·exact gn0 hg2
     ·exact gn0 hg2
     ·exact gn0 hg2
     ·exact gn0 hg2
     ·exact gn0 hg2
     ·exact gn0 hg2
     ·exact gn0 hg2
     ·exact gn0 hg2
     ·exact gn0 hg2
     ·exact gn0 hg2
     ·exact gn0 hg2
     ·exact ⟨27, rfl, blt_lt rfl, fun st hob hE => aop_pick (b := (((riseK l k).length : Int) == 0)) (av := .b true) rfl rfl rfl (hE 15 rfl) (by rw [hg2]; rfl) (by rw [hob]; rfl)⟩
     ·exact sMv
     ·exact gy1 rfl sMv
     ·exact gy1 rfl ⟨30, rfl, blt_lt rfl, fun st hob hE => aop_binI (u := (.bool (decide ((bestK l (riseK l k) i) < 0)))) rfl rfl rfl (hE 29 rfl) rfl trivial rfl (by rw [hob]; rfl)⟩
     ·exact gy1 rfl sMv
     ·exact gn0 hg4
     ·exact gn0 hg4
     ·exact gn0 hg4
     ·exact gn0 hg4
     ·exact gn0 hg4
     ·exact gn0 hg4
     ·exact gn0 hg4
     ·exact gn0 hg4
     ·exact gn0 hg4
     ·exact gy1 rfl ⟨41, rfl, blt_lt rfl, fun st hob hE => aop_pick (b := (decide ((bestK l (riseK l k) i) < 0))) (av := .b true) rfl rfl rfl (hE 31 rfl) (by rw [hg4]; rfl) (by rw [hob]; rfl)⟩
     ·exact ⟨42, rfl, blt_lt rfl, fun st hob hE => aop_pick (b := true) (av := .b true) rfl rfl rfl (hE 28 rfl) (hE 41 rfl) (by rw [hob]; rfl)⟩
    refine op0 ?_
    refine awp_cond true rfl rfl (fun _ => ?_) (fun h => by cases h)
    refine regR ?_
    refine mG (.i (i : Int)) ?_
    refine mG (.i (i : Int)) ?_
    refine op0 ?_
    refine regR ?_
    refine mG (.i (i : Int)) ?_
    refine opG rfl (aop_binI (u := (.int .i64 ((i + 1 : Nat) : Int))) rfl rfl rfl rfl rfl trivial (addN (by omega)) ?_)
    refine mG (.i ((i + 1 : Nat) : Int)) ?_
    refine op0 ?_
    show _ ∧ _
    refine ⟨by omega, trivial, ?_⟩
    exact iI 1 1 rfl (he := (sS rfl (sS (by exact congrArg (fun n_ : Int => AV.v (.int .i64 n_)) (by first | exact (bestK_on (by simp only [riseC, Bool.and_eq_true, Bool.or_eq_true, Bool.and_eq_false_iff, Bool.or_eq_false_iff, decide_eq_true_eq, decide_eq_false_iff_not]; rw [← hix]; omega)).symm | exact (bestK_off (by simp only [riseC, Bool.and_eq_true, Bool.or_eq_true, Bool.and_eq_false_iff, Bool.or_eq_false_iff, decide_eq_true_eq, decide_eq_false_iff_not]; rw [← hix]; omega)).symm)) (sM rfl (sS rfl (sS rfl sr_none))))))
   ·skip
    have hf6 := of_decide_eq_false hg4
    refine awp_draw (m := 31) [(42, .b (decide ((l.getD i 0) < (l.getD (bestK l (riseK l k) i).toNat 0)))), (41, .b (decide ((l.getD i 0) < (l.getD (bestK l (riseK l k) i).toNat 0)))), (40, .b (decide ((l.getD i 0) < (l.getD (bestK l (riseK l k) i).toNat 0)))), (39, .i (l.getD (bestK l (riseK l k) i).toNat 0)), (38, .rp (([.i (l.getD (bestK l (riseK l k) i).toNat 0)] : List AV) ++ ((enc eI l).drop (((bestK l (riseK l k) i).toNat + 1) * 1)))), (37, .i (bestK l (riseK l k) i)), (36, .q eI l), (35, .i (l.getD i 0)), (34, .rp (([.i (l.getD i 0)] : List AV) ++ ((enc eI l).drop ((i + 1) * 1)))), (33, .i (i : Int)), (32, .q eI l), (31, .b (decide ((bestK l (riseK l k) i) < 0))), (30, .b (decide ((bestK l (riseK l k) i) < 0))), (29, .i (bestK l (riseK l k) i)), (28, .b true), (27, .b true), (26, .v undef), (25, .v undef), (24, .v undef), (23, .v undef), (22, .v undef), (21, .v undef), (20, .v undef), (19, .v undef), (18, .v undef), (17, .v undef), (16, .v undef), (15, .b (((riseK l k).length : Int) == 0)), (14, .b (((riseK l k).length : Int) == 0)), (13, .i ((riseK l k).length : Int)), (12, .sl 1 0 ((riseK l k).length))] mixed (by kernel_rfl) ?_ ?_
    ·refine ⟨?_, ?_, ?_, ?_, ?_, ?_, ?_, ?_, ?_, ?_, ?_, ?_, ?_, ?_, ?_, ?_, ?_, ?_, ?_, ?_, ?_, ?_, ?_, ?_, ?_, ?_, ?_, ?_, ?_, ?_, ?_, trivial⟩
     ·exact sMv
     ·exact ⟨13, rfl, blt_lt rfl, fun st hob hE => aop_len rfl rfl rfl rfl ut28 (len_sl (hE 12 rfl)) (by rw [hob]; rfl)⟩
     ·exact ⟨14, rfl, blt_lt rfl, fun st hob hE => aop_binI (u := (.bool (((riseK l k).length : Int) == 0))) rfl rfl rfl (hE 13 rfl) rfl trivial rfl (by rw [hob]; rfl)⟩
     ·exact sMv
     ·exact gn0 hg2
     ·exact gn0 hg2
     ·exact gn0 hg2
     ·exact gn0 hg2
     ·exact gn0 hg2
     ·exact gn0 hg2
     ·exact gn0 hg2
     ·exact gn0 hg2
     ·exact gn0 hg2
     ·exact gn0 hg2
     ·exact gn0 hg2
     ·exact ⟨27, rfl, blt_lt rfl, fun st hob hE => aop_pick (b := (((riseK l k).length : Int) == 0)) (av := .b true) rfl rfl rfl (hE 15 rfl) (by rw [hg2]; rfl) (by rw [hob]; rfl)⟩
     ·exact sMv
     ·exact gy1 rfl sMv
     ·exact gy1 rfl ⟨30, rfl, blt_lt rfl, fun st hob hE => aop_binI (u := (.bool (decide ((bestK l (riseK l k) i) < 0)))) rfl rfl rfl (hE 29 rfl) rfl trivial rfl (by rw [hob]; rfl)⟩
     ·exact gy1 rfl sMv
     ·exact gy0 hg4 sMv
     ·exact gy0 hg4 sMv
     ·exact gy0 hg4 (sIx (0 : Int) ut28 sz3)
     ·exact gy0 hg4 (sLd ag3)
     ·exact gy0 hg4 sMv
     ·exact gy0 hg4 sMv
     ·exact gy0 hg4 ⟨38, rfl, blt_lt rfl, fun st hob hE => aop_ixI 0 rfl rfl rfl ut28 sz3 (hE 36 rfl) (hE 37 rfl) (fun _ => rfl) rfl (by omega) (by first | omega | (simp; done) | decide | (simp at *; omega)) (by rw [hob]; rfl)⟩
     ·exact gy0 hg4 (sLd ag3)
     ·exact gy0 hg4 ⟨40, rfl, blt_lt rfl, fun st hob hE => aop_binI (u := (.bool (decide ((l.getD i 0) < (l.getD (bestK l (riseK l k) i).toNat 0))))) rfl rfl rfl (hE 35 rfl) (hE 39 rfl) trivial rfl (by rw [hob]; rfl)⟩
     ·exact gy1 rfl ⟨41, rfl, blt_lt rfl, fun st hob hE => aop_pick (b := (decide ((bestK l (riseK l k) i) < 0))) (av := .b (decide ((l.getD i 0) < (l.getD (bestK l (riseK l k) i).toNat 0)))) rfl rfl rfl (hE 31 rfl) (by rw [hg4]; exact hE 40 rfl) (by rw [hob]; rfl)⟩
     ·exact ⟨42, rfl, blt_lt rfl, fun st hob hE => aop_pick (b := true) (av := .b (decide ((l.getD i 0) < (l.getD (bestK l (riseK l k) i).toNat 0)))) rfl rfl rfl (hE 28 rfl) (hE 41 rfl) (by rw [hob]; rfl)⟩
    refine op0 ?_
    refine awp_cond (decide ((l.getD i 0) < (l.getD (bestK l (riseK l k) i).toNat 0))) rfl rfl (fun hc1 => ?_) (fun hc1 => ?_)
    ·skip
     have hf7 := of_decide_eq_true hc1
     refine regR ?_
     refine mG (.i (i : Int)) ?_
     refine mG (.i (i : Int)) ?_
     refine op0 ?_
     refine regR ?_
     refine mG (.i (i : Int)) ?_
     refine opG rfl (aop_binI (u := (.int .i64 ((i + 1 : Nat) : Int))) rfl rfl rfl rfl rfl trivial (addN (by omega)) ?_)
     refine mG (.i ((i + 1 : Nat) : Int)) ?_
     refine op0 ?_
     show _ ∧ _
     refine ⟨by omega, trivial, ?_⟩
     exact iI 1 1 rfl (he := (sS rfl (sS (by exact congrArg (fun n_ : Int => AV.v (.int .i64 n_)) (by first | exact (bestK_on (by simp only [riseC, Bool.and_eq_true, Bool.or_eq_true, Bool.and_eq_false_iff, Bool.or_eq_false_iff, decide_eq_true_eq, decide_eq_false_iff_not]; rw [← hix]; omega)).symm | exact (bestK_off (by simp only [riseC, Bool.and_eq_true, Bool.or_eq_true, Bool.and_eq_false_iff, Bool.or_eq_false_iff, decide_eq_true_eq, decide_eq_false_iff_not]; rw [← hix]; omega)).symm)) (sM rfl (sS rfl (sS rfl sr_none))))))
    ·skip
     have hf8 := of_decide_eq_false hc1
     refine awp_skip ?_
     refine regR ?_
     refine mG (.i (i : Int)) ?_
     refine opG rfl (aop_binI (u := (.int .i64 ((i + 1 : Nat) : Int))) rfl rfl rfl rfl rfl trivial (addN (by omega)) ?_)
     refine mG (.i ((i + 1 : Nat) : Int)) ?_
     refine op0 ?_
     show _ ∧ _
     refine ⟨by omega, trivial, ?_⟩
     exact iI 1 1 rfl (he := (sS rfl (sS (by exact congrArg (fun n_ : Int => AV.v (.int .i64 n_)) (by first | exact (bestK_on (by simp only [riseC, Bool.and_eq_true, Bool.or_eq_true, Bool.and_eq_false_iff, Bool.or_eq_false_iff, decide_eq_true_eq, decide_eq_false_iff_not]; rw [← hix]; omega)).symm | exact (bestK_off (by simp only [riseC, Bool.and_eq_true, Bool.or_eq_true, Bool.and_eq_false_iff, Bool.or_eq_false_iff, decide_eq_true_eq, decide_eq_false_iff_not]; rw [← hix]; omega)).symm)) (sM rfl (sS rfl (sS rfl sr_none))))))
  ·skip
   have hf9 := (beq_eq_false_iff_ne).1 hg2
   refine (Bool.eq_false_or_eq_true (decide ((l.getD i 0) > ((riseK l k).getD ((((riseK l k).length : Int) - 1).toNat) 0)))).elim (fun hg10 => ?_) (fun hg10 => ?_)
   ·skip
    have hf11 := of_decide_eq_true hg10
    refine (Bool.eq_false_or_eq_true (decide ((bestK l (riseK l k) i) < 0))).elim (fun hg12 => ?_) (fun hg12 => ?_)
    ·skip
     have hf13 := of_decide_eq_true hg12
     refine awp_draw (m := 31) [(42, .b true), (41, .b true), (40, .v undef), (39, .v undef), (38, .v undef), (37, .v undef), (36, .v undef), (35, .v undef), (34, .v undef), (33, .v undef), (32, .v undef), (31, .b (decide ((bestK l (riseK l k) i) < 0))), (30, .b (decide ((bestK l (riseK l k) i) < 0))), (29, .i (bestK l (riseK l k) i)), (28, .b (decide ((l.getD i 0) > ((riseK l k).getD ((((riseK l k).length : Int) - 1).toNat) 0)))), (27, .b (decide ((l.getD i 0) > ((riseK l k).getD ((((riseK l k).length : Int) - 1).toNat) 0)))), (26, .b (decide ((l.getD i 0) > ((riseK l k).getD ((((riseK l k).length : Int) - 1).toNat) 0)))), (25, .i ((riseK l k).getD ((((riseK l k).length : Int) - 1).toNat) 0)), (24, .pt 1 ((((riseK l k).length : Int) - 1).toNat * 1)), (23, .i (((riseK l k).length : Int) - 1)), (22, .i ((riseK l k).length : Int)), (21, .sl 1 0 ((riseK l k).length)), (20, .sl 1 0 ((riseK l k).length)), (19, .i (l.getD i 0)), (18, .rp (([.i (l.getD i 0)] : List AV) ++ ((enc eI l).drop ((i + 1) * 1)))), (17, .i (i : Int)), (16, .q eI l), (15, .b (((riseK l k).length : Int) == 0)), (14, .b (((riseK l k).length : Int) == 0)), (13, .i ((riseK l k).length : Int)), (12, .sl 1 0 ((riseK l k).length))] mixed (by kernel_rfl) ?_ ?_
     ·refine ⟨?_, ?_, ?_, ?_, ?_, ?_, ?_, ?_, ?_, ?_, ?_, ?_, ?_, ?_, ?_, ?_, ?_, ?_, ?_, ?_, ?_, ?_, ?_, ?_, ?_, ?_, ?_, ?_, ?_, ?_, ?_, trivial⟩
      ·exact sMv
      ·exact ⟨13, rfl, blt_lt rfl, fun st hob hE => aop_len rfl rfl rfl rfl ut28 (len_sl (hE 12 rfl)) (by rw [hob]; rfl)⟩
      ·exact ⟨14, rfl, blt_lt rfl, fun st hob hE => aop_binI (u := (.bool (((riseK l k).length : Int) == 0))) rfl rfl rfl (hE 13 rfl) rfl trivial rfl (by rw [hob]; rfl)⟩
      ·exact sMv
      ·exact gy0 hg2 sMv
      ·exact gy0 hg2 sMv
      ·exact gy0 hg2 (sIx (0 : Int) ut28 sz3)
      ·exact gy0 hg2 (sLd ag3)
      ·exact gy0 hg2 sMv
      ·exact gy0 hg2 sMv
      ·exact gy0 hg2 ⟨22, rfl, blt_lt rfl, fun st hob hE => aop_len rfl rfl rfl rfl ut28 (len_sl (hE 21 rfl)) (by rw [hob]; rfl)⟩
      ·exact gy0 hg2 ⟨23, rfl, blt_lt rfl, fun st hob hE => aop_binI (u := (.int .i64 (((riseK l k).length : Int) - 1))) rfl rfl rfl (hE 22 rfl) rfl trivial (subI (by omega)) (by rw [hob]; rfl)⟩
      ·exact gy0 hg2 ⟨24, rfl, blt_lt rfl, fun st hob hE => aop_ixOI rfl rfl rfl ut28 sz3 (hE 20 rfl) (hE 23 rfl) (by omega) (by first | omega | (simp; done) | decide | (simp at *; omega)) (by rw [hob]; rfl)⟩
      ·exact gy0 hg2 ⟨25, rfl, blt_lt rfl, fun st hob hE => aop_ldO (f := eI) (l := riseK l k) 0 rfl rfl rfl ag3 (hE 24 rfl) (by rw [hob]; rfl) rfl (fun _ => rfl) (by first | omega | (simp; done) | decide | (simp at *; omega)) rfl (by rw [hob]; rfl)⟩
      ·exact gy0 hg2 ⟨26, rfl, blt_lt rfl, fun st hob hE => aop_binI (u := (.bool (decide ((l.getD i 0) > ((riseK l k).getD ((((riseK l k).length : Int) - 1).toNat) 0))))) rfl rfl rfl (hE 19 rfl) (hE 25 rfl) trivial rfl (by rw [hob]; rfl)⟩
      ·exact ⟨27, rfl, blt_lt rfl, fun st hob hE => aop_pick (b := (((riseK l k).length : Int) == 0)) (av := .b (decide ((l.getD i 0) > ((riseK l k).getD ((((riseK l k).length : Int) - 1).toNat) 0)))) rfl rfl rfl (hE 15 rfl) (by rw [hg2]; exact hE 26 rfl) (by rw [hob]; rfl)⟩
      ·exact sMv
      ·exact gy1 hg10 sMv
      ·exact gy1 hg10 ⟨30, rfl, blt_lt rfl, fun st hob hE => aop_binI (u := (.bool (decide ((bestK l (riseK l k) i) < 0)))) rfl rfl rfl (hE 29 rfl) rfl trivial rfl (by rw [hob]; rfl)⟩
      ·exact gy1 hg10 sMv
      ·exact gn0 hg12
      ·exact gn0 hg12
      ·exact gn0 hg12
      ·exact gn0 hg12
      ·exact gn0 hg12
      ·exact gn0 hg12
      ·exact gn0 hg12
      ·exact gn0 hg12
      ·exact gn0 hg12
      ·exact gy1 hg10 ⟨41, rfl, blt_lt rfl, fun st hob hE => aop_pick (b := (decide ((bestK l (riseK l k) i) < 0))) (av := .b true) rfl rfl rfl (hE 31 rfl) (by rw [hg12]; rfl) (by rw [hob]; rfl)⟩
      ·exact ⟨42, rfl, blt_lt rfl, fun st hob hE => aop_pick (b := (decide ((l.getD i 0) > ((riseK l k).getD ((((riseK l k).length : Int) - 1).toNat) 0)))) (av := .b true) rfl rfl rfl (hE 28 rfl) (by rw [hg10]; exact hE 41 rfl) (by rw [hob]; rfl)⟩
     refine op0 ?_
     refine awp_cond true rfl rfl (fun _ => ?_) (fun h => by cases h)
     refine regR ?_
     refine mG (.i (i : Int)) ?_
     refine mG (.i (i : Int)) ?_
     refine op0 ?_
     refine regR ?_
     refine mG (.i (i : Int)) ?_
     refine opG rfl (aop_binI (u := (.int .i64 ((i + 1 : Nat) : Int))) rfl rfl rfl rfl rfl trivial (addN (by omega)) ?_)
     refine mG (.i ((i + 1 : Nat) : Int)) ?_
     refine op0 ?_
     show _ ∧ _
     refine ⟨by omega, trivial, ?_⟩
     exact iI 1 1 rfl (he := (sS rfl (sS (by exact congrArg (fun n_ : Int => AV.v (.int .i64 n_)) (by first | exact (bestK_on (by simp only [riseC, Bool.and_eq_true, Bool.or_eq_true, Bool.and_eq_false_iff, Bool.or_eq_false_iff, decide_eq_true_eq, decide_eq_false_iff_not]; rw [← hix]; omega)).symm | exact (bestK_off (by simp only [riseC, Bool.and_eq_true, Bool.or_eq_true, Bool.and_eq_false_iff, Bool.or_eq_false_iff, decide_eq_true_eq, decide_eq_false_iff_not]; rw [← hix]; omega)).symm)) (sM rfl (sS rfl (sS rfl sr_none))))))
    ·skip
     have hf14 := of_decide_eq_false hg12
     refine awp_draw (m := 31) [(42, .b (decide ((l.getD i 0) < (l.getD (bestK l (riseK l k) i).toNat 0)))), (41, .b (decide ((l.getD i 0) < (l.getD (bestK l (riseK l k) i).toNat 0)))), (40, .b (decide ((l.getD i 0) < (l.getD (bestK l (riseK l k) i).toNat 0)))), (39, .i (l.getD (bestK l (riseK l k) i).toNat 0)), (38, .rp (([.i (l.getD (bestK l (riseK l k) i).toNat 0)] : List AV) ++ ((enc eI l).drop (((bestK l (riseK l k) i).toNat + 1) * 1)))), (37, .i (bestK l (riseK l k) i)), (36, .q eI l), (35, .i (l.getD i 0)), (34, .rp (([.i (l.getD i 0)] : List AV) ++ ((enc eI l).drop ((i + 1) * 1)))), (33, .i (i : Int)), (32, .q eI l), (31, .b (decide ((bestK l (riseK l k) i) < 0))), (30, .b (decide ((bestK l (riseK l k) i) < 0))), (29, .i (bestK l (riseK l k) i)), (28, .b (decide ((l.getD i 0) > ((riseK l k).getD ((((riseK l k).length : Int) - 1).toNat) 0)))), (27, .b (decide ((l.getD i 0) > ((riseK l k).getD ((((riseK l k).length : Int) - 1).toNat) 0)))), (26, .b (decide ((l.getD i 0) > ((riseK l k).getD ((((riseK l k).length : Int) - 1).toNat) 0)))), (25, .i ((riseK l k).getD ((((riseK l k).length : Int) - 1).toNat) 0)), (24, .pt 1 ((((riseK l k).length : Int) - 1).toNat * 1)), (23, .i (((riseK l k).length : Int) - 1)), (22, .i ((riseK l k).length : Int)), (21, .sl 1 0 ((riseK l k).length)), (20, .sl 1 0 ((riseK l k).length)), (19, .i (l.getD i 0)), (18, .rp (([.i (l.getD i 0)] : List AV) ++ ((enc eI l).drop ((i + 1) * 1)))), (17, .i (i : Int)), (16, .q eI l), (15, .b (((riseK l k).length : Int) == 0)), (14, .b (((riseK l k).length : Int) == 0)), (13, .i ((riseK l k).length : Int)), (12, .sl 1 0 ((riseK l k).length))] mixed (by kernel_rfl) ?_ ?_
     ·refine ⟨?_, ?_, ?_, ?_, ?_, ?_, ?_, ?_, ?_, ?_, ?_, ?_, ?_, ?_, ?_, ?_, ?_, ?_, ?_, ?_, ?_, ?_, ?_, ?_, ?_, ?_, ?_, ?_, ?_, ?_, ?_, trivial⟩
      ·exact sMv
      ·exact ⟨13, rfl, blt_lt rfl, fun st hob hE => aop_len rfl rfl rfl rfl ut28 (len_sl (hE 12 rfl)) (by rw [hob]; rfl)⟩
      ·exact ⟨14, rfl, blt_lt rfl, fun st hob hE => aop_binI (u := (.bool (((riseK l k).length : Int) == 0))) rfl rfl rfl (hE 13 rfl) rfl trivial rfl (by rw [hob]; rfl)⟩
      ·exact sMv
      ·exact gy0 hg2 sMv
      ·exact gy0 hg2 sMv
      ·exact gy0 hg2 (sIx (0 : Int) ut28 sz3)
      ·exact gy0 hg2 (sLd ag3)
      ·exact gy0 hg2 sMv
      ·exact gy0 hg2 sMv
      ·exact gy0 hg2 ⟨22, rfl, blt_lt rfl, fun st hob hE => aop_len rfl rfl rfl rfl ut28 (len_sl (hE 21 rfl)) (by rw [hob]; rfl)⟩
      ·exact gy0 hg2 ⟨23, rfl, blt_lt rfl, fun st hob hE => aop_binI (u := (.int .i64 (((riseK l k).length : Int) - 1))) rfl rfl rfl (hE 22 rfl) rfl trivial (subI (by omega)) (by rw [hob]; rfl)⟩
      ·exact gy0 hg2 ⟨24, rfl, blt_lt rfl, fun st hob hE => aop_ixOI rfl rfl rfl ut28 sz3 (hE 20 rfl) (hE 23 rfl) (by omega) (by first | omega | (simp; done) | decide | (simp at *; omega)) (by rw [hob]; rfl)⟩
      ·exact gy0 hg2 ⟨25, rfl, blt_lt rfl, fun st hob hE => aop_ldO (f := eI) (l := riseK l k) 0 rfl rfl rfl ag3 (hE 24 rfl) (by rw [hob]; rfl) rfl (fun _ => rfl) (by first | omega | (simp; done) | decide | (simp at *; omega)) rfl (by rw [hob]; rfl)⟩
      ·exact gy0 hg2 ⟨26, rfl, blt_lt rfl, fun st hob hE => aop_binI (u := (.bool (decide ((l.getD i 0) > ((riseK l k).getD ((((riseK l k).length : Int) - 1).toNat) 0))))) rfl rfl rfl (hE 19 rfl) (hE 25 rfl) trivial rfl (by rw [hob]; rfl)⟩
      ·exact ⟨27, rfl, blt_lt rfl, fun st hob hE => aop_pick (b := (((riseK l k).length : Int) == 0)) (av := .b (decide ((l.getD i 0) > ((riseK l k).getD ((((riseK l k).length : Int) - 1).toNat) 0)))) rfl rfl rfl (hE 15 rfl) (by rw [hg2]; exact hE 26 rfl) (by rw [hob]; rfl)⟩
      ·exact sMv
      ·exact gy1 hg10 sMv
      ·exact gy1 hg10 ⟨30, rfl, blt_lt rfl, fun st hob hE => aop_binI (u := (.bool (decide ((bestK l (riseK l k) i) < 0)))) rfl rfl rfl (hE 29 rfl) rfl trivial rfl (by rw [hob]; rfl)⟩
      ·exact gy1 hg10 sMv
      ·exact gy0 hg12 sMv
      ·exact gy0 hg12 sMv
      ·exact gy0 hg12 (sIx (0 : Int) ut28 sz3)
      ·exact gy0 hg12 (sLd ag3)
      ·exact gy0 hg12 sMv
      ·exact gy0 hg12 sMv
      ·exact gy0 hg12 ⟨38, rfl, blt_lt rfl, fun st hob hE => aop_ixI 0 rfl rfl rfl ut28 sz3 (hE 36 rfl) (hE 37 rfl) (fun _ => rfl) rfl (by omega) (by first | omega | (simp; done) | decide | (simp at *; omega)) (by rw [hob]; rfl)⟩
      ·exact gy0 hg12 (sLd ag3)
      ·exact gy0 hg12 ⟨40, rfl, blt_lt rfl, fun st hob hE => aop_binI (u := (.bool (decide ((l.getD i 0) < (l.getD (bestK l (riseK l k) i).toNat 0))))) rfl rfl rfl (hE 35 rfl) (hE 39 rfl) trivial rfl (by rw [hob]; rfl)⟩
      ·exact gy1 hg10 ⟨41, rfl, blt_lt rfl, fun st hob hE => aop_pick (b := (decide ((bestK l (riseK l k) i) < 0))) (av := .b (decide ((l.getD i 0) < (l.getD (bestK l (riseK l k) i).toNat 0)))) rfl rfl rfl (hE 31 rfl) (by rw [hg12]; exact hE 40 rfl) (by rw [hob]; rfl)⟩
      ·exact ⟨42, rfl, blt_lt rfl, fun st hob hE => aop_pick (b := (decide ((l.getD i 0) > ((riseK l k).getD ((((riseK l k).length : Int) - 1).toNat) 0)))) (av := .b (decide ((l.getD i 0) < (l.getD (bestK l (riseK l k) i).toNat 0)))) rfl rfl rfl (hE 28 rfl) (by rw [hg10]; exact hE 41 rfl) (by rw [hob]; rfl)⟩
     refine op0 ?_
     refine awp_cond (decide ((l.getD i 0) < (l.getD (bestK l (riseK l k) i).toNat 0))) rfl rfl (fun hc1 => ?_) (fun hc1 => ?_)
     ·skip
      have hf15 := of_decide_eq_true hc1
      refine regR ?_
      refine mG (.i (i : Int)) ?_
      refine mG (.i (i : Int)) ?_
      refine op0 ?_
      refine regR ?_
      refine mG (.i (i : Int)) ?_
      refine opG rfl (aop_binI (u := (.int .i64 ((i + 1 : Nat) : Int))) rfl rfl rfl rfl rfl trivial (addN (by omega)) ?_)
      refine mG (.i ((i + 1 : Nat) : Int)) ?_
      refine op0 ?_
      show _ ∧ _
      refine ⟨by omega, trivial, ?_⟩
      exact iI 1 1 rfl (he := (sS rfl (sS (by exact congrArg (fun n_ : Int => AV.v (.int .i64 n_)) (by first | exact (bestK_on (by simp only [riseC, Bool.and_eq_true, Bool.or_eq_true, Bool.and_eq_false_iff, Bool.or_eq_false_iff, decide_eq_true_eq, decide_eq_false_iff_not]; rw [← hix]; omega)).symm | exact (bestK_off (by simp only [riseC, Bool.and_eq_true, Bool.or_eq_true, Bool.and_eq_false_iff, Bool.or_eq_false_iff, decide_eq_true_eq, decide_eq_false_iff_not]; rw [← hix]; omega)).symm)) (sM rfl (sS rfl (sS rfl sr_none))))))
     ·skip
      have hf16 := of_decide_eq_false hc1
      refine awp_skip ?_
      refine regR ?_
      refine mG (.i (i : Int)) ?_
      refine opG rfl (aop_binI (u := (.int .i64 ((i + 1 : Nat) : Int))) rfl rfl rfl rfl rfl trivial (addN (by omega)) ?_)
      refine mG (.i ((i + 1 : Nat) : Int)) ?_
      refine op0 ?_
      show _ ∧ _
      refine ⟨by omega, trivial, ?_⟩
      exact iI 1 1 rfl (he := (sS rfl (sS (by exact congrArg (fun n_ : Int => AV.v (.int .i64 n_)) (by first | exact (bestK_on (by simp only [riseC, Bool.and_eq_true, Bool.or_eq_true, Bool.and_eq_false_iff, Bool.or_eq_false_iff, decide_eq_true_eq, decide_eq_false_iff_not]; rw [← hix]; omega)).symm | exact (bestK_off (by simp only [riseC, Bool.and_eq_true, Bool.or_eq_true, Bool.and_eq_false_iff, Bool.or_eq_false_iff, decide_eq_true_eq, decide_eq_false_iff_not]; rw [← hix]; omega)).symm)) (sM rfl (sS rfl (sS rfl sr_none))))))
   ·skip
    have hf17 := of_decide_eq_false hg10
    refine awp_draw (m := 31) [(42, .b false), (41, .v undef), (40, .v undef), (39, .v undef), (38, .v undef), (37, .v undef), (36, .v undef), (35, .v undef), (34, .v undef), (33, .v undef), (32, .v undef), (31, .v undef), (30, .v undef), (29, .v undef), (28, .b (decide ((l.getD i 0) > ((riseK l k).getD ((((riseK l k).length : Int) - 1).toNat) 0)))), (27, .b (decide ((l.getD i 0) > ((riseK l k).getD ((((riseK l k).length : Int) - 1).toNat) 0)))), (26, .b (decide ((l.getD i 0) > ((riseK l k).getD ((((riseK l k).length : Int) - 1).toNat) 0)))), (25, .i ((riseK l k).getD ((((riseK l k).length : Int) - 1).toNat) 0)), (24, .pt 1 ((((riseK l k).length : Int) - 1).toNat * 1)), (23, .i (((riseK l k).length : Int) - 1)), (22, .i ((riseK l k).length : Int)), (21, .sl 1 0 ((riseK l k).length)), (20, .sl 1 0 ((riseK l k).length)), (19, .i (l.getD i 0)), (18, .rp (([.i (l.getD i 0)] : List AV) ++ ((enc eI l).drop ((i + 1) * 1)))), (17, .i (i : Int)), (16, .q eI l), (15, .b (((riseK l k).length : Int) == 0)), (14, .b (((riseK l k).length : Int) == 0)), (13, .i ((riseK l k).length : Int)), (12, .sl 1 0 ((riseK l k).length))] mixed (by kernel_rfl) ?_ ?_
    ·refine ⟨?_, ?_, ?_, ?_, ?_, ?_, ?_, ?_, ?_, ?_, ?_, ?_, ?_, ?_, ?_, ?_, ?_, ?_, ?_, ?_, ?_, ?_, ?_, ?_, ?_, ?_, ?_, ?_, ?_, ?_, ?_, trivial⟩
     ·exact sMv
     ·exact ⟨13, rfl, blt_lt rfl, fun st hob hE => aop_len rfl rfl rfl rfl ut28 (len_sl (hE 12 rfl)) (by rw [hob]; rfl)⟩
     ·exact ⟨14, rfl, blt_lt rfl, fun st hob hE => aop_binI (u := (.bool (((riseK l k).length : Int) == 0))) rfl rfl rfl (hE 13 rfl) rfl trivial rfl (by rw [hob]; rfl)⟩
     ·exact sMv
     ·exact gy0 hg2 sMv
     ·exact gy0 hg2 sMv
     ·exact gy0 hg2 (sIx (0 : Int) ut28 sz3)
     ·exact gy0 hg2 (sLd ag3)
     ·exact gy0 hg2 sMv
     ·exact gy0 hg2 sMv
     ·exact gy0 hg2 ⟨22, rfl, blt_lt rfl, fun st hob hE => aop_len rfl rfl rfl rfl ut28 (len_sl (hE 21 rfl)) (by rw [hob]; rfl)⟩
     ·exact gy0 hg2 ⟨23, rfl, blt_lt rfl, fun st hob hE => aop_binI (u := (.int .i64 (((riseK l k).length : Int) - 1))) rfl rfl rfl (hE 22 rfl) rfl trivial (subI (by omega)) (by rw [hob]; rfl)⟩
     ·exact gy0 hg2 ⟨24, rfl, blt_lt rfl, fun st hob hE => aop_ixOI rfl rfl rfl ut28 sz3 (hE 20 rfl) (hE 23 rfl) (by omega) (by first | omega | (simp; done) | decide | (simp at *; omega)) (by rw [hob]; rfl)⟩
     ·exact gy0 hg2 ⟨25, rfl, blt_lt rfl, fun st hob hE => aop_ldO (f := eI) (l := riseK l k) 0 rfl rfl rfl ag3 (hE 24 rfl) (by rw [hob]; rfl) rfl (fun _ => rfl) (by first | omega | (simp; done) | decide | (simp at *; omega)) rfl (by rw [hob]; rfl)⟩
     ·exact gy0 hg2 ⟨26, rfl, blt_lt rfl, fun st hob hE => aop_binI (u := (.bool (decide ((l.getD i 0) > ((riseK l k).getD ((((riseK l k).length : Int) - 1).toNat) 0))))) rfl rfl rfl (hE 19 rfl) (hE 25 rfl) trivial rfl (by rw [hob]; rfl)⟩
     ·exact ⟨27, rfl, blt_lt rfl, fun st hob hE => aop_pick (b := (((riseK l k).length : Int) == 0)) (av := .b (decide ((l.getD i 0) > ((riseK l k).getD ((((riseK l k).length : Int) - 1).toNat) 0)))) rfl rfl rfl (hE 15 rfl) (by rw [hg2]; exact hE 26 rfl) (by rw [hob]; rfl)⟩
     ·exact sMv
     ·exact gn1 hg10
     ·exact gn1 hg10
     ·exact gn1 hg10
     ·exact ⟨31, undef, rfl, blt_lt rfl, rfl, (fun h => by cases h), (fun _ => ⟨32, rfl, blt_lt rfl, .inr rfl⟩)⟩
     ·exact ⟨31, undef, rfl, blt_lt rfl, rfl, (fun h => by cases h), (fun _ => ⟨33, rfl, blt_lt rfl, .inr rfl⟩)⟩
     ·exact ⟨31, undef, rfl, blt_lt rfl, rfl, (fun h => by cases h), (fun _ => ⟨34, rfl, blt_lt rfl, .inr rfl⟩)⟩
     ·exact ⟨31, undef, rfl, blt_lt rfl, rfl, (fun h => by cases h), (fun _ => ⟨35, rfl, blt_lt rfl, .inr rfl⟩)⟩
     ·exact ⟨31, undef, rfl, blt_lt rfl, rfl, (fun h => by cases h), (fun _ => ⟨36, rfl, blt_lt rfl, .inr rfl⟩)⟩
     ·exact ⟨31, undef, rfl, blt_lt rfl, rfl, (fun h => by cases h), (fun _ => ⟨37, rfl, blt_lt rfl, .inr rfl⟩)⟩
     ·exact ⟨31, undef, rfl, blt_lt rfl, rfl, (fun h => by cases h), (fun _ => ⟨38, rfl, blt_lt rfl, .inr rfl⟩)⟩
     ·exact ⟨31, undef, rfl, blt_lt rfl, rfl, (fun h => by cases h), (fun _ => ⟨39, rfl, blt_lt rfl, .inr rfl⟩)⟩
     ·exact ⟨31, undef, rfl, blt_lt rfl, rfl, (fun h => by cases h), (fun _ => ⟨40, rfl, blt_lt rfl, .inr rfl⟩)⟩
     ·exact gn1 hg10
     ·exact ⟨42, rfl, blt_lt rfl, fun st hob hE => aop_pick (b := (decide ((l.getD i 0) > ((riseK l k).getD ((((riseK l k).length : Int) - 1).toNat) 0)))) (av := .b false) rfl rfl rfl (hE 28 rfl) (by rw [hg10]; rfl) (by rw [hob]; rfl)⟩
    refine op0 ?_
    refine awp_cond false rfl rfl (fun h => by cases h) (fun _ => ?_)
    refine awp_skip ?_
    refine regR ?_
    refine mG (.i (i : Int)) ?_
    refine opG rfl (aop_binI (u := (.int .i64 ((i + 1 : Nat) : Int))) rfl rfl rfl rfl rfl trivial (addN (by omega)) ?_)
    refine mG (.i ((i + 1 : Nat) : Int)) ?_
    refine op0 ?_
    show _ ∧ _
    refine ⟨by omega, trivial, ?_⟩
    exact iI 1 1 rfl (he := (sS rfl (sS (by exact congrArg (fun n_ : Int => AV.v (.int .i64 n_)) (by first | exact (bestK_on (by simp only [riseC, Bool.and_eq_true, Bool.or_eq_true, Bool.and_eq_false_iff, Bool.or_eq_false_iff, decide_eq_true_eq, decide_eq_false_iff_not]; rw [← hix]; omega)).symm | exact (bestK_off (by simp only [riseC, Bool.and_eq_true, Bool.or_eq_true, Bool.and_eq_false_iff, Bool.or_eq_false_iff, decide_eq_true_eq, decide_eq_false_iff_not]; rw [← hix]; omega)).symm)) (sM rfl (sS rfl (sS rfl sr_none))))))
 ·skip
  have hf18 := of_decide_eq_false hc0
  have hie : i = l.length := by omega
  refine awp_exit ?_
  refine awp_seq ?_
  refine seqR ?_
  refine mG (.i (bestK l (riseK l k) i)) ?_
  refine bG ((.bool (decide ((bestK l (riseK l k) i) < 0)))) ?_
  refine op0 ?_
  refine awp_cond (decide ((bestK l (riseK l k) i) < 0)) rfl rfl (fun hc2 => ?_) (fun hc2 => ?_)
  ·skip
   have hf19 := of_decide_eq_true hc2
   have hb2 : bestK l (riseK l k) l.length < 0 := by rw [← hie]; exact of_decide_eq_true hc2
   refine seqR ?_
   refine mG (.sl 1 0 ((riseK l k).length)) ?_
   refine mG (.sl 1 0 ((riseK l k).length)) ?_
   refine op0 ?_
   refine rT (upd (upd (upd (upd (upd none_ 0 (.q eI l)) 2 (.sl 1 0 ((riseK l k).length))) 3 (.sl 1 0 ((riseK l k).length))) 4 (.i (bestK l (riseK l k) i))) 5 (.i (i : Int))) (updO noOb 1 (.live ⟨(enc eI (riseK l k)), 3, 1⟩)) ?_
   refine awp_ret ?_
   exact fretO 1 rfl rfl rfl (congrArg List.length (riseK_end hk1 hb2)) (congrArg (fun l_ => LObj.mk (enc eI l_) 3 1) (riseK_end hk1 hb2))
  ·skip
   have hf20 := of_decide_eq_false hc2
   have hb_ : ¬ bestK l (riseK l k) l.length < 0 := by rw [← hie]; exact of_decide_eq_false hc2
   refine awp_skip ?_
   refine regR ?_
   refine mG (.sl 1 0 ((riseK l k).length)) ?_
   refine mG (.q eI l) ?_
   refine mG (.i (bestK l (riseK l k) i)) ?_
   refine opG rfl (aop_ixI 0 rfl rfl rfl ut28 sz3 rfl rfl (fun _ => rfl) rfl (by omega) (by first | omega | (simp; done) | decide | (simp at *; omega)) ?_)
   refine opG rfl (aop_ld (av := .i (l.getD (bestK l (riseK l k) i).toNat 0)) rfl rfl rfl ag3 rfl rfl ?_)
   refine opG rfl (aop_lit rfl rfl rfl ut28 iz3 (by decide) (by decide) rfl rfl ?_)
   refine opG rfl (aop_app1 (f := eI) (l := riseK l k) 52 (l.getD (bestK l (riseK l k) i).toNat 0 : Int) rfl rfl rfl rfl ut28 in3 rfl (by decide) rfl rfl rfl rfl rfl rfl (fun _ => rfl) rfl rfl (by first | omega | (simp; done) | decide | (simp at *; omega)) (by first | omega | (simp; done) | decide | (simp at *; omega)) rfl ?_)
   refine mG (.sl 52 0 (((riseK l k) ++ [(l.getD (bestK l (riseK l k) i).toNat 0 : Int)]).length)) ?_
   refine op0 ?_
   show _ ∧ _
   have hs_ := riseK_on hb_
   rw [← hie] at hs_
   refine ⟨by omega, (riseK_len hk1 hb_), ?_⟩
   exact iI 52 1 (o := ⟨(enc eI ((riseK l k) ++ [(l.getD (bestK l (riseK l k) i).toNat 0 : Int)])), 3, 1⟩) rfl (he := (sM (by exact congrArg (AV.sl 1 0) (congrArg List.length hs_.symm)) (sS rfl (sS rfl sr_none)))) (hoo := (by exact congrArg (fun l_ => LObj.mk (enc eI l_) 3 1) hs_))
theorem t_place1 (x a id_ : Int)  : Fn Try.prog 37 [.agg [.v (.int .i64 x), .v (.int .i64 a)], .rp [.v (.int .i64 id_)]] (.v (.bool (decide (x = id_)))) := by
 refine fnE_of_body (N := 8) Try.func37 rfl rfl (resOf1 rfl) (by simp) (fun w0 X hL_ => ?_)
 refine seqR ?_
 refine opG rfl (aop_box 51 rfl rfl rfl rfl rfl rfl rfl ?_)
 refine mG (.b false) ?_
 refine op0 ?_
 refine seqR ?_
 refine fG (.pt 51 0) ft59_0 sz3 ?_
 refine opG rfl (aop_ld (av := .i x) rfl rfl rfl ag3 rfl rfl ?_)
 refine opG rfl (aop_ld (av := .i id_) rfl rfl rfl ag3 rfl rfl ?_)
 refine bG ((.bool (x == id_))) ?_
 refine mG (.b (x == id_)) ?_
 refine op0 ?_
 refine rT (upd none_ 3 (.b (x == id_))) (updO noOb 51 (.live ⟨[.i x, .i a], 59, 1⟩)) ?_
 refine awp_ret ?_
 exact fret (av := .v (.bool (x == id_))) rfl rfl (by rfl)
theorem ixOne (l : List Tm) (id_ : Int) (hl : l.length ≤ 65536) : Fn Try.prog 36 [.ro l.length (enc eT l), .fn 37 [.rp [.v (.int .i64 id_)]]] (.v (.int .i64 (ixT l id_))) := by
 refine fnE_of_body (N := 19) Try.func36 rfl rfl (resOf1 rfl) (by simp) (fun w0 X hL_ => ?_)
 refine seqR ?_
 refine mG (.i 0) ?_
 refine op0 ?_
 refine awp_seq ?_
 refine seqR ?_
 refine mG (.q eT l) ?_
 refine opG rfl (aop_len rfl rfl rfl rfl ut55 (len_ro rfl) ?_)
 refine mG (.i 0) ?_
 refine op0 ?_
 refine rT (upd (upd (upd (upd (upd none_ 0 (.q eT l)) 1 (.fn 37 [.rp [.i id_]])) 4 (.i 0)) 7 (.i (l.length : Int))) 8 (.i 0)) noOb ?_
 refine awp_block ?_
 refine awp_countI (fun k => ⟨(upd (upd (upd (upd (upd none_ 0 (.q eT l)) 1 (.fn 37 [.rp [.i id_]])) 4 (.i 0)) 7 (.i (l.length : Int))) 8 (.i (k : Int))), noOb⟩) (fun k => (l.take k).any (fun x : Tm => decide (x.id = id_)) = false) (l.length) ?_ (by simp) (fun k hk_k hinv => ?_)
 ·skip
  exact iN
 refine seqR ?_
 refine bG ((.bool (decide ((k : Int) < (l.length : Int))))) ?_
 refine op0 ?_
 refine awp_seq ?_
 refine awp_cond (decide ((k : Int) < (l.length : Int))) rfl rfl (fun hc0 => ?_) (fun hc0 => ?_)
 ·skip
  have hf1 := of_decide_eq_true hc0
  refine awp_skip ?_
  refine awp_seq ?_
  refine awp_block ?_
  refine seqR ?_
  refine mG (.i (k : Int)) ?_
  refine mG (.i (k : Int)) ?_
  refine op0 ?_
  refine seqR ?_
  refine mG (.fn 37 [.rp [.i id_]]) ?_
  refine mG (.q eT l) ?_
  refine mG (.i (k : Int)) ?_
  refine opG rfl (aop_ixE dT rfl rfl rfl ut55 sz59 rfl rfl (fun _ => rfl) rfl (by first | omega | (simp; done) | decide | (simp at *; omega)) ?_)
  refine opG rfl (aop_ldB (cells' := [.i ((l.getD k dT).id), .i ((l.getD k dT).at_)]) rfl rfl rfl ag59 sz59 rfl rfl rfl rfl ?_)
  refine opG rfl (call_ (t_place1 ((l.getD k dT).id) ((l.getD k dT).at_) id_) rfl rfl rfl rfl rfl bd37 rfl ?_)
  refine op0 ?_
  refine rT (upd (upd (upd (upd (upd (upd (upd none_ 0 (.q eT l)) 1 (.fn 37 [.rp [.i id_]])) 4 (.i 0)) 5 (.i (k : Int))) 7 (.i (l.length : Int))) 8 (.i (k : Int))) 16 (.b (decide (((l.getD k dT).id) = id_)))) noOb ?_
  refine awp_cond (decide (((l.getD k dT).id) = id_)) rfl rfl (fun hc1 => ?_) (fun hc1 => ?_)
  ·skip
   refine seqR ?_
   refine mG (.i (k : Int)) ?_
   refine mG (.i (k : Int)) ?_
   refine op0 ?_
   refine awp_ret ?_
   exact fret (av := .v (.int .i64 (k : Int))) rfl rfl (by unfold ixT; rw [idxB_stop (f := fun x : Tm => decide (x.id = id_)) dT (by omega) hinv hc1] <;> rfl)
  ·skip
   refine awp_skip ?_
   refine regR ?_
   refine opG rfl (aop_binI (u := (.int .i64 ((k + 1 : Nat) : Int))) rfl rfl rfl rfl rfl trivial (addN (by omega)) ?_)
   refine mG (.i ((k + 1 : Nat) : Int)) ?_
   refine op0 ?_
   show _ ∧ _
   refine ⟨by omega, (any_step dT (by omega) hinv hc1), ?_⟩
   exact iN
 ·skip
  have hf2 := of_decide_eq_false hc0
  refine awp_exit ?_
  refine seqR ?_
  refine mG (.i (-1)) ?_
  refine op0 ?_
  refine awp_ret ?_
  exact fret (av := .v (.int .i64 (-1))) rfl rfl (by unfold ixT; rw [idxB_end (f := fun x : Tm => decide (x.id = id_)) (by omega) hinv] <;> rfl)
theorem t_place (l : List Tm) (id_ : Int) (hl : l.length ≤ 65536) : Fn Try.prog 29 [.rp [.ro l.length (enc eT l)], .v (.int .i64 id_)] (.v (.int .i64 (ixT l id_))) := by
 refine fnE_of_body (N := 13) Try.func29 rfl rfl (resOf1 rfl) (by simp) (fun w0 X hL_ => ?_)
 refine seqR ?_
 refine opG rfl (aop_box 51 rfl rfl rfl rfl rfl rfl rfl ?_)
 refine mG (.i 0) ?_
 refine op0 ?_
 refine awp_seq ?_
 refine seqR ?_
 refine mG (.rp [.q eT l]) ?_
 refine opG rfl (aop_ptNil rfl rfl rfl ut24 rfl rfl rfl (.inl ⟨rfl, rfl⟩) ?_)
 refine op0 ?_
 refine rT (upd (upd (upd (upd none_ 0 (.rp [.q eT l])) 3 (.pt 51 0)) 4 (.i 0)) 6 (.b false)) (updO noOb 51 (.live ⟨[.i id_], 3, 1⟩)) ?_
 refine awp_cond false rfl rfl (fun h => by cases h) (fun _ => ?_)
 refine awp_skip ?_
 refine seqR ?_
 refine mG (.rp [.q eT l]) ?_
 refine opG rfl (aop_nilCheck rfl rfl rfl rfl rfl ?_)
 refine opG rfl (aop_fieldAddr (av := .rp [.q eT l]) (av' := .rp [.q eT l]) rfl rfl rfl ft57_0 sz55 rfl rfl rfl ?_)
 refine opG rfl (aop_ld (av := .q eT l) rfl rfl rfl ag55 rfl rfl ?_)
 refine opG rfl (aop_makeFunc (caps := [.tmp 3]) rfl rfl rfl rfl ?_)
 refine opG rfl (callL_ (ixOne l id_ hl) rfl rfl rfl rfl rfl bd36 (lends_cons (lend_n (av := .q eT l)) (lends_cons (lend_fn (lends_cons (lend_pt rfl (lends_cons (lend_n (av := .i id_)) lends_nil)) lends_nil)) lends_nil)) ?_)
 refine mG (.i (ixT l id_)) ?_
 refine op0 ?_
 refine rT (upd none_ 4 (.i (ixT l id_))) (updO noOb 51 (.live ⟨[.i id_], 3, 1⟩)) ?_
 refine awp_ret ?_
 exact fret (av := .v (.int .i64 (ixT l id_))) rfl rfl rfl
theorem t_Len (l : List Tm) (hl : l.length ≤ 65536) : Fn Try.prog 14 [.rp [.ro l.length (enc eT l)]] (.v (.int .i64 (l.length : Int))) := by
 refine fnE_of_body (N := 10) Try.func14 rfl rfl (resOf1 rfl) (by simp) (fun w0 X hL_ => ?_)
 refine seqR ?_
 refine mG (.i 0) ?_
 refine op0 ?_
 refine awp_seq ?_
 refine seqR ?_
 refine mG (.rp [.q eT l]) ?_
 refine opG rfl (aop_ptNil rfl rfl rfl ut24 rfl rfl rfl (.inl ⟨rfl, rfl⟩) ?_)
 refine op0 ?_
 refine awp_cond false rfl rfl (fun h => by cases h) (fun _ => ?_)
 refine awp_skip ?_
 refine seqR ?_
 refine mG (.rp [.q eT l]) ?_
 refine opG rfl (aop_nilCheck rfl rfl rfl rfl rfl ?_)
 refine opG rfl (aop_fieldAddr (av := .rp [.q eT l]) (av' := .rp [.q eT l]) rfl rfl rfl ft57_0 sz55 rfl rfl rfl ?_)
 refine opG rfl (aop_ld (av := .q eT l) rfl rfl rfl ag55 rfl rfl ?_)
 refine opG rfl (aop_len rfl rfl rfl rfl ut55 (len_ro rfl) ?_)
 refine mG (.i (l.length : Int)) ?_
 refine op0 ?_
 refine rT (upd none_ 2 (.i (l.length : Int))) noOb ?_
 refine awp_ret ?_
 exact fret (av := .v (.int .i64 (l.length : Int))) rfl rfl rfl
theorem t_Left (l : List Tm) (id_ now : Int) (hl : l.length ≤ 65536) : Fn Try.prog 20 [.rp [.ro l.length (enc eT l)], .v (.int .i64 id_), .v (.int .i64 now)] (.tup [.v (.int .i64 (leftT l id_ now)), .v (.bool (hasT l id_))]) := by
 have hrg := ixT_range l id_
 refine fnE_of_body (N := 33) Try.func20 rfl rfl (resOf2 rfl) (by simp) (fun w0 X hL_ => ?_)
 refine seqR ?_
 refine mG (.i 0) ?_
 refine mG (.b false) ?_
 refine op0 ?_
 refine seqR ?_
 refine mG (.rp [.q eT l]) ?_
 refine mG (.i id_) ?_
 refine opG rfl (call_ (t_place l id_ (by first | omega | (simp; done) | decide | (simp at *; omega))) rfl rfl rfl rfl rfl bd29 rfl ?_)
 refine mG (.i (ixT l id_)) ?_
 refine op0 ?_
 refine rT (upd (upd (upd (upd (upd none_ 0 (.rp [.q eT l])) 2 (.i now)) 6 (.i 0)) 7 (.b false)) 8 (.i (ixT l id_))) noOb ?_
 refine awp_seq ?_
 refine seqR ?_
 refine mG (.i (ixT l id_)) ?_
 refine bG ((.bool (decide ((ixT l id_) < 0)))) ?_
 refine op0 ?_
 refine awp_cond (decide ((ixT l id_) < 0)) rfl rfl (fun hc0 => ?_) (fun hc0 => ?_)
 ·skip
  have hf1 := of_decide_eq_true hc0
  have hx : ixT l id_ < 0 := of_decide_eq_true hc0
  refine seqR ?_
  refine mG (.i 0) ?_
  refine mG (.b false) ?_
  refine op0 ?_
  refine rT (upd (upd (upd (upd (upd none_ 0 (.rp [.q eT l])) 2 (.i now)) 6 (.i 0)) 7 (.b false)) 8 (.i (ixT l id_))) noOb ?_
  refine awp_ret ?_
  exact fret (av := .tup [.v (.int .i64 0), .v (.bool false)]) rfl rfl (by rw [left_no hx, has_no hx])
 ·skip
  have hf2 := of_decide_eq_false hc0
  have hx : ¬ ixT l id_ < 0 := of_decide_eq_false hc0
  refine awp_skip ?_
  refine seqR ?_
  refine mG (.rp [.q eT l]) ?_
  refine opG rfl (aop_nilCheck rfl rfl rfl rfl rfl ?_)
  refine opG rfl (aop_fieldAddr (av := .rp [.q eT l]) (av' := .rp [.q eT l]) rfl rfl rfl ft57_0 sz55 rfl rfl rfl ?_)
  refine opG rfl (aop_ld (av := .q eT l) rfl rfl rfl ag55 rfl rfl ?_)
  refine mG (.i (ixT l id_)) ?_
  refine opG rfl (aop_ixI dT rfl rfl rfl ut55 sz59 rfl rfl (fun _ => rfl) rfl (by omega) (by first | omega | (simp; done) | decide | (simp at *; omega)) ?_)
  refine opG rfl (aop_fieldAddr (av := .rp (([.i ((l.getD (ixT l id_).toNat dT).id), .i ((l.getD (ixT l id_).toNat dT).at_)] : List AV) ++ ((enc eT l).drop (((ixT l id_).toNat + 1) * 2)))) (av' := .rp (([.i ((l.getD (ixT l id_).toNat dT).at_)] : List AV) ++ ((enc eT l).drop (((ixT l id_).toNat + 1) * 2)))) rfl rfl rfl ft59_1 sz2 rfl rfl rfl ?_)
  refine opG rfl (aop_ld (av := .i ((l.getD (ixT l id_).toNat dT).at_)) rfl rfl rfl ag2 rfl rfl ?_)
  refine mG (.i ((l.getD (ixT l id_).toNat dT).at_)) ?_
  refine op0 ?_
  refine rT (upd (upd (upd (upd none_ 2 (.i now)) 6 (.i 0)) 7 (.b false)) 9 (.i ((l.getD (ixT l id_).toNat dT).at_))) noOb ?_
  refine awp_seq ?_
  refine seqR ?_
  refine mG (.i ((l.getD (ixT l id_).toNat dT).at_)) ?_
  refine mG (.i now) ?_
  refine bG ((.bool (decide (((l.getD (ixT l id_).toNat dT).at_) ≤ now)))) ?_
  refine op0 ?_
  refine awp_cond (decide (((l.getD (ixT l id_).toNat dT).at_) ≤ now)) rfl rfl (fun hc1 => ?_) (fun hc1 => ?_)
  ·skip
   have hf3 := of_decide_eq_true hc1
   refine seqR ?_
   refine mG (.i 0) ?_
   refine mG (.b true) ?_
   refine op0 ?_
   refine rT (upd (upd (upd (upd none_ 2 (.i now)) 6 (.i 0)) 7 (.b true)) 9 (.i ((l.getD (ixT l id_).toNat dT).at_))) noOb ?_
   refine awp_ret ?_
   exact fret (av := .tup [.v (.int .i64 0), .v (.bool true)]) rfl rfl (by rw [left_0 hx (of_decide_eq_true hc1), has_yes hx])
  ·skip
   have hf4 := of_decide_eq_false hc1
   refine awp_skip ?_
   refine awp_seq ?_
   refine seqR ?_
   refine mG (.i ((l.getD (ixT l id_).toNat dT).at_)) ?_
   refine mG (.i now) ?_
   refine bG ((.int .i64 (IntKind.i64.wrap ((l.getD (ixT l id_).toNat dT).at_ - now)))) ?_
   refine mG (.i (IntKind.i64.wrap ((l.getD (ixT l id_).toNat dT).at_ - now))) ?_
   refine op0 ?_
   refine rT (upd (upd (upd none_ 6 (.i 0)) 7 (.b false)) 10 (.i (IntKind.i64.wrap ((l.getD (ixT l id_).toNat dT).at_ - now)))) noOb ?_
   refine seqR ?_
   refine mG (.i (IntKind.i64.wrap ((l.getD (ixT l id_).toNat dT).at_ - now))) ?_
   refine bG ((.bool (decide ((IntKind.i64.wrap ((l.getD (ixT l id_).toNat dT).at_ - now)) > 0)))) ?_
   refine op0 ?_
   refine awp_cond (decide ((IntKind.i64.wrap ((l.getD (ixT l id_).toNat dT).at_ - now)) > 0)) rfl rfl (fun hc2 => ?_) (fun hc2 => ?_)
   ·skip
    have hf5 := of_decide_eq_true hc2
    refine seqR ?_
    refine mG (.i (IntKind.i64.wrap ((l.getD (ixT l id_).toNat dT).at_ - now))) ?_
    refine mG (.i (IntKind.i64.wrap ((l.getD (ixT l id_).toNat dT).at_ - now))) ?_
    refine mG (.b true) ?_
    refine op0 ?_
    refine rT (upd (upd none_ 6 (.i (IntKind.i64.wrap ((l.getD (ixT l id_).toNat dT).at_ - now)))) 7 (.b true)) noOb ?_
    refine awp_ret ?_
    exact fret (av := .tup [.v (.int .i64 (IntKind.i64.wrap ((l.getD (ixT l id_).toNat dT).at_ - now))), .v (.bool true)]) rfl rfl (by rw [left_1 hx (of_decide_eq_false hc1) (of_decide_eq_true hc2), has_yes hx])
   ·skip
    have hf6 := of_decide_eq_false hc2
    refine awp_skip ?_
    refine seqR ?_
    refine mG (.i 9223372036854775807) ?_
    refine mG (.b true) ?_
    refine op0 ?_
    refine rT (upd (upd none_ 6 (.i 9223372036854775807)) 7 (.b true)) noOb ?_
    refine awp_ret ?_
    exact fret (av := .tup [.v (.int .i64 9223372036854775807), .v (.bool true)]) rfl rfl (by rw [left_2 hx (of_decide_eq_false hc1) (of_decide_eq_false hc2), has_yes hx])
theorem t_New   : FnGO Try.prog 10 [] [] (.pt 0 0) [.live ⟨[.sl 1 0 0], 57, 1⟩, .live ⟨(enc eT ([] : List Tm)), 59, 2⟩] := by
 refine fnG_of_body (N := 3) 0 rfl Try.func10 rfl rfl (resOf1 rfl) (by simp) (fun w0 G C hL_ hLG_ => ?_)
 refine seqR ?_
 refine mG (.v (.pointer none)) ?_
 refine op0 ?_
 refine seqR ?_
 refine opG rfl (aop_build rfl rfl rfl pl57 rfl ?_)
 refine opG rfl (aop_box 51 rfl rfl rfl rfl rfl rfl rfl ?_)
 refine mG (.pt 51 0) ?_
 refine op0 ?_
 refine rT (upd none_ 0 (.pt 51 0)) (updO noOb 51 (.live ⟨[.v (.slice none 0 0)], 57, 1⟩)) ?_
 refine awp_imp ⟨(upd none_ 0 (.pt 0 0)), (updO (updO noOb 0 (.live ⟨[.sl 1 0 0], 57, 1⟩)) 1 (.live ⟨(enc eT ([] : List Tm)), 59, 2⟩))⟩ ?_ ?_
 ·skip
  refine (imp_adoptC 51 0 52 59 2 rfl rfl rfl rfl).trans ?_
  exact iL [(51, 0), (52, 1)] [((51, 0), .live _), ((52, 1), .live _)] ⟨row_map (o := ⟨[.sl 52 0 0], 57, 1⟩) rfl (om_ (lm_cons rfl lm_nil)) (oks_cons (.sl _ _ _ (by simp)) oks_nil), row_no (o := ⟨[], 59, 2⟩) rfl rfl, trivial⟩
 refine awp_ret ?_
 exact fretG rfl rfl rfl rfl
theorem d_find (m : List Tm) (id_ : Int) (hm : m.length ≤ 65536) : Fn Try.prog 31 [.ro m.length (enc eT m), .v (.int .i64 id_)] (.v (.int .i64 (ixT m id_))) := by
 refine fnE_of_body (N := 20) Try.func31 rfl rfl (resOf1 rfl) (by simp) (fun w0 X hL_ => ?_)
 refine seqR ?_
 refine mG (.i 0) ?_
 refine op0 ?_
 refine awp_seq ?_
 refine seqR ?_
 refine mG (.i 0) ?_
 refine op0 ?_
 refine awp_block ?_
 refine awp_countI (fun k => ⟨(upd (upd (upd (upd none_ 0 (.q eT m)) 1 (.i id_)) 4 (.i 0)) 5 (.i (k : Int))), noOb⟩) (fun k => (m.take k).any (fun x : Tm => decide (x.id = id_)) = false) (m.length) ?_ (by simp) (fun k hk_k hinv => ?_)
 ·skip
  exact iN
 refine awp_seq ?_
 refine seqR ?_
 refine mG (.i (k : Int)) ?_
 refine mG (.q eT m) ?_
 refine opG rfl (aop_len rfl rfl rfl rfl ut36 (len_ro rfl) ?_)
 refine bG ((.bool (decide ((k : Int) < (m.length : Int))))) ?_
 refine op0 ?_
 refine rT (upd (upd (upd (upd (upd none_ 0 (.q eT m)) 1 (.i id_)) 4 (.i 0)) 5 (.i (k : Int))) 9 (.b (decide ((k : Int) < (m.length : Int))))) noOb ?_
 refine awp_cond (decide ((k : Int) < (m.length : Int))) rfl rfl (fun hc0 => ?_) (fun hc0 => ?_)
 ·skip
  have hf1 := of_decide_eq_true hc0
  refine awp_skip ?_
  refine awp_seq ?_
  refine awp_block ?_
  refine seqR ?_
  refine mG (.q eT m) ?_
  refine mG (.i (k : Int)) ?_
  refine opG rfl (aop_ixE dT rfl rfl rfl ut36 sz68 rfl rfl (fun _ => rfl) rfl (by first | omega | (simp; done) | decide | (simp at *; omega)) ?_)
  refine opG rfl (aop_fieldAddr (av := .rp (([.i ((m.getD k dT).id), .i ((m.getD k dT).at_)] : List AV) ++ ((enc eT m).drop ((k + 1) * 2)))) (av' := .rp (([.i ((m.getD k dT).id), .i ((m.getD k dT).at_)] : List AV) ++ ((enc eT m).drop ((k + 1) * 2)))) rfl rfl rfl ft68_0 sz3 rfl rfl rfl ?_)
  refine opG rfl (aop_ld (av := .i ((m.getD k dT).id)) rfl rfl rfl ag3 rfl rfl ?_)
  refine mG (.i id_) ?_
  refine bG ((.bool (((m.getD k dT).id) == id_))) ?_
  refine op0 ?_
  refine rT (upd (upd (upd (upd (upd none_ 0 (.q eT m)) 1 (.i id_)) 4 (.i 0)) 5 (.i (k : Int))) 18 (.b (((m.getD k dT).id) == id_))) noOb ?_
  refine awp_cond (((m.getD k dT).id) == id_) rfl rfl (fun hc1 => ?_) (fun hc1 => ?_)
  ·skip
   have hf2 := (beq_iff_eq).1 hc1
   refine seqR ?_
   refine mG (.i (k : Int)) ?_
   refine mG (.i (k : Int)) ?_
   refine op0 ?_
   refine awp_ret ?_
   exact fret (av := .v (.int .i64 (k : Int))) rfl rfl (by unfold ixT; rw [idxB_stop (f := fun x : Tm => decide (x.id = id_)) dT (by omega) hinv hc1] <;> rfl)
  ·skip
   have hf3 := (beq_eq_false_iff_ne).1 hc1
   refine awp_skip ?_
   refine regR ?_
   refine mG (.i (k : Int)) ?_
   refine opG rfl (aop_binI (u := (.int .i64 ((k + 1 : Nat) : Int))) rfl rfl rfl rfl rfl trivial (addN (by omega)) ?_)
   refine mG (.i ((k + 1 : Nat) : Int)) ?_
   refine op0 ?_
   show _ ∧ _
   refine ⟨by omega, (any_step dT (by omega) hinv hc1), ?_⟩
   exact iN
 ·skip
  have hf4 := of_decide_eq_false hc0
  refine awp_exit ?_
  refine seqR ?_
  refine mG (.i (-1)) ?_
  refine op0 ?_
  refine awp_ret ?_
  exact fret (av := .v (.int .i64 (-1))) rfl rfl (by unfold ixT; rw [idxB_end (f := fun x : Tm => decide (x.id = id_)) (by omega) hinv] <;> rfl)
theorem d_Stop (m : List Tm) (id_ : Int) (hm : m.length ≤ 65536) : Fn Try.prog 18 [.ro m.length (enc eT m), .v (.int .i64 id_)] (.tup [.ro ((delT m id_).length) (enc eT (delT m id_)), .v (.bool (hasT m id_))]) := by
 have hrg := ixT_range m id_
 refine fnE_of_body (N := 25) Try.func18 rfl rfl (resOf2 rfl) (by simp) (fun w0 X hL_ => ?_)
 refine seqR ?_
 refine mG (.v (.slice none 0 0)) ?_
 refine mG (.b false) ?_
 refine op0 ?_
 refine seqR ?_
 refine mG (.q eT m) ?_
 refine mG (.i id_) ?_
 refine opG rfl (call_ (d_find m id_ (by first | omega | (simp; done) | decide | (simp at *; omega))) rfl rfl rfl rfl rfl bd31 rfl ?_)
 refine mG (.i (ixT m id_)) ?_
 refine op0 ?_
 refine rT (upd (upd (upd (upd none_ 0 (.q eT m)) 4 (.v (.slice none 0 0))) 5 (.b false)) 6 (.i (ixT m id_))) noOb ?_
 refine awp_seq ?_
 refine seqR ?_
 refine mG (.i (ixT m id_)) ?_
 refine bG ((.bool (decide ((ixT m id_) < 0)))) ?_
 refine op0 ?_
 refine awp_cond (decide ((ixT m id_) < 0)) rfl rfl (fun hc0 => ?_) (fun hc0 => ?_)
 ·skip
  have hf1 := of_decide_eq_true hc0
  have hx : ixT m id_ < 0 := of_decide_eq_true hc0
  refine seqR ?_
  refine mG (.q eT m) ?_
  refine mG (.q eT m) ?_
  refine mG (.b false) ?_
  refine op0 ?_
  refine rT (upd (upd (upd (upd none_ 0 (.q eT m)) 4 (.q eT m)) 5 (.b false)) 6 (.i (ixT m id_))) noOb ?_
  refine awp_ret ?_
  exact fret (av := .tup [.ro m.length (enc eT m), .v (.bool false)]) rfl rfl (by rw [delT_no hx, has_no hx])
 ·skip
  have hf2 := of_decide_eq_false hc0
  have hx : ¬ ixT m id_ < 0 := of_decide_eq_false hc0
  refine awp_skip ?_
  refine seqR ?_
  refine mG (.v (.slice none 0 0)) ?_
  refine op0 ?_
  refine seqR ?_
  refine mG (.v (.slice none 0 0)) ?_
  refine mG (.q eT m) ?_
  refine opG rfl (aop_eqv (d := 16) (a := .i (ixT m id_)) (b := .i (((ixT m id_).toNat : Nat) : Int)) (aop_move (av := .i (ixT m id_)) (.inl rfl) rfl rfl rfl rfl) (by rw [Int.toNat_of_nonneg (by omega)]) ?_)
  refine opG rfl (aop_sliceRoN (l := 0) (hgh := (ixT m id_).toNat) (cells' := enc eT (m.take ((ixT m id_).toNat))) ((m.take ((ixT m id_).toNat))).length rfl rfl rfl ut36 sz68 rfl rfl ⟨_, rfl⟩ (by omega) (by first | omega | (simp; done) | decide | (simp at *; omega)) (sliceE (f := eT) (fun _ => rfl) _ 0 _) (by simp; omega) ?_)
  refine opG rfl (aop_adopt 14 51 68 2 rfl rfl (aop_appE (f := eT) (l := ([] : List Tm)) (l2 := m.take ((ixT m id_).toNat)) 52 rfl rfl rfl rfl ut36 in68 rfl (by decide) rfl rfl rfl rfl rfl rfl (fun _ => rfl) rfl rfl rfl (by first | omega | (simp; done) | decide | (simp at *; omega)) (by first | omega | (simp; done) | decide | (simp at *; omega)) rfl ?_))
  refine mG (.sl 52 0 ((([] : List Tm) ++ (m.take ((ixT m id_).toNat))).length)) ?_
  refine op0 ?_
  refine rT (upd (upd (upd (upd (upd none_ 0 (.q eT m)) 4 (.v (.slice none 0 0))) 5 (.b false)) 6 (.i (ixT m id_))) 7 (.sl 52 0 ((([] : List Tm) ++ (m.take ((ixT m id_).toNat))).length))) (updO (updO (updO noOb 51 (.live ⟨[], 68, 2⟩)) 51 .dead) 52 (.live ⟨(enc eT (([] : List Tm) ++ (m.take ((ixT m id_).toNat)))), 68, 2⟩)) ?_
  refine seqR ?_
  refine mG (.sl 52 0 ((([] : List Tm) ++ (m.take ((ixT m id_).toNat))).length)) ?_
  refine mG (.q eT m) ?_
  refine opG rfl (aop_eqv (d := 21) (a := .i (ixT m id_)) (b := .i (((ixT m id_).toNat : Nat) : Int)) (aop_move (av := .i (ixT m id_)) (.inl rfl) rfl rfl rfl rfl) (by rw [Int.toNat_of_nonneg (by omega)]) ?_)
  refine opG rfl (aop_eqv (d := 22) (a := .i (((ixT m id_).toNat + 1 : Nat) : Int)) (b := .i (((ixT m id_).toNat + 1 : Nat) : Int)) (aop_binI (u := (.int .i64 (((ixT m id_).toNat + 1 : Nat) : Int))) rfl rfl rfl rfl rfl trivial (addN (by omega)) rfl) (by rw [Int.natCast_add] <;> rfl) ?_)
  refine opG rfl (aop_sliceRoN (l := (ixT m id_).toNat + 1) (hgh := m.length) (cells' := enc eT (m.drop ((ixT m id_).toNat + 1))) ((m.drop ((ixT m id_).toNat + 1))).length rfl rfl rfl ut36 sz68 rfl ⟨_, rfl⟩ rfl (by first | omega | (simp; done) | decide | (simp at *; omega)) (by first | omega | (simp; done) | decide | (simp at *; omega)) (sliceE1 (f := eT) (fun _ => rfl) _ _ _ rfl) (by first | (simp; done) | (simp; omega)) ?_)
  refine opG rfl (aop_appE (f := eT) (l := ([] : List Tm) ++ (m.take ((ixT m id_).toNat))) (l2 := m.drop ((ixT m id_).toNat + 1)) 53 rfl rfl rfl rfl ut36 in68 rfl (by decide) rfl rfl rfl rfl rfl rfl (fun _ => rfl) rfl rfl rfl (by first | omega | (simp; done) | decide | (simp at *; omega)) (by first | omega | (simp; done) | decide | (simp at *; omega)) rfl ?_)
  refine mG (.sl 53 0 (((([] : List Tm) ++ (m.take ((ixT m id_).toNat))) ++ (m.drop ((ixT m id_).toNat + 1))).length)) ?_
  refine mG (.b true) ?_
  refine op0 ?_
  refine rT (upd (upd none_ 4 (.sl 53 0 (((([] : List Tm) ++ (m.take ((ixT m id_).toNat))) ++ (m.drop ((ixT m id_).toNat + 1))).length))) 5 (.b true)) (updO (updO (updO (updO (updO noOb 51 (.live ⟨[], 68, 2⟩)) 51 .dead) 52 (.live ⟨(enc eT (([] : List Tm) ++ (m.take ((ixT m id_).toNat)))), 68, 2⟩)) 52 .dead) 53 (.live ⟨(enc eT ((([] : List Tm) ++ (m.take ((ixT m id_).toNat))) ++ (m.drop ((ixT m id_).toNat + 1)))), 68, 2⟩)) ?_
  refine awp_imp _ (imp_frozen rfl (fun _ h => h) (lee_lend 5 (.b true) (lend_n (av := .b true)) (lee_lend 4 (.q eT ((([] : List Tm) ++ (m.take ((ixT m id_).toNat))) ++ (m.drop ((ixT m id_).toNat + 1)))) (lend_s (id := 53) (n := ((([] : List Tm) ++ (m.take ((ixT m id_).toNat))) ++ (m.drop ((ixT m id_).toNat + 1))).length) (o := ⟨(enc eT ((([] : List Tm) ++ (m.take ((ixT m id_).toNat))) ++ (m.drop ((ixT m id_).toNat + 1)))), 68, 2⟩) rfl (enc_len (fun _ => rfl) (by first | rfl | (simp; done)))) lee_lend0))) ?_
  refine awp_ret ?_
  exact fret (av := .tup [.ro (((([] : List Tm) ++ (m.take ((ixT m id_).toNat))) ++ (m.drop ((ixT m id_).toNat + 1))).length) (enc eT ((([] : List Tm) ++ (m.take ((ixT m id_).toNat))) ++ (m.drop ((ixT m id_).toNat + 1)))), .v (.bool true)]) rfl rfl (by rw [delT_yes hx, has_yes hx, List.nil_append])
theorem d_Left (m : List Tm) (id_ now : Int) (hm : m.length ≤ 65536) (hw : ∀ x, x ∈ m → I64 x.at_) (hnw : I64 now) : Fn Try.prog 21 [.ro m.length (enc eT m), .v (.int .i64 id_), .v (.int .i64 now)] (.tup [.v (.int .i64 (leftT m id_ now)), .v (.bool (hasT m id_))]) := by
 have hrg := ixT_range m id_
 refine fnE_of_body (N := 35) Try.func21 rfl rfl (resOf2 rfl) (by simp) (fun w0 X hL_ => ?_)
 refine seqR ?_
 refine mG (.i 0) ?_
 refine mG (.b false) ?_
 refine op0 ?_
 refine seqR ?_
 refine mG (.q eT m) ?_
 refine mG (.i id_) ?_
 refine opG rfl (call_ (d_find m id_ (by first | omega | (simp; done) | decide | (simp at *; omega))) rfl rfl rfl rfl rfl bd31 rfl ?_)
 refine mG (.i (ixT m id_)) ?_
 refine op0 ?_
 refine rT (upd (upd (upd (upd (upd none_ 0 (.q eT m)) 2 (.i now)) 6 (.i 0)) 7 (.b false)) 8 (.i (ixT m id_))) noOb ?_
 refine awp_seq ?_
 refine seqR ?_
 refine mG (.i (ixT m id_)) ?_
 refine bG ((.bool (decide ((ixT m id_) < 0)))) ?_
 refine op0 ?_
 refine awp_cond (decide ((ixT m id_) < 0)) rfl rfl (fun hc0 => ?_) (fun hc0 => ?_)
 ·skip
  have hf1 := of_decide_eq_true hc0
  have hx : ixT m id_ < 0 := of_decide_eq_true hc0
  refine seqR ?_
  refine mG (.i 0) ?_
  refine mG (.b false) ?_
  refine op0 ?_
  refine rT (upd (upd (upd (upd (upd none_ 0 (.q eT m)) 2 (.i now)) 6 (.i 0)) 7 (.b false)) 8 (.i (ixT m id_))) noOb ?_
  refine awp_ret ?_
  exact fret (av := .tup [.v (.int .i64 0), .v (.bool false)]) rfl rfl (by rw [left_no hx, has_no hx])
 ·skip
  have hf2 := of_decide_eq_false hc0
  have hx : ¬ ixT m id_ < 0 := of_decide_eq_false hc0
  have hxw := hw _ (getD_mem dT (show (ixT m id_).toNat < m.length by omega))
  refine awp_skip ?_
  refine awp_seq ?_
  refine seqR ?_
  refine mG (.q eT m) ?_
  refine mG (.i (ixT m id_)) ?_
  refine opG rfl (aop_ixI dT rfl rfl rfl ut36 sz68 rfl rfl (fun _ => rfl) rfl (by omega) (by first | omega | (simp; done) | decide | (simp at *; omega)) ?_)
  refine opG rfl (aop_fieldAddr (av := .rp (([.i ((m.getD (ixT m id_).toNat dT).id), .i ((m.getD (ixT m id_).toNat dT).at_)] : List AV) ++ ((enc eT m).drop (((ixT m id_).toNat + 1) * 2)))) (av' := .rp (([.i ((m.getD (ixT m id_).toNat dT).at_)] : List AV) ++ ((enc eT m).drop (((ixT m id_).toNat + 1) * 2)))) rfl rfl rfl ft68_1 sz2 rfl rfl rfl ?_)
  refine opG rfl (aop_ld (av := .i ((m.getD (ixT m id_).toNat dT).at_)) rfl rfl rfl ag2 rfl rfl ?_)
  refine mG (.i now) ?_
  refine bG ((.bool (decide (((m.getD (ixT m id_).toNat dT).at_) ≤ now)))) ?_
  refine op0 ?_
  refine rT (upd (upd (upd (upd (upd (upd none_ 0 (.q eT m)) 2 (.i now)) 6 (.i 0)) 7 (.b false)) 8 (.i (ixT m id_))) 21 (.b (decide (((m.getD (ixT m id_).toNat dT).at_) ≤ now)))) noOb ?_
  refine awp_cond (decide (((m.getD (ixT m id_).toNat dT).at_) ≤ now)) rfl rfl (fun hc1 => ?_) (fun hc1 => ?_)
  ·skip
   have hf3 := of_decide_eq_true hc1
   refine seqR ?_
   refine mG (.i 0) ?_
   refine mG (.b true) ?_
   refine op0 ?_
   refine awp_ret ?_
   exact fret (av := .tup [.v (.int .i64 0), .v (.bool true)]) rfl rfl (by rw [left_0 hx (of_decide_eq_true hc1), has_yes hx])
  ·skip
   have hf4 := of_decide_eq_false hc1
   refine awp_skip ?_
   refine seqR ?_
   refine mG (.q eT m) ?_
   refine mG (.i (ixT m id_)) ?_
   refine opG rfl (aop_ixI dT rfl rfl rfl ut36 sz68 rfl rfl (fun _ => rfl) rfl (by omega) (by first | omega | (simp; done) | decide | (simp at *; omega)) ?_)
   refine opG rfl (aop_fieldAddr (av := .rp (([.i ((m.getD (ixT m id_).toNat dT).id), .i ((m.getD (ixT m id_).toNat dT).at_)] : List AV) ++ ((enc eT m).drop (((ixT m id_).toNat + 1) * 2)))) (av' := .rp (([.i ((m.getD (ixT m id_).toNat dT).at_)] : List AV) ++ ((enc eT m).drop (((ixT m id_).toNat + 1) * 2)))) rfl rfl rfl ft68_1 sz2 rfl rfl rfl ?_)
   refine opG rfl (aop_ld (av := .i ((m.getD (ixT m id_).toNat dT).at_)) rfl rfl rfl ag2 rfl rfl ?_)
   refine opG rfl (aop_conv' rfl rfl rfl ut2 ut70 rfl rfl ?_)
   refine mG (.i now) ?_
   refine opG rfl (aop_conv' rfl rfl rfl ut2 ut70 rfl rfl ?_)
   refine opG rfl (aop_binI (u := (.int .u64 ((m.getD (ixT m id_).toNat dT).at_ - now))) rfl rfl rfl rfl rfl trivial (subU (of_decide_eq_false hc1) hxw hnw) ?_)
   refine mG (.v (.int .u64 ((m.getD (ixT m id_).toNat dT).at_ - now))) ?_
   refine op0 ?_
   refine rT (upd (upd (upd none_ 6 (.i 0)) 7 (.b false)) 9 (.v (.int .u64 ((m.getD (ixT m id_).toNat dT).at_ - now)))) noOb ?_
   refine awp_seq ?_
   refine seqR ?_
   refine mG (.v (.int .u64 ((m.getD (ixT m id_).toNat dT).at_ - now))) ?_
   refine bG ((.bool (decide (((m.getD (ixT m id_).toNat dT).at_ - now) > 9223372036854775807)))) ?_
   refine op0 ?_
   refine awp_cond (decide (((m.getD (ixT m id_).toNat dT).at_ - now) > 9223372036854775807)) rfl rfl (fun hc2 => ?_) (fun hc2 => ?_)
   ·skip
    have hf5 := of_decide_eq_true hc2
    refine seqR ?_
    refine mG (.i 9223372036854775807) ?_
    refine mG (.b true) ?_
    refine op0 ?_
    refine rT (upd (upd (upd none_ 6 (.i 9223372036854775807)) 7 (.b true)) 9 (.v (.int .u64 ((m.getD (ixT m id_).toNat dT).at_ - now)))) noOb ?_
    refine awp_ret ?_
    exact fret (av := .tup [.v (.int .i64 9223372036854775807), .v (.bool true)]) rfl rfl (by rw [left_big hx (of_decide_eq_false hc1) (of_decide_eq_true hc2) hxw hnw, has_yes hx])
   ·skip
    have hf6 := of_decide_eq_false hc2
    refine awp_skip ?_
    refine seqR ?_
    refine mG (.v (.int .u64 ((m.getD (ixT m id_).toNat dT).at_ - now))) ?_
    refine opG rfl (aop_conv' rfl rfl rfl ut70 ut2 rfl (convU (of_decide_eq_false hc1) (of_decide_eq_false hc2)) ?_)
    refine mG (.i ((m.getD (ixT m id_).toNat dT).at_ - now)) ?_
    refine mG (.b true) ?_
    refine op0 ?_
    refine rT (upd (upd none_ 6 (.i ((m.getD (ixT m id_).toNat dT).at_ - now))) 7 (.b true)) noOb ?_
    refine awp_ret ?_
    exact fret (av := .tup [.v (.int .i64 ((m.getD (ixT m id_).toNat dT).at_ - now)), .v (.bool true)]) rfl rfl (by rw [left_small hx (of_decide_eq_false hc1) (of_decide_eq_false hc2), has_yes hx])
theorem d_Start (m : List Tm) (id_ a : Int) (hm : m.length ≤ 65536) : Fn Try.prog 17 [.ro m.length (enc eT m), .v (.int .i64 id_), .v (.int .i64 a)] (.tup [.ro ((dstartT m id_ a).length) (enc eT (dstartT m id_ a)), .v (.int .i64 (errT m id_))]) := by
 have hdl := delT_len (l := m) (i := id_)
 refine fnE_of_body (N := 34) Try.func17 rfl rfl (resOf2 rfl) (by simp) (fun w0 X hL_ => ?_)
 refine seqR ?_
 refine mG (.v (.slice none 0 0)) ?_
 refine mG (.i 0) ?_
 refine op0 ?_
 refine seqR ?_
 refine mG (.q eT m) ?_
 refine mG (.i id_) ?_
 refine opG rfl (call_ (d_Stop m id_ (by first | omega | (simp; done) | decide | (simp at *; omega))) rfl rfl rfl rfl rfl bd18 rfl ?_)
 refine mG (.tup [.q eT (delT m id_), .b (hasT m id_)]) ?_
 refine opG rfl (aop_extract rfl rfl rfl rfl rfl ?_)
 refine opG rfl (aop_extract rfl rfl rfl rfl rfl ?_)
 refine mG (.q eT (delT m id_)) ?_
 refine mG (.b (hasT m id_)) ?_
 refine op0 ?_
 refine rT (upd (upd (upd (upd (upd (upd (upd none_ 0 (.q eT m)) 1 (.i id_)) 2 (.i a)) 6 (.v (.slice none 0 0))) 7 (.i 0)) 8 (.q eT (delT m id_))) 9 (.b (hasT m id_))) noOb ?_
 refine awp_seq ?_
 refine seqR ?_
 refine mG (.b (hasT m id_)) ?_
 refine opG rfl (aop_not rfl rfl rfl rfl ?_)
 refine mG (.b (!(hasT m id_))) ?_
 refine aops_grp 4 23 (.b ((!(hasT m id_)) && (decide ((m.length : Int) ≥ 32)))) ?_ ?_
 ·refine (Bool.eq_false_or_eq_true (!(hasT m id_))).elim (fun hg1 => ?_) (fun hg1 => ?_)
  ·skip
   have hf2 := not_t hg1
   refine oY hg1 (aop_move (av := .q eT m) (.inl rfl) rfl rfl rfl ?_)
   refine oY hg1 (aop_len rfl rfl rfl rfl ut36 (len_ro rfl) ?_)
   refine oY hg1 (aop_binI (u := (.bool (decide ((m.length : Int) ≥ 32)))) rfl rfl rfl rfl rfl trivial rfl ?_)
   refine opG rfl (aop_pick (b := (!(hasT m id_))) (av := .b (decide ((m.length : Int) ≥ 32))) rfl rfl rfl rfl ((congrArg (fun b_ => cond b_ _ _) hg1).trans rfl) ?_)
   refine op0 ?_
   exact imp_env (lee_both 23 _ _ (by rw [hg1] <;> rfl) (lee_out 22 _ rfl (lee_out 21 _ rfl (lee_out 20 _ rfl (lee_same _)))))
  ·skip
   have hf3 := not_f hg1
   refine nG hg1 ?_
   refine nG hg1 ?_
   refine nG hg1 ?_
   refine opG rfl (aop_pick (b := (!(hasT m id_))) (av := .b false) rfl rfl rfl rfl ((congrArg (fun b_ => cond b_ _ _) hg1).trans rfl) ?_)
   refine op0 ?_
   exact imp_env (lee_both 23 _ _ (by rw [hg1] <;> rfl) (lee_out 22 _ rfl (lee_out 21 _ rfl (lee_out 20 _ rfl (lee_same _)))))
 refine op0 ?_
 refine awp_cond ((!(hasT m id_)) && (decide ((m.length : Int) ≥ 32))) rfl rfl (fun hc0 => ?_) (fun hc0 => ?_)
 ·skip
  obtain ⟨hf4a, hf4b⟩ := and_t hc0
  have hf5 := not_t hf4a
  have hf6 := of_decide_eq_true hf4b
  have hf : fullT m id_ = true := by rw [fullT_eq]; exact hc0
  refine seqR ?_
  refine mG (.q eT m) ?_
  refine mG (.q eT m) ?_
  refine mG (.i 6) ?_
  refine op0 ?_
  refine rT (upd (upd (upd (upd (upd none_ 1 (.i id_)) 2 (.i a)) 6 (.q eT m)) 7 (.i 6)) 8 (.q eT (delT m id_))) noOb ?_
  refine awp_ret ?_
  exact fret (av := .tup [.ro m.length (enc eT m), .v (.int .i64 6)]) rfl rfl (by rw [show dstartT m id_ a = m from if_pos hf, show errT m id_ = 6 from if_pos hf])
 ·skip
  have hf : ¬ fullT m id_ = true := by rw [fullT_eq, hc0]; simp
  refine awp_skip ?_
  refine seqR ?_
  refine mG (.v (.slice none 0 0)) ?_
  refine op0 ?_
  refine rT (upd (upd (upd (upd (upd (upd none_ 1 (.i id_)) 2 (.i a)) 6 (.v (.slice none 0 0))) 7 (.i 0)) 8 (.q eT (delT m id_))) 10 (.v (.slice none 0 0))) noOb ?_
  refine seqR ?_
  refine mG (.v (.slice none 0 0)) ?_
  refine mG (.q eT (delT m id_)) ?_
  refine opG rfl (aop_adopt 25 51 68 2 rfl rfl (aop_appE (f := eT) (l := ([] : List Tm)) (l2 := delT m id_) 52 rfl rfl rfl rfl ut36 in68 rfl (by decide) rfl rfl rfl rfl rfl rfl (fun _ => rfl) rfl rfl rfl (by first | omega | (simp; done) | decide | (simp at *; omega)) (by first | omega | (simp; done) | decide | (simp at *; omega)) rfl ?_))
  refine mG (.sl 52 0 ((([] : List Tm) ++ (delT m id_)).length)) ?_
  refine op0 ?_
  refine rT (upd (upd (upd (upd (upd none_ 1 (.i id_)) 2 (.i a)) 6 (.v (.slice none 0 0))) 7 (.i 0)) 10 (.sl 52 0 ((([] : List Tm) ++ (delT m id_)).length))) (updO (updO (updO noOb 51 (.live ⟨[], 68, 2⟩)) 51 .dead) 52 (.live ⟨(enc eT (([] : List Tm) ++ (delT m id_))), 68, 2⟩)) ?_
  refine seqR ?_
  refine mG (.sl 52 0 ((([] : List Tm) ++ (delT m id_)).length)) ?_
  refine mG (.i id_) ?_
  refine mG (.i a) ?_
  refine opG rfl (aop_build rfl rfl rfl pl68 rfl ?_)
  refine opG rfl (aop_lit rfl rfl rfl ut36 iz68 (by decide) (by decide) rfl rfl ?_)
  refine opG rfl (aop_app1 (f := eT) (l := ([] : List Tm) ++ (delT m id_)) 53 (⟨id_, a⟩ : Tm) rfl rfl rfl rfl ut36 in68 rfl (by decide) rfl rfl rfl rfl rfl rfl (fun _ => rfl) rfl rfl (by first | omega | (simp; done) | decide | (simp at *; omega)) (by first | omega | (simp; done) | decide | (simp at *; omega)) rfl ?_)
  refine mG (.sl 53 0 (((([] : List Tm) ++ (delT m id_)) ++ [(⟨id_, a⟩ : Tm)]).length)) ?_
  refine mG (.i 0) ?_
  refine op0 ?_
  refine rT (upd (upd none_ 6 (.sl 53 0 (((([] : List Tm) ++ (delT m id_)) ++ [(⟨id_, a⟩ : Tm)]).length))) 7 (.i 0)) (updO (updO (updO (updO (updO noOb 51 (.live ⟨[], 68, 2⟩)) 51 .dead) 52 (.live ⟨(enc eT (([] : List Tm) ++ (delT m id_))), 68, 2⟩)) 52 .dead) 53 (.live ⟨(enc eT ((([] : List Tm) ++ (delT m id_)) ++ [(⟨id_, a⟩ : Tm)])), 68, 2⟩)) ?_
  refine awp_imp _ (imp_frozen rfl (fun _ h => h) (lee_lend 7 (.i 0) (lend_n (av := .i 0)) (lee_lend 6 (.q eT ((([] : List Tm) ++ (delT m id_)) ++ [(⟨id_, a⟩ : Tm)])) (lend_s (id := 53) (n := ((([] : List Tm) ++ (delT m id_)) ++ [(⟨id_, a⟩ : Tm)]).length) (o := ⟨(enc eT ((([] : List Tm) ++ (delT m id_)) ++ [(⟨id_, a⟩ : Tm)])), 68, 2⟩) rfl (enc_len (fun _ => rfl) (by first | rfl | (simp; done)))) lee_lend0))) ?_
  refine awp_ret ?_
  exact fret (av := .tup [.ro (((([] : List Tm) ++ (delT m id_)) ++ [(⟨id_, a⟩ : Tm)]).length) (enc eT ((([] : List Tm) ++ (delT m id_)) ++ [(⟨id_, a⟩ : Tm)])), .v (.int .i64 0)]) rfl rfl (by rw [show dstartT m id_ a = putT m id_ a from if_neg hf, show errT m id_ = 0 from if_neg hf]; rfl)
theorem delOneA (l : List Tm) (k : Nat) (hk : k + 1 < l.length) (hl : l.length ≤ 65536) : FnGO Try.prog 30 [⟨(enc eT l), 59, 2⟩] [.sl 0 0 l.length, .v (.int .i64 (k : Int)), .v (.int .i64 ((k + 1 : Nat) : Int))] (.sl 0 0 (l.length - 1)) [.live ⟨(enc eT (l.take k ++ l.drop (k + 1) ++ [dT])), 59, 2⟩] := by
 have hk1 : k < l.length := by omega
 refine fnG_of_body (N := 33) 1 rfl Try.func30 rfl rfl (resOf1 rfl) (by simp) (fun w0 G C hL_ hLG_ => ?_)
 refine seqR ?_
 refine mG (.v (.slice none 0 0)) ?_
 refine op0 ?_
 refine seqR ?_
 refine mG (.sl 0 0 l.length) ?_
 refine mG (.i (k : Int)) ?_
 refine mG (.i ((k + 1 : Nat) : Int)) ?_
 refine mG (.sl 0 0 l.length) ?_
 refine opG rfl (aop_len rfl rfl rfl rfl ut55 (len_sl rfl) ?_)
 refine opG rfl (aop_slice3 (l := k) (hgh := (k + 1)) (mx := l.length) rfl rfl rfl ut55 sz59 rfl rfl rfl rfl (by first | omega | (simp; done) | decide | (simp at *; omega)) (by first | omega | (simp; done) | decide | (simp at *; omega)) (by first | omega | (simp; done) | decide | (simp at *; omega)) ?_)
 refine op0 ?_
 refine rT (upd (upd (upd (upd none_ 0 (.sl 0 0 l.length)) 1 (.i (k : Int))) 2 (.i ((k + 1 : Nat) : Int))) 6 (.v (.slice none 0 0))) (updO noOb 0 (.live ⟨(enc eT l), 59, 2⟩)) ?_
 refine awp_seq ?_
 refine seqR ?_
 refine mG (.i (k : Int)) ?_
 refine mG (.i ((k + 1 : Nat) : Int)) ?_
 refine bG ((.bool ((k : Int) == ((k + 1 : Nat) : Int)))) ?_
 refine op0 ?_
 refine awp_cond ((k : Int) == ((k + 1 : Nat) : Int)) rfl rfl (fun hc0 => ?_) (fun hc0 => ?_)
 ·skip
  have hf1 := (beq_iff_eq).1 hc0
  exfalso; omega
 ·skip
  have hf2 := (beq_eq_false_iff_ne).1 hc0
  refine awp_skip ?_
  refine seqR ?_
  refine mG (.sl 0 0 l.length) ?_
  refine opG rfl (aop_len rfl rfl rfl rfl ut55 (len_sl rfl) ?_)
  refine mG (.i (l.length : Int)) ?_
  refine op0 ?_
  refine rT (upd (upd (upd (upd (upd none_ 0 (.sl 0 0 l.length)) 1 (.i (k : Int))) 2 (.i ((k + 1 : Nat) : Int))) 6 (.v (.slice none 0 0))) 7 (.i (l.length : Int))) (updO noOb 0 (.live ⟨(enc eT l), 59, 2⟩)) ?_
  refine awp_seq ?_
  refine awp_draw (m := 6) [(25, .sl 0 (0 + (k + 1) * 2) (l.length - (k + 1))), (24, .i ((k + 1 : Nat) : Int)), (23, .sl 0 0 l.length), (22, .sl 0 0 k), (21, .i (k : Int)), (20, .sl 0 0 l.length)] mixed (by kernel_rfl) ?_ ?_
  ·refine ⟨?_, ?_, ?_, ?_, ?_, ?_, trivial⟩
   ·exact sMv
   ·exact sMv
   ·exact ⟨22, rfl, blt_lt rfl, fun st hob hE => aop_sliceOwn (hgh := k) rfl rfl rfl ut55 sz59 (hE 20 rfl) ⟨_, (hE 21 rfl)⟩ (by first | omega | (simp; done) | decide | (simp at *; omega)) (by rw [hob]; rfl)⟩
   ·exact sMv
   ·exact sMv
   ·exact ⟨25, rfl, blt_lt rfl, fun st hob hE => aop_sliceFrom (l := k + 1)  rfl rfl rfl ut55 sz59 (hE 23 rfl) (by rw [hob]; rfl) (by rfl) ⟨_, (hE 24 rfl)⟩ (by first | omega | (simp; done) | decide | (simp at *; omega)) (by rw [hob]; rfl)⟩
  refine opG rfl (aop_appendIn (ob := ⟨(enc eT l), 59, 2⟩) (cells' := enc eT (l.take k ++ l.drop (k + 1) ++ l.drop (l.length - 1))) rfl rfl rfl rfl ut55 sz59 (by decide) rfl rfl rfl rfl (by rw [enc_length (f := eT) (s := 2) eT_len]; omega) (by rw [enc_length (f := eT) (s := 2) eT_len]; omega) (by rw [enc_length (f := eT) (s := 2) eT_len]; omega) (app_in hk1) ?_)
  refine mG (.sl 0 0 (k + (l.length - (k + 1)))) ?_
  refine op0 ?_
  refine seqR ?_
  refine mG (.sl 0 0 (k + (l.length - (k + 1)))) ?_
  refine mG (.sl 0 0 (k + (l.length - (k + 1)))) ?_
  refine opG rfl (aop_len rfl rfl rfl rfl ut55 (len_sl rfl) ?_)
  refine mG (.i (l.length : Int)) ?_
  refine opG rfl (aop_sliceIn (l := (k + (l.length - (k + 1)))) (hgh := l.length) (ob := ⟨(enc eT (l.take k ++ l.drop (k + 1) ++ l.drop (l.length - 1))), 59, 2⟩) rfl rfl rfl ut55 sz59 (by decide) rfl rfl rfl ⟨_, rfl⟩ ⟨_, rfl⟩ (by first | omega | (simp; done) | decide | (simp at *; omega)) (fit_in2 hk1) ?_)
  refine opG rfl (aop_clear (n := l.length - (k + (l.length - (k + 1)))) (ob := ⟨(enc eT (l.take k ++ l.drop (k + 1) ++ l.drop (l.length - 1))), 59, 2⟩) rfl rfl rfl rfl ut55 (run_zero_ ze59) rfl rfl rfl (by first | omega | (simp; done) | decide | (simp at *; omega)) (fit_in hk1) (clr_in hk1 (del_len hk1)) ?_)
  refine op0 ?_
  refine rT (upd (upd none_ 0 (.sl 0 0 (k + (l.length - (k + 1))))) 6 (.v (.slice none 0 0))) (updO (updO (updO noOb 0 (.live ⟨(enc eT l), 59, 2⟩)) 0 (.live ⟨(enc eT (l.take k ++ l.drop (k + 1) ++ l.drop (l.length - 1))), 59, 2⟩)) 0 (.live ⟨(enc eT (l.take k ++ l.drop (k + 1) ++ [dT])), 59, 2⟩)) ?_
  refine seqR ?_
  refine mG (.sl 0 0 (k + (l.length - (k + 1)))) ?_
  refine mG (.sl 0 0 (k + (l.length - (k + 1)))) ?_
  refine op0 ?_
  refine awp_imp ⟨(upd none_ 6 (.sl 0 0 (l.length - 1))), (updO noOb 0 (.live ⟨(enc eT (l.take k ++ l.drop (k + 1) ++ [dT])), 59, 2⟩))⟩ ?_ ?_
  ·skip
   exact iL [(0, 0)] [((0, 0), .live _)] ⟨row_no rfl rfl, trivial⟩ (he := (sM (by exact congrArg (AV.sl 0 0) (by omega)) sr_none))
  refine awp_ret ?_
  exact fretG rfl rfl rfl rfl
theorem delOneB (l : List Tm) (k : Nat) (hk : k + 1 = l.length) (hl : l.length ≤ 65536) : FnGO Try.prog 30 [⟨(enc eT l), 59, 2⟩] [.sl 0 0 l.length, .v (.int .i64 (k : Int)), .v (.int .i64 ((k + 1 : Nat) : Int))] (.sl 0 0 (l.length - 1)) [.live ⟨(enc eT (l.take k ++ l.drop (k + 1) ++ [dT])), 59, 2⟩] := by
 have hk1 : k < l.length := by omega
 refine fnG_of_body (N := 33) 1 rfl Try.func30 rfl rfl (resOf1 rfl) (by simp) (fun w0 G C hL_ hLG_ => ?_)
 refine seqR ?_
 refine mG (.v (.slice none 0 0)) ?_
 refine op0 ?_
 refine seqR ?_
 refine mG (.sl 0 0 l.length) ?_
 refine mG (.i (k : Int)) ?_
 refine mG (.i ((k + 1 : Nat) : Int)) ?_
 refine mG (.sl 0 0 l.length) ?_
 refine opG rfl (aop_len rfl rfl rfl rfl ut55 (len_sl rfl) ?_)
 refine opG rfl (aop_slice3 (l := k) (hgh := (k + 1)) (mx := l.length) rfl rfl rfl ut55 sz59 rfl rfl rfl rfl (by first | omega | (simp; done) | decide | (simp at *; omega)) (by first | omega | (simp; done) | decide | (simp at *; omega)) (by first | omega | (simp; done) | decide | (simp at *; omega)) ?_)
 refine op0 ?_
 refine rT (upd (upd (upd (upd none_ 0 (.sl 0 0 l.length)) 1 (.i (k : Int))) 2 (.i ((k + 1 : Nat) : Int))) 6 (.v (.slice none 0 0))) (updO noOb 0 (.live ⟨(enc eT l), 59, 2⟩)) ?_
 refine awp_seq ?_
 refine seqR ?_
 refine mG (.i (k : Int)) ?_
 refine mG (.i ((k + 1 : Nat) : Int)) ?_
 refine bG ((.bool ((k : Int) == ((k + 1 : Nat) : Int)))) ?_
 refine op0 ?_
 refine awp_cond ((k : Int) == ((k + 1 : Nat) : Int)) rfl rfl (fun hc0 => ?_) (fun hc0 => ?_)
 ·skip
  have hf1 := (beq_iff_eq).1 hc0
  exfalso; omega
 ·skip
  have hf2 := (beq_eq_false_iff_ne).1 hc0
  refine awp_skip ?_
  refine seqR ?_
  refine mG (.sl 0 0 l.length) ?_
  refine opG rfl (aop_len rfl rfl rfl rfl ut55 (len_sl rfl) ?_)
  refine mG (.i (l.length : Int)) ?_
  refine op0 ?_
  refine rT (upd (upd (upd (upd (upd none_ 0 (.sl 0 0 l.length)) 1 (.i (k : Int))) 2 (.i ((k + 1 : Nat) : Int))) 6 (.v (.slice none 0 0))) 7 (.i (l.length : Int))) (updO noOb 0 (.live ⟨(enc eT l), 59, 2⟩)) ?_
  refine awp_seq ?_
  refine awp_draw (m := 6) [(25, .ro 0 []), (24, .i ((k + 1 : Nat) : Int)), (23, .sl 0 0 l.length), (22, .sl 0 0 k), (21, .i (k : Int)), (20, .sl 0 0 l.length)] mixed (by kernel_rfl) ?_ ?_
  ·refine ⟨?_, ?_, ?_, ?_, ?_, ?_, trivial⟩
   ·exact sMv
   ·exact sMv
   ·exact ⟨22, rfl, blt_lt rfl, fun st hob hE => aop_sliceOwn (hgh := k) rfl rfl rfl ut55 sz59 (hE 20 rfl) ⟨_, (hE 21 rfl)⟩ (by first | omega | (simp; done) | decide | (simp at *; omega)) (by rw [hob]; rfl)⟩
   ·exact sMv
   ·exact sMv
   ·exact ⟨25, rfl, blt_lt rfl, fun st hob hE => aop_sliceEnd (l := (k + 1)) rfl rfl rfl ut55 sz59 (hE 23 rfl) ⟨_, (hE 24 rfl)⟩ (by first | omega | (simp; done) | decide | (simp at *; omega)) (by rw [hob]; rfl)⟩
  refine opG rfl (aop_appendIn0 rfl rfl rfl rfl ut55 sz59 rfl rfl ?_)
  refine mG (.sl 0 0 k) ?_
  refine op0 ?_
  refine seqR ?_
  refine mG (.sl 0 0 k) ?_
  refine mG (.sl 0 0 k) ?_
  refine opG rfl (aop_len rfl rfl rfl rfl ut55 (len_sl rfl) ?_)
  refine mG (.i (l.length : Int)) ?_
  refine opG rfl (aop_sliceIn (l := k) (hgh := l.length) (ob := ⟨(enc eT l), 59, 2⟩) rfl rfl rfl ut55 sz59 (by decide) rfl rfl rfl ⟨_, rfl⟩ ⟨_, rfl⟩ (by first | omega | (simp; done) | decide | (simp at *; omega)) (by rw [enc_length (f := eT) (s := 2) eT_len]; omega) ?_)
  refine opG rfl (aop_clear (n := l.length - k) (ob := ⟨(enc eT l), 59, 2⟩) rfl rfl rfl rfl ut55 (run_zero_ ze59) rfl rfl rfl (by first | omega | (simp; done) | decide | (simp at *; omega)) (fit_end hk) (clr_end hk) ?_)
  refine op0 ?_
  refine rT (upd (upd none_ 0 (.sl 0 0 k)) 6 (.v (.slice none 0 0))) (updO (updO noOb 0 (.live ⟨(enc eT l), 59, 2⟩)) 0 (.live ⟨(enc eT (l.take k ++ l.drop (k + 1) ++ [dT])), 59, 2⟩)) ?_
  refine seqR ?_
  refine mG (.sl 0 0 k) ?_
  refine mG (.sl 0 0 k) ?_
  refine op0 ?_
  refine awp_imp ⟨(upd none_ 6 (.sl 0 0 (l.length - 1))), (updO noOb 0 (.live ⟨(enc eT (l.take k ++ l.drop (k + 1) ++ [dT])), 59, 2⟩))⟩ ?_ ?_
  ·skip
   exact iL [(0, 0)] [((0, 0), .live _)] ⟨row_no rfl rfl, trivial⟩ (he := (sM (by exact congrArg (AV.sl 0 0) (by omega)) sr_none))
  refine awp_ret ?_
  exact fretG rfl rfl rfl rfl
theorem delOne (l : List Tm) (k : Nat) (hk1 : k < l.length) (hl : l.length ≤ 65536) : FnGO Try.prog 30 [⟨enc eT l, 59, 2⟩] [.sl 0 0 l.length, .v (.int .i64 (k : Int)), .v (.int .i64 ((k + 1 : Nat) : Int))] (.sl 0 0 (l.length - 1)) [.live ⟨enc eT (l.take k ++ l.drop (k + 1) ++ [dT]), 59, 2⟩] := by
 rcases Nat.lt_or_ge (k + 1) l.length with h | h
 ·exact delOneA l k h hl
 ·exact delOneB l k (by omega) hl
theorem t_Stop (l : List Tm) (id_ : Int) (hl : l.length ≤ 65536) : FnGO Try.prog 15 [⟨[.sl 1 0 l.length], 57, 1⟩, ⟨(enc eT l), 59, 2⟩] [.pt 0 0, .v (.int .i64 id_)] (.v (.bool (hasT l id_))) [.live ⟨[.sl 1 0 ((delT l id_).length)], 57, 1⟩, .live ⟨(enc eT (delT l id_)), 59, 2⟩] := by
 have hrg := ixT_range l id_
 refine fnG_of_body (N := 22) 2 rfl Try.func15 rfl rfl (resOf1 rfl) (by simp) (fun w0 G C hL_ hLG_ => ?_)
 refine seqR ?_
 refine mG (.b false) ?_
 refine op0 ?_
 refine seqR ?_
 refine mG (.pt 0 0) ?_
 refine mG (.i id_) ?_
 refine opG rfl (callL_ (t_place l id_ (by first | omega | (simp; done) | decide | (simp at *; omega))) rfl rfl rfl rfl rfl bd29 (lends_cons (lend_pt rfl (lends_cons (lend_s (id := 1) (n := l.length) (o := ⟨(enc eT l), 59, 2⟩) rfl (enc_len (fun _ => rfl) (by first | rfl | (simp; done)))) lends_nil)) (lends_cons (lend_n (av := .i id_)) lends_nil)) ?_)
 refine mG (.i (ixT l id_)) ?_
 refine op0 ?_
 refine rT (upd (upd (upd none_ 0 (.pt 0 0)) 4 (.b false)) 5 (.i (ixT l id_))) (updO (updO noOb 0 (.live ⟨[.sl 1 0 l.length], 57, 1⟩)) 1 (.live ⟨(enc eT l), 59, 2⟩)) ?_
 refine awp_seq ?_
 refine seqR ?_
 refine mG (.i (ixT l id_)) ?_
 refine bG ((.bool (decide ((ixT l id_) < 0)))) ?_
 refine op0 ?_
 refine awp_cond (decide ((ixT l id_) < 0)) rfl rfl (fun hc0 => ?_) (fun hc0 => ?_)
 ·skip
  have hf1 := of_decide_eq_true hc0
  have hx : ixT l id_ < 0 := of_decide_eq_true hc0
  refine seqR ?_
  refine mG (.b false) ?_
  refine op0 ?_
  refine awp_imp ⟨(upd none_ 4 (.b (hasT l id_))), (updO (updO noOb 0 (.live ⟨[.sl 1 0 ((delT l id_).length)], 57, 1⟩)) 1 (.live ⟨(enc eT (delT l id_)), 59, 2⟩))⟩ ?_ ?_
  ·skip
   exact iL [(0, 0), (1, 1)] [((0, 0), .live _), ((1, 1), .live _)] ⟨row_map (o := ⟨[.sl 1 0 l.length], 57, 1⟩) rfl (by rw [delT_no hx]; exact om_ (lm_cons rfl lm_nil)) (oks_cons (.sl _ _ _ (by simp)) oks_nil), row_no rfl (by rw [delT_no hx]), trivial⟩ (he := (sS (by rw [has_no hx] <;> rfl) sr_none))
  refine awp_ret ?_
  exact fretG rfl rfl rfl rfl
 ·skip
  have hf2 := of_decide_eq_false hc0
  have hx : ¬ ixT l id_ < 0 := of_decide_eq_false hc0
  refine awp_skip ?_
  refine seqR ?_
  refine mG (.pt 0 0) ?_
  refine mG (.pt 0 0) ?_
  refine opG rfl (aop_nilCheck rfl rfl rfl rfl rfl ?_)
  refine fG (.pt 0 0) ft57_0 sz55 ?_
  refine opG rfl (aop_ld (av := .sl 1 0 l.length) rfl rfl rfl ag55 rfl rfl ?_)
  refine opG rfl (aop_eqv (d := 16) (a := .i (ixT l id_)) (b := .i (((ixT l id_).toNat : Nat) : Int)) (aop_move (av := .i (ixT l id_)) (.inl rfl) rfl rfl rfl rfl) (by rw [Int.toNat_of_nonneg (by omega)]) ?_)
  refine opG rfl (aop_eqv (d := 17) (a := .i (ixT l id_)) (b := .i (((ixT l id_).toNat : Nat) : Int)) (aop_move (av := .i (ixT l id_)) (.inl rfl) rfl rfl rfl rfl) (by rw [Int.toNat_of_nonneg (by omega)]) ?_)
  refine opG rfl (aop_eqv (d := 18) (a := .i (((ixT l id_).toNat + 1 : Nat) : Int)) (b := .i (((ixT l id_).toNat + 1 : Nat) : Int)) (aop_binI (u := (.int .i64 (((ixT l id_).toNat + 1 : Nat) : Int))) rfl rfl rfl rfl rfl trivial (addN (by omega)) rfl) (by rw [Int.natCast_add] <;> rfl) ?_)
  refine opG rfl (callG_ false [1] [] (delOne l (ixT l id_).toNat (by omega) hl) rfl rfl rfl rfl rfl bd30 (by decide) ⟨giv_no (o := ⟨(enc eT l), 59, 2⟩) rfl rfl, trivial⟩ ⟨(arg_own (.sl _ _ _ (by simp)) rfl), (arg_no (a := .i (((ixT l id_).toNat : Nat) : Int))), (arg_no (a := .i (((ixT l id_).toNat + 1 : Nat) : Int))), trivial⟩ rfl trivial (fun h => by cases h) rfl (place_cons (ost_no (cs := (enc eT (l.take ((ixT l id_).toNat) ++ l.drop (((ixT l id_).toNat) + 1) ++ [dT])))) place_nil) ?_)
  refine opG rfl (aop_nilCheck rfl rfl rfl rfl rfl ?_)
  refine fG (.pt 0 0) ft57_0 sz55 ?_
  refine opG rfl (aop_store rfl rfl rfl sz55 rfl rfl rfl rfl rfl (Nat.le_of_ble_eq_true rfl) rfl rfl ?_)
  refine op0 ?_
  refine rT (upd none_ 4 (.b false)) (updO (updO (updO (updO noOb 0 (.live ⟨[.sl 1 0 l.length], 57, 1⟩)) 1 (.live ⟨(enc eT l), 59, 2⟩)) 1 (.live ⟨(enc eT (l.take ((ixT l id_).toNat) ++ l.drop (((ixT l id_).toNat) + 1) ++ [dT])), 59, 2⟩)) 0 (.live ⟨[.sl 1 0 (l.length - 1)], 57, 1⟩)) ?_
  refine seqR ?_
  refine mG (.b true) ?_
  refine op0 ?_
  refine awp_imp ⟨(upd none_ 4 (.b (hasT l id_))), (updO (updO noOb 0 (.live ⟨[.sl 1 0 ((delT l id_).length)], 57, 1⟩)) 1 (.live ⟨(enc eT (delT l id_)), 59, 2⟩))⟩ ?_ ?_
  ·skip
   refine (imp_cut (id := 1) (cs := enc eT (l.take (ixT l id_).toNat ++ l.drop ((ixT l id_).toNat + 1))) (r := enc eT [dT]) (congrArg (fun c_ => OSt.live ⟨c_, 59, 2⟩) (enc_append eT (l.take (ixT l id_).toNat ++ l.drop ((ixT l id_).toNat + 1)) [dT]))).trans ?_
   exact iL [(0, 0), (1, 1)] [((0, 0), .live _), ((1, 1), .live _)] ⟨row_map (o := ⟨[.sl 1 0 (l.length - 1)], 57, 1⟩) rfl (by rw [delT_len1 hx]; exact (om_ (lm_cons rfl lm_nil))) (oks_cons (.sl _ _ _ (by simp)) oks_nil), row_no (o := ⟨(enc eT (l.take (ixT l id_).toNat ++ l.drop ((ixT l id_).toNat + 1))), 59, 2⟩) rfl (by rw [delT_yes hx]), trivial⟩ (he := (sS (by rw [has_yes hx] <;> rfl) sr_none))
  refine awp_ret ?_
  exact fretG rfl rfl rfl rfl
theorem sortOne (l : List Tm) (h0 : 0 < l.length) (hl : l.length ≤ 1000000) : FnGO Try.prog 24 [⟨enc eT l, 59, 2⟩] [.sl 0 0 l.length, .fn 25 []] (.tup []) [.live ⟨enc eT (sortT l), 59, 2⟩] :=
 sort_G (ρ := Ythfmdljohlolpaa.sortRen) Ythfmdljohlolpaa.sortLays (fun w => Go.Lo.run_isAgg (by kernel_rfl) w) (fun w => Go.Lo.run_sizeOf (by kernel_rfl) w) _ (by kernel_rfl) Ythfmdljohlolpaa.cmpOk [] l h0 hl
theorem t_Start (l : List Tm) (id_ a : Int) (hl : l.length ≤ 65530) : FnGO Try.prog 11 [⟨[.sl 1 0 l.length], 57, 1⟩, ⟨(enc eT l), 59, 2⟩] [.pt 0 0, .v (.int .i64 id_), .v (.int .i64 a)] (.v (.int .i64 (errT l id_))) [.live ⟨[.sl 2 0 ((startT l id_ a).length)], 57, 1⟩, .dead, .live ⟨(enc eT (startT l id_ a)), 59, 2⟩] := by
 have hdl := delT_len (l := l) (i := id_)
 refine fnG_of_body (N := 38) 2 rfl Try.func11 rfl rfl (resOf1 rfl) (by simp) (fun w0 G C hL_ hLG_ => ?_)
 refine seqR ?_
 refine mG (.i 0) ?_
 refine op0 ?_
 refine awp_seq ?_
 refine seqR ?_
 refine mG (.pt 0 0) ?_
 refine opG rfl (aop_ptNil rfl rfl rfl ut24 rfl rfl rfl (.inl ⟨rfl, rfl⟩) ?_)
 refine op0 ?_
 refine awp_cond false rfl rfl (fun h => by cases h) (fun _ => ?_)
 refine awp_skip ?_
 refine awp_seq ?_
 refine seqR ?_
 refine mG (.pt 0 0) ?_
 refine mG (.i id_) ?_
 refine opG rfl (callG_ false [0, 1] [] (t_Stop l id_ (by first | omega | (simp; done) | decide | (simp at *; omega))) rfl rfl rfl rfl rfl bd15 (by decide) ⟨giv_map (o := ⟨[.sl 1 0 l.length], 57, 1⟩) rfl (om_ (lm_cons rfl lm_nil)) (oks_cons (.sl _ _ _ (by simp)) oks_nil), giv_no (o := ⟨(enc eT l), 59, 2⟩) rfl rfl, trivial⟩ ⟨(arg_own (.pt _ _ (by simp)) rfl), (arg_no (a := .i id_)), trivial⟩ rfl trivial (fun h => by cases h) (am_no (a := .b (hasT l id_))) (place_cons (ost_map (lm_cons rfl lm_nil)) (place_cons (ost_no (cs := (enc eT (delT l id_)))) place_nil)) ?_)
 refine opG rfl (aop_not rfl rfl rfl rfl ?_)
 refine mG (.b (!(hasT l id_))) ?_
 refine aops_grp 7 20 (.b ((!(hasT l id_)) && (decide (((delT l id_).length : Int) ≥ 32)))) ?_ ?_
 ·refine (Bool.eq_false_or_eq_true (!(hasT l id_))).elim (fun hg1 => ?_) (fun hg1 => ?_)
  ·skip
   have hf2 := not_t hg1
   refine oY hg1 (aop_move (av := .pt 0 0) (.inl rfl) rfl rfl rfl ?_)
   refine oY hg1 (aop_nilCheck rfl rfl rfl rfl rfl ?_)
   refine oY hg1 (aop_fieldAddr (av := .pt 0 0) (av' := .pt 0 0) rfl rfl rfl ft57_0 sz55 rfl rfl rfl ?_)
   refine oY hg1 (aop_ld (av := .sl 1 0 ((delT l id_).length)) rfl rfl rfl ag55 rfl rfl ?_)
   refine oY hg1 (aop_len rfl rfl rfl rfl ut55 (len_sl rfl) ?_)
   refine oY hg1 (aop_binI (u := (.bool (decide (((delT l id_).length : Int) ≥ 32)))) rfl rfl rfl rfl rfl trivial rfl ?_)
   refine opG rfl (aop_pick (b := (!(hasT l id_))) (av := .b (decide (((delT l id_).length : Int) ≥ 32))) rfl rfl rfl rfl ((congrArg (fun b_ => cond b_ _ _) hg1).trans rfl) ?_)
   refine op0 ?_
   exact imp_env (lee_both 20 _ _ (by rw [hg1] <;> rfl) (lee_out 19 _ rfl (lee_out 18 _ rfl (lee_out 17 _ rfl (lee_out 16 _ rfl (lee_out 15 _ rfl (lee_out 14 _ rfl (lee_same _))))))))
  ·skip
   have hf3 := not_f hg1
   refine nG hg1 ?_
   refine nG hg1 ?_
   refine nG hg1 ?_
   refine nG hg1 ?_
   refine nG hg1 ?_
   refine nG hg1 ?_
   refine opG rfl (aop_pick (b := (!(hasT l id_))) (av := .b false) rfl rfl rfl rfl ((congrArg (fun b_ => cond b_ _ _) hg1).trans rfl) ?_)
   refine op0 ?_
   exact imp_env (lee_both 20 _ _ (by rw [hg1] <;> rfl) (lee_out 19 _ rfl (lee_out 18 _ rfl (lee_out 17 _ rfl (lee_out 16 _ rfl (lee_out 15 _ rfl (lee_out 14 _ rfl (lee_same _))))))))
 refine op0 ?_
 refine rT (upd (upd (upd (upd (upd none_ 0 (.pt 0 0)) 1 (.i id_)) 2 (.i a)) 6 (.i 0)) 20 (.b ((!(hasT l id_)) && (decide (((delT l id_).length : Int) ≥ 32))))) (updO (updO (updO (updO noOb 0 (.live ⟨[.sl 1 0 l.length], 57, 1⟩)) 1 (.live ⟨(enc eT l), 59, 2⟩)) 0 (.live ⟨[.sl 1 0 ((delT l id_).length)], 57, 1⟩)) 1 (.live ⟨(enc eT (delT l id_)), 59, 2⟩)) ?_
 refine awp_cond ((!(hasT l id_)) && (decide (((delT l id_).length : Int) ≥ 32))) rfl rfl (fun hc1 => ?_) (fun hc1 => ?_)
 ·skip
  obtain ⟨hf4a, hf4b⟩ := and_t hc1
  have hf5 := not_t hf4a
  have hf6 := of_decide_eq_true hf4b
  have hf : fullT l id_ = true := by rw [fullT_eq2]; exact hc1
  refine seqR ?_
  refine mG (.i 6) ?_
  refine op0 ?_
  refine awp_imp ⟨(upd none_ 6 (.i (errT l id_))), (updO (updO (updO noOb 0 (.live ⟨[.sl 2 0 ((startT l id_ a).length)], 57, 1⟩)) 1 .dead) 2 (.live ⟨(enc eT (startT l id_ a)), 59, 2⟩))⟩ ?_ ?_
  ·skip
   refine (imp_mv (t := 0) (r := 1) (r' := 51) (o := ⟨(enc eT (delT l id_)), 59, 2⟩) rfl rfl rfl (by decide)).trans ?_
   exact iL [(0, 0), (1, 1), (51, 2)] [((0, 0), .live _), ((1, 1), .dead), ((51, 2), .live _)] ⟨row_map (o := ⟨[.sl 51 0 ((delT l id_).length)], 57, 1⟩) rfl (by rw [startT_full hf, delT_full hf]; exact (om_ (lm_cons rfl lm_nil))) (oks_cons (.sl _ _ _ (by simp)) oks_nil), trivial, row_no rfl (by rw [startT_full hf, delT_full hf]), trivial⟩ (he := (sS (by rw [errT_full hf] <;> rfl) sr_none))
  refine awp_ret ?_
  exact fretG rfl rfl rfl rfl
 ·skip
  have hf : ¬ fullT l id_ = true := by rw [fullT_eq2, hc1]; simp
  refine awp_skip ?_
  refine seqR ?_
  refine mG (.pt 0 0) ?_
  refine mG (.pt 0 0) ?_
  refine opG rfl (aop_nilCheck rfl rfl rfl rfl rfl ?_)
  refine fG (.pt 0 0) ft57_0 sz55 ?_
  refine opG rfl (aop_ld (av := .sl 1 0 ((delT l id_).length)) rfl rfl rfl ag55 rfl rfl ?_)
  refine mG (.i id_) ?_
  refine mG (.i a) ?_
  refine opG rfl (aop_build rfl rfl rfl pl59 rfl ?_)
  refine opG rfl (aop_lit rfl rfl rfl ut55 iz59 (by decide) (by decide) rfl rfl ?_)
  refine opG rfl (aop_app1 (f := eT) (l := delT l id_) 52 (⟨id_, a⟩ : Tm) rfl rfl rfl rfl ut55 in59 rfl (by decide) rfl rfl rfl rfl rfl rfl (fun _ => rfl) rfl rfl (by first | omega | (simp; done) | decide | (simp at *; omega)) (by first | omega | (simp; done) | decide | (simp at *; omega)) rfl ?_)
  refine opG rfl (aop_nilCheck rfl rfl rfl rfl rfl ?_)
  refine fG (.pt 0 0) ft57_0 sz55 ?_
  refine opG rfl (aop_store rfl rfl rfl sz55 rfl rfl rfl rfl rfl (Nat.le_of_ble_eq_true rfl) rfl rfl ?_)
  refine op0 ?_
  refine rT (upd (upd none_ 0 (.pt 0 0)) 6 (.i 0)) (updO (updO (updO (updO (updO (updO (updO noOb 0 (.live ⟨[.sl 1 0 l.length], 57, 1⟩)) 1 (.live ⟨(enc eT l), 59, 2⟩)) 0 (.live ⟨[.sl 1 0 ((delT l id_).length)], 57, 1⟩)) 1 (.live ⟨(enc eT (delT l id_)), 59, 2⟩)) 1 .dead) 52 (.live ⟨(enc eT ((delT l id_) ++ [(⟨id_, a⟩ : Tm)])), 59, 2⟩)) 0 (.live ⟨[.sl 52 0 (((delT l id_) ++ [(⟨id_, a⟩ : Tm)]).length)], 57, 1⟩)) ?_
  refine seqR ?_
  refine mG (.pt 0 0) ?_
  refine opG rfl (aop_nilCheck rfl rfl rfl rfl rfl ?_)
  refine fG (.pt 0 0) ft57_0 sz55 ?_
  refine opG rfl (aop_ld (av := .sl 52 0 (((delT l id_) ++ [(⟨id_, a⟩ : Tm)]).length)) rfl rfl rfl ag55 rfl rfl ?_)
  refine opG rfl (callG_ false [52] [] (sortOne (putT l id_ a) (putT_pos _ _ _) (by have := putT_len l id_ a; omega)) rfl rfl rfl rfl rfl bd24 (by decide) ⟨giv_no (o := ⟨(enc eT ((delT l id_) ++ [(⟨id_, a⟩ : Tm)])), 59, 2⟩) rfl rfl, trivial⟩ ⟨(arg_own (.sl _ _ _ (by simp)) rfl), (arg_no (a := .fn 25 [])), trivial⟩ rfl trivial (fun h => by cases h) (am_no (a := .tup [])) (place_cons (ost_no (cs := (enc eT (sortT ((delT l id_) ++ [(⟨id_, a⟩ : Tm)]))))) place_nil) ?_)
  refine op0 ?_
  refine rT (upd none_ 6 (.i 0)) (updO (updO (updO (updO (updO (updO (updO (updO noOb 0 (.live ⟨[.sl 1 0 l.length], 57, 1⟩)) 1 (.live ⟨(enc eT l), 59, 2⟩)) 0 (.live ⟨[.sl 1 0 ((delT l id_).length)], 57, 1⟩)) 1 (.live ⟨(enc eT (delT l id_)), 59, 2⟩)) 1 .dead) 52 (.live ⟨(enc eT ((delT l id_) ++ [(⟨id_, a⟩ : Tm)])), 59, 2⟩)) 0 (.live ⟨[.sl 52 0 (((delT l id_) ++ [(⟨id_, a⟩ : Tm)]).length)], 57, 1⟩)) 52 (.live ⟨(enc eT (sortT ((delT l id_) ++ [(⟨id_, a⟩ : Tm)]))), 59, 2⟩)) ?_
  refine seqR ?_
  refine mG (.i 0) ?_
  refine op0 ?_
  refine awp_imp ⟨(upd none_ 6 (.i (errT l id_))), (updO (updO (updO noOb 0 (.live ⟨[.sl 2 0 ((startT l id_ a).length)], 57, 1⟩)) 1 .dead) 2 (.live ⟨(enc eT (startT l id_ a)), 59, 2⟩))⟩ ?_ ?_
  ·skip
   exact iL [(0, 0), (1, 1), (52, 2)] [((0, 0), .live _), ((1, 1), .dead), ((52, 2), .live _)] ⟨row_map (o := ⟨[.sl 52 0 (((delT l id_) ++ [(⟨id_, a⟩ : Tm)]).length)], 57, 1⟩) rfl (by rw [startT_okl hf]; exact (om_ (lm_cons rfl lm_nil))) (oks_cons (.sl _ _ _ (by simp)) oks_nil), trivial, row_no rfl (by rw [startT_ok hf] <;> rfl), trivial⟩ (he := (sS (by rw [errT_ok hf] <;> rfl) sr_none))
  refine awp_ret ?_
  exact fretG rfl rfl rfl rfl
theorem t_Ended (l : List Tm) (now : Int) (hl : l.length ≤ 65536) : FnGO Try.prog 12 [⟨[.ro l.length (enc eT l)], 57, 1⟩] [.pt 0 0, .v (.int .i64 now)] (.sl 1 0 ((idsT (endL now l)).length)) [.live ⟨[.ro ((restL now l).length) (enc eT (restL now l))], 57, 1⟩, .live ⟨(enc eI (idsT (endL now l))), 3, 1⟩] := by
 refine fnG_of_body (N := 39) 1 rfl Try.func12 rfl rfl (resOf1 rfl) (by simp) (fun w0 G C hL_ hLG_ => ?_)
 refine seqR ?_
 refine mG (.v (.slice none 0 0)) ?_
 refine op0 ?_
 refine seqR ?_
 refine mG (.v (.slice none 0 0)) ?_
 refine op0 ?_
 refine awp_seq ?_
 refine awp_block ?_
 refine awp_countI (fun k => ⟨(upd (upd (upd (upd none_ 0 (.pt 0 0)) 1 (.i now)) 4 (.v (.slice none 0 0))) 5 (.sl 1 0 ((idsT (l.take k)).length))), (updO (updO noOb 0 (.live ⟨[.q eT (l.drop k)], 57, 1⟩)) 1 (.live ⟨(enc eI (idsT (l.take k))), 3, 1⟩))⟩) (fun k => EndInv now l k) (l.length) ?_ ⟨Nat.zero_le _, fun x hx => by simp at hx⟩ (fun k hk_k hinv => ?_)
 ·skip
  refine (imp_adopt 5 51 3 1 rfl rfl).trans ?_
  exact iL [(0, 0), (51, 1)] [((0, 0), .live _), ((51, 1), .live _)] ⟨row_no (o := ⟨[.q eT l], 57, 1⟩) rfl rfl, row_no (o := ⟨[], 3, 1⟩) rfl rfl, trivial⟩
 have hkl := hinv.1
 have hil := ids_take_len l k
 refine awp_seq ?_
 refine seqR ?_
 refine mG (.pt 0 0) ?_
 refine opG rfl (callL_ (t_Len (l.drop k) (by first | omega | (simp; done) | decide | (simp at *; omega))) rfl rfl rfl rfl rfl bd14 (lends_cons (lend_pt rfl (lends_cons (lend_n (av := .q eT (l.drop k))) lends_nil)) lends_nil) ?_)
 refine bG ((.bool (decide (((l.drop k).length : Int) > 0)))) ?_
 refine mG (.b (decide (((l.drop k).length : Int) > 0))) ?_
 refine aops_grp 10 19 (.b ((decide (((l.drop k).length : Int) > 0)) && (decide ((((l.drop k).getD 0 dT).at_) ≤ now)))) ?_ ?_
 ·refine (Bool.eq_false_or_eq_true (decide (((l.drop k).length : Int) > 0))).elim (fun hg1 => ?_) (fun hg1 => ?_)
  ·skip
   have hf2 := of_decide_eq_true hg1
   refine oY hg1 (aop_move (av := .pt 0 0) (.inl rfl) rfl rfl rfl ?_)
   refine oY hg1 (aop_nilCheck rfl rfl rfl rfl rfl ?_)
   refine oY hg1 (aop_fieldAddr (av := .pt 0 0) (av' := .pt 0 0) rfl rfl rfl ft57_0 sz55 rfl rfl rfl ?_)
   refine oY hg1 (aop_ld (av := .q eT (l.drop k)) rfl rfl rfl ag55 rfl rfl ?_)
   refine oY hg1 (aop_ixE (k := 0) dT rfl rfl rfl ut55 sz59 rfl rfl (fun _ => rfl) rfl (by first | omega | (simp; done) | decide | (simp at *; omega)) ?_)
   refine oY hg1 (aop_fieldAddr (av := .rp (([.i (((l.drop k).getD 0 dT).id), .i (((l.drop k).getD 0 dT).at_)] : List AV) ++ ((enc eT (l.drop k)).drop ((0 + 1) * 2)))) (av' := .rp (([.i (((l.drop k).getD 0 dT).at_)] : List AV) ++ ((enc eT (l.drop k)).drop ((0 + 1) * 2)))) rfl rfl rfl ft59_1 sz2 rfl rfl rfl ?_)
   refine oY hg1 (aop_ld (av := .i (((l.drop k).getD 0 dT).at_)) rfl rfl rfl ag2 rfl rfl ?_)
   refine oY hg1 (aop_move (av := .i now) (.inl rfl) rfl rfl rfl ?_)
   refine oY hg1 (aop_binI (u := (.bool (decide ((((l.drop k).getD 0 dT).at_) ≤ now)))) rfl rfl rfl rfl rfl trivial rfl ?_)
   refine opG rfl (aop_pick (b := (decide (((l.drop k).length : Int) > 0))) (av := .b (decide ((((l.drop k).getD 0 dT).at_) ≤ now))) rfl rfl rfl rfl ((congrArg (fun b_ => cond b_ _ _) hg1).trans rfl) ?_)
   refine op0 ?_
   exact imp_env (lee_both 19 _ _ (by rw [hg1] <;> rfl) (lee_out 18 _ rfl (lee_out 17 _ rfl (lee_out 16 _ rfl (lee_out 15 _ rfl (lee_out 14 _ rfl (lee_out 13 _ rfl (lee_out 12 _ rfl (lee_out 11 _ rfl (lee_out 10 _ rfl (lee_same _)))))))))))
  ·skip
   have hf3 := of_decide_eq_false hg1
   refine nG hg1 ?_
   refine nG hg1 ?_
   refine nG hg1 ?_
   refine nG hg1 ?_
   refine nG hg1 ?_
   refine nG hg1 ?_
   refine nG hg1 ?_
   refine nG hg1 ?_
   refine nG hg1 ?_
   refine opG rfl (aop_pick (b := (decide (((l.drop k).length : Int) > 0))) (av := .b false) rfl rfl rfl rfl ((congrArg (fun b_ => cond b_ _ _) hg1).trans rfl) ?_)
   refine op0 ?_
   exact imp_env (lee_both 19 _ _ (by rw [hg1] <;> rfl) (lee_out 18 _ rfl (lee_out 17 _ rfl (lee_out 16 _ rfl (lee_out 15 _ rfl (lee_out 14 _ rfl (lee_out 13 _ rfl (lee_out 12 _ rfl (lee_out 11 _ rfl (lee_out 10 _ rfl (lee_same _)))))))))))
 refine op0 ?_
 refine rT (upd (upd (upd (upd (upd none_ 0 (.pt 0 0)) 1 (.i now)) 4 (.v (.slice none 0 0))) 5 (.sl 1 0 ((idsT (l.take k)).length))) 19 (.b ((decide (((l.drop k).length : Int) > 0)) && (decide ((((l.drop k).getD 0 dT).at_) ≤ now))))) (updO (updO noOb 0 (.live ⟨[.q eT (l.drop k)], 57, 1⟩)) 1 (.live ⟨(enc eI (idsT (l.take k))), 3, 1⟩)) ?_
 refine awp_cond ((decide (((l.drop k).length : Int) > 0)) && (decide ((((l.drop k).getD 0 dT).at_) ≤ now))) rfl rfl (fun hc0 => ?_) (fun hc0 => ?_)
 ·skip
  obtain ⟨hf4a, hf4b⟩ := and_t hc0
  have hf5 := of_decide_eq_true hf4a
  have hf6 := of_decide_eq_true hf4b
  have hkl3 := (ended_t hc0).1
  have hkl2 : 0 < (l.drop k).length := by rw [List.length_drop]; omega
  refine awp_skip ?_
  refine awp_block ?_
  refine seqR ?_
  refine mG (.sl 1 0 ((idsT (l.take k)).length)) ?_
  refine mG (.pt 0 0) ?_
  refine opG rfl (aop_nilCheck rfl rfl rfl rfl rfl ?_)
  refine fG (.pt 0 0) ft57_0 sz55 ?_
  refine opG rfl (aop_ld (av := .q eT (l.drop k)) rfl rfl rfl ag55 rfl rfl ?_)
  refine opG rfl (aop_ixE (k := 0) dT rfl rfl rfl ut55 sz59 rfl rfl (fun _ => rfl) rfl (by first | omega | (simp; done) | decide | (simp at *; omega)) ?_)
  refine opG rfl (aop_fieldAddr (av := .rp (([.i (((l.drop k).getD 0 dT).id), .i (((l.drop k).getD 0 dT).at_)] : List AV) ++ ((enc eT (l.drop k)).drop ((0 + 1) * 2)))) (av' := .rp (([.i (((l.drop k).getD 0 dT).id), .i (((l.drop k).getD 0 dT).at_)] : List AV) ++ ((enc eT (l.drop k)).drop ((0 + 1) * 2)))) rfl rfl rfl ft59_0 sz3 rfl rfl rfl ?_)
  refine opG rfl (aop_ld (av := .i (((l.drop k).getD 0 dT).id)) rfl rfl rfl ag3 rfl rfl ?_)
  refine opG rfl (aop_lit rfl rfl rfl ut28 iz3 (by decide) (by decide) rfl rfl ?_)
  refine opG rfl (aop_app1 (f := eI) (l := idsT (l.take k)) 52 (((l.drop k).getD 0 dT).id : Int) rfl rfl rfl rfl ut28 in3 rfl (by decide) rfl rfl rfl rfl rfl rfl (fun _ => rfl) rfl rfl (by first | omega | (simp; done) | decide | (simp at *; omega)) (by first | omega | (simp; done) | decide | (simp at *; omega)) rfl ?_)
  refine mG (.sl 52 0 (((idsT (l.take k)) ++ [(((l.drop k).getD 0 dT).id : Int)]).length)) ?_
  refine op0 ?_
  refine rT (upd (upd (upd (upd none_ 0 (.pt 0 0)) 1 (.i now)) 4 (.v (.slice none 0 0))) 5 (.sl 52 0 (((idsT (l.take k)) ++ [(((l.drop k).getD 0 dT).id : Int)]).length))) (updO (updO (updO (updO noOb 0 (.live ⟨[.q eT (l.drop k)], 57, 1⟩)) 1 (.live ⟨(enc eI (idsT (l.take k))), 3, 1⟩)) 1 .dead) 52 (.live ⟨(enc eI ((idsT (l.take k)) ++ [(((l.drop k).getD 0 dT).id : Int)])), 3, 1⟩)) ?_
  refine regR ?_
  refine mG (.pt 0 0) ?_
  refine mG (.pt 0 0) ?_
  refine opG rfl (aop_nilCheck rfl rfl rfl rfl rfl ?_)
  refine fG (.pt 0 0) ft57_0 sz55 ?_
  refine opG rfl (aop_ld (av := .q eT (l.drop k)) rfl rfl rfl ag55 rfl rfl ?_)
  refine opG rfl (aop_sliceRoN (l := 1) (hgh := ((l.drop k).length)) (cells' := enc eT ((l.drop k).drop 1)) (((l.drop k).drop 1)).length rfl rfl rfl ut55 sz59 rfl ⟨_, rfl⟩ rfl (by first | omega | (simp; done) | decide | (simp at *; omega)) (by first | omega | (simp; done) | decide | (simp at *; omega)) (sliceE1 (f := eT) (fun _ => rfl) _ _ _ rfl) (by first | (simp; done) | (simp; omega)) ?_)
  refine opG rfl (aop_nilCheck rfl rfl rfl rfl rfl ?_)
  refine fG (.pt 0 0) ft57_0 sz55 ?_
  refine opG rfl (aop_store rfl rfl rfl sz55 rfl rfl rfl rfl rfl (Nat.le_of_ble_eq_true rfl) rfl rfl ?_)
  refine op0 ?_
  show _ ∧ _
  have hs_ := ids_step hinv hc0
  refine ⟨by omega, (endInv_step hinv hc0), ?_⟩
  exact iL [(0, 0), (52, 1)] [((0, 0), .live _), ((52, 1), .live _)] ⟨row_no (o := ⟨[.q eT ((l.drop k).drop 1)], 57, 1⟩) rfl (by rw [List.drop_drop]), row_no rfl (by exact congrArg (fun l_ => LObj.mk (enc eI l_) 3 1) hs_.symm), trivial⟩ (he := (sM (by exact congrArg (AV.sl 1 0) (congrArg List.length hs_)) (sS rfl (sS rfl (sM rfl sr_none)))))
 ·skip
  have he_ := end_stop hinv hc0
  refine awp_exit ?_
  refine seqR ?_
  refine mG (.sl 1 0 ((idsT (l.take k)).length)) ?_
  refine mG (.sl 1 0 ((idsT (l.take k)).length)) ?_
  refine op0 ?_
  refine awp_imp ⟨(upd none_ 4 (.sl 1 0 ((idsT (endL now l)).length))), (updO (updO noOb 0 (.live ⟨[.q eT (restL now l)], 57, 1⟩)) 1 (.live ⟨(enc eI (idsT (endL now l))), 3, 1⟩))⟩ ?_ ?_
  ·skip
   exact iL [(0, 0), (1, 1)] [((0, 0), .live _), ((1, 1), .live _)] ⟨row_no rfl (by rw [he_.2]), row_no rfl (by rw [he_.1]), trivial⟩ (he := (sM (by exact congrArg (AV.sl 1 0) (by rw [he_.1])) sr_none))
  refine awp_ret ?_
  exact fretG rfl rfl rfl rfl
theorem n_place (id_ : Int)  : Fn Try.prog 29 [.v (.pointer none), .v (.int .i64 id_)] (.v (.int .i64 (-1))) := by
 refine fnE_of_body (N := 13) Try.func29 rfl rfl (resOf1 rfl) (by simp) (fun w0 X hL_ => ?_)
 refine seqR ?_
 refine opG rfl (aop_box 51 rfl rfl rfl rfl rfl rfl rfl ?_)
 refine mG (.i 0) ?_
 refine op0 ?_
 refine awp_seq ?_
 refine seqR ?_
 refine mG (.v (.pointer none)) ?_
 refine opG rfl (aop_nilNil rfl rfl rfl ut24 rfl rfl (.inl ⟨rfl, rfl⟩) ?_)
 refine op0 ?_
 refine rT (upd (upd (upd (upd none_ 0 (.v (.pointer none))) 3 (.pt 51 0)) 4 (.i 0)) 6 (.b true)) (updO noOb 51 (.live ⟨[.i id_], 3, 1⟩)) ?_
 refine awp_cond true rfl rfl (fun _ => ?_) (fun h => by cases h)
 refine seqR ?_
 refine mG (.i (-1)) ?_
 refine op0 ?_
 refine awp_ret ?_
 exact fret (av := .v (.int .i64 (-1))) rfl rfl rfl
theorem n_Len   : Fn Try.prog 14 [.v (.pointer none)] (.v (.int .i64 0)) := by
 refine fnE_of_body (N := 10) Try.func14 rfl rfl (resOf1 rfl) (by simp) (fun w0 X hL_ => ?_)
 refine seqR ?_
 refine mG (.i 0) ?_
 refine op0 ?_
 refine awp_seq ?_
 refine seqR ?_
 refine mG (.v (.pointer none)) ?_
 refine opG rfl (aop_nilNil rfl rfl rfl ut24 rfl rfl (.inl ⟨rfl, rfl⟩) ?_)
 refine op0 ?_
 refine awp_cond true rfl rfl (fun _ => ?_) (fun h => by cases h)
 refine seqR ?_
 refine mG (.i 0) ?_
 refine op0 ?_
 refine rT (upd (upd none_ 0 (.v (.pointer none))) 2 (.i 0)) noOb ?_
 refine awp_ret ?_
 exact fret (av := .v (.int .i64 0)) rfl rfl rfl
theorem n_Left (id_ now : Int)  : Fn Try.prog 20 [.v (.pointer none), .v (.int .i64 id_), .v (.int .i64 now)] (.tup [.v (.int .i64 0), .v (.bool false)]) := by
 refine fnE_of_body (N := 33) Try.func20 rfl rfl (resOf2 rfl) (by simp) (fun w0 X hL_ => ?_)
 refine seqR ?_
 refine mG (.i 0) ?_
 refine mG (.b false) ?_
 refine op0 ?_
 refine seqR ?_
 refine mG (.v (.pointer none)) ?_
 refine mG (.i id_) ?_
 refine opG rfl (call_ (n_place id_) rfl rfl rfl rfl rfl bd29 rfl ?_)
 refine mG (.i (-1)) ?_
 refine op0 ?_
 refine rT (upd (upd (upd (upd (upd none_ 0 (.v (.pointer none))) 2 (.i now)) 6 (.i 0)) 7 (.b false)) 8 (.i (-1))) noOb ?_
 refine awp_seq ?_
 refine seqR ?_
 refine mG (.i (-1)) ?_
 refine bG ((.bool (decide (((-1) : Int) < 0)))) ?_
 refine op0 ?_
 refine awp_cond (decide (((-1) : Int) < 0)) rfl rfl (fun hc0 => ?_) (fun hc0 => ?_)
 ·skip
  have hf1 := of_decide_eq_true hc0
  refine seqR ?_
  refine mG (.i 0) ?_
  refine mG (.b false) ?_
  refine op0 ?_
  refine rT (upd (upd (upd (upd (upd none_ 0 (.v (.pointer none))) 2 (.i now)) 6 (.i 0)) 7 (.b false)) 8 (.i (-1))) noOb ?_
  refine awp_ret ?_
  exact fret (av := .tup [.v (.int .i64 0), .v (.bool false)]) rfl rfl rfl
 ·skip
  have hf2 := of_decide_eq_false hc0
  exact absurd hc0 (by decide)
theorem n_Stop (id_ : Int)  : Fn Try.prog 15 [.v (.pointer none), .v (.int .i64 id_)] (.v (.bool false)) := by
 refine fnE_of_body (N := 22) Try.func15 rfl rfl (resOf1 rfl) (by simp) (fun w0 X hL_ => ?_)
 refine seqR ?_
 refine mG (.b false) ?_
 refine op0 ?_
 refine seqR ?_
 refine mG (.v (.pointer none)) ?_
 refine mG (.i id_) ?_
 refine opG rfl (call_ (n_place id_) rfl rfl rfl rfl rfl bd29 rfl ?_)
 refine mG (.i (-1)) ?_
 refine op0 ?_
 refine rT (upd (upd (upd none_ 0 (.v (.pointer none))) 4 (.b false)) 5 (.i (-1))) noOb ?_
 refine awp_seq ?_
 refine seqR ?_
 refine mG (.i (-1)) ?_
 refine bG ((.bool (decide (((-1) : Int) < 0)))) ?_
 refine op0 ?_
 refine awp_cond (decide (((-1) : Int) < 0)) rfl rfl (fun hc0 => ?_) (fun hc0 => ?_)
 ·skip
  have hf1 := of_decide_eq_true hc0
  refine seqR ?_
  refine mG (.b false) ?_
  refine op0 ?_
  refine awp_ret ?_
  exact fret (av := .v (.bool false)) rfl rfl rfl
 ·skip
  have hf2 := of_decide_eq_false hc0
  exact absurd hc0 (by decide)
theorem n_Start (id_ a : Int)  : Fn Try.prog 11 [.v (.pointer none), .v (.int .i64 id_), .v (.int .i64 a)] (.v (.int .i64 7)) := by
 refine fnE_of_body (N := 38) Try.func11 rfl rfl (resOf1 rfl) (by simp) (fun w0 X hL_ => ?_)
 refine seqR ?_
 refine mG (.i 0) ?_
 refine op0 ?_
 refine awp_seq ?_
 refine seqR ?_
 refine mG (.v (.pointer none)) ?_
 refine opG rfl (aop_nilNil rfl rfl rfl ut24 rfl rfl (.inl ⟨rfl, rfl⟩) ?_)
 refine op0 ?_
 refine awp_cond true rfl rfl (fun _ => ?_) (fun h => by cases h)
 refine seqR ?_
 refine mG (.i 7) ?_
 refine op0 ?_
 refine rT (upd (upd (upd (upd none_ 0 (.v (.pointer none))) 1 (.i id_)) 2 (.i a)) 6 (.i 7)) noOb ?_
 refine awp_ret ?_
 exact fret (av := .v (.int .i64 7)) rfl rfl rfl
theorem n_Ended (now : Int)  : Fn Try.prog 12 [.v (.pointer none), .v (.int .i64 now)] (.v (.slice none 0 0)) := by
 refine fnE_of_body (N := 39) Try.func12 rfl rfl (resOf1 rfl) (by simp) (fun w0 X hL_ => ?_)
 refine seqR ?_
 refine mG (.v (.slice none 0 0)) ?_
 refine op0 ?_
 refine seqR ?_
 refine mG (.v (.slice none 0 0)) ?_
 refine op0 ?_
 refine awp_seq ?_
 refine awp_block ?_
 refine awp_countI (fun k => ⟨(upd (upd (upd (upd none_ 0 (.v (.pointer none))) 1 (.i now)) 4 (.v (.slice none 0 0))) 5 (.v (.slice none 0 0))), noOb⟩) (fun k => True) (0) ?_ trivial (fun k hk_k hinv => ?_)
 ·skip
  exact iN
 refine awp_seq ?_
 refine seqR ?_
 refine mG (.v (.pointer none)) ?_
 refine opG rfl (call_ (n_Len) rfl rfl rfl rfl rfl bd14 rfl ?_)
 refine opG rfl (aop_eqv (d := 8) (a := .b (decide ((0 : Int) > 0))) (b := .b false) (aop_binI (u := (.bool (decide ((0 : Int) > 0)))) rfl rfl rfl rfl rfl trivial rfl rfl) (by rfl) ?_)
 refine mG (.b false) ?_
 refine opN rfl rfl rfl rfl (by intro h; cases h) rfl rfl ?_
 refine opN rfl rfl rfl rfl (by intro h; cases h) rfl rfl ?_
 refine opN rfl rfl rfl rfl (by intro h; cases h) rfl rfl ?_
 refine opN rfl rfl rfl rfl (by intro h; cases h) rfl rfl ?_
 refine opN rfl rfl rfl rfl (by intro h; cases h) rfl rfl ?_
 refine opN rfl rfl rfl rfl (by intro h; cases h) rfl rfl ?_
 refine opN rfl rfl rfl rfl (by intro h; cases h) rfl rfl ?_
 refine opN rfl rfl rfl rfl (by intro h; cases h) rfl rfl ?_
 refine opN rfl rfl rfl rfl (by intro h; cases h) rfl rfl ?_
 refine opG rfl (aop_eqv (d := 19) (a := .b false) (b := .b false) (aop_pick (b := false) (av := .b false) rfl rfl rfl rfl rfl rfl) (by rfl) ?_)
 refine op0 ?_
 refine rT (upd (upd (upd (upd (upd none_ 0 (.v (.pointer none))) 1 (.i now)) 4 (.v (.slice none 0 0))) 5 (.v (.slice none 0 0))) 19 (.b false)) noOb ?_
 refine awp_cond false rfl rfl (fun h => by cases h) (fun _ => ?_)
 refine awp_exit ?_
 refine seqR ?_
 refine mG (.v (.slice none 0 0)) ?_
 refine mG (.v (.slice none 0 0)) ?_
 refine op0 ?_
 refine awp_ret ?_
 exact fret (av := .v (.slice none 0 0)) rfl rfl rfl
end Go.Lo
