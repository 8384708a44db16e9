/- Walks of Go functions in the logic of values: what the law reaches. -/
import Derived.Test.YtnjncdidiijpgaaProg
import Derived.Test.YtnjncdidiijpgaaLoX
import Derived.KernelRfl
import Derived.Test.YtnjncdidiijpgaaDef
import Derived.Test.YtnjncdidiijpgaaLay
import Derived.Test.YtnjncdidiijpgaaGr
import Derived.Test.YtnjncdidiijpgaaSt
import Derived.Test.YtnjncdidiijpgaaPa
import Derived.Test.YtnjncdidiijpgaaAu
import Derived.Test.YtnjncdidiijpgaaLoY
import Derived.Test.YtnjncdidiijpgaaNo
import Derived.Test.YtnjncdidiijpgaaRw
set_option linter.unusedVariables false
set_option linter.unusedSimpArgs false
set_option maxRecDepth 10000
set_option maxHeartbeats 16000000
namespace Go.Lo
open Go.Proofs
theorem ag3 : aggT Try.prog 3 = some false := by kernel_rfl
theorem ag4 : aggT Try.prog 4 = some false := by kernel_rfl
theorem mixed : Try.prog.follows .mixedOrders = true := by kernel_rfl
theorem sz3 : (Try.prog.info? 3).map (·.size) = some 1 := by kernel_rfl
theorem sz4 : (Try.prog.info? 4).map (·.size) = some 1 := by kernel_rfl
theorem ut28 : Try.prog.underlying 28 = some (.slice 4) := by kernel_rfl
theorem ut48 : Try.prog.underlying 48 = some (.slice 3) := by kernel_rfl
theorem p_has (right : List Bool) (p : Int) (hl : right.length ≤ 4294967296) : Fn Try.prog 84 [.ro right.length (enc eB right), .v (.int .i64 p)] (.v (.bool (hasB right p))) := by
 refine fnE_of_body (N := 19) Try.func84 rfl rfl (resOf1 rfl) (by simp) (fun w0 X hL_ => ?_)
 refine seqR ?_
 refine mG (.b false) ?_
 refine op0 ?_
 refine seqR ?_
 refine mG (.i p) ?_
 refine bG ((.bool (decide (p ≥ 0)))) ?_
 refine mG (.b (decide (p ≥ 0))) ?_
 refine aops_grp 5 12 (.b ((decide (p ≥ 0)) && (decide (p < (right.length : Int))))) ?_ ?_
 ·refine (Bool.eq_false_or_eq_true (decide (p ≥ 0))).elim (fun hg1 => ?_) (fun hg1 => ?_)
  ·skip
   have hf2 := of_decide_eq_true hg1
   refine opY rfl rfl rfl (by show AV.v (.bool (decide (p ≥ 0))) = _; rw [hg1]) (aop_move (av := .i p) (.inl rfl) rfl rfl rfl ?_)
   refine opY rfl rfl rfl (by show AV.v (.bool (decide (p ≥ 0))) = _; rw [hg1]) (aop_move (av := .q eB right) (.inl rfl) rfl rfl rfl ?_)
   refine opY rfl rfl rfl (by show AV.v (.bool (decide (p ≥ 0))) = _; rw [hg1]) (aop_len rfl rfl rfl rfl ut28 (len_ro rfl) ?_)
   refine opY rfl rfl rfl (by show AV.v (.bool (decide (p ≥ 0))) = _; rw [hg1]) (aop_binI (u := (.bool (decide (p < (right.length : Int))))) rfl rfl rfl rfl rfl trivial rfl ?_)
   refine opG rfl (aop_pick (b := (decide (p ≥ 0))) (av := .b (decide (p < (right.length : Int)))) rfl rfl rfl rfl ((congrArg (fun b_ => cond b_ _ _) hg1).trans rfl) ?_)
   refine op0 ?_
   exact imp_env (lee_both 12 _ _ (by rw [hg1] <;> rfl) (lee_out 11 _ rfl (lee_out 10 _ rfl (lee_out 9 _ rfl (lee_out 8 _ rfl (lee_same _))))))
  ·skip
   have hf3 := of_decide_eq_false hg1
   refine nG hg1 ?_
   refine nG hg1 ?_
   refine nG hg1 ?_
   refine nG hg1 ?_
   refine opG rfl (aop_pick (b := (decide (p ≥ 0))) (av := .b false) rfl rfl rfl rfl ((congrArg (fun b_ => cond b_ _ _) hg1).trans rfl) ?_)
   refine op0 ?_
   exact imp_env (lee_both 12 _ _ (by rw [hg1] <;> rfl) (lee_out 11 _ rfl (lee_out 10 _ rfl (lee_out 9 _ rfl (lee_out 8 _ rfl (lee_same _))))))
 refine mG (.b ((decide (p ≥ 0)) && (decide (p < (right.length : Int))))) ?_
 refine aops_grp 5 18 (.b (((decide (p ≥ 0)) && (decide (p < (right.length : Int)))) && (right.getD p.toNat false))) ?_ ?_
 ·refine (Bool.eq_false_or_eq_true ((decide (p ≥ 0)) && (decide (p < (right.length : Int))))).elim (fun hg4 => ?_) (fun hg4 => ?_)
  ·skip
   obtain ⟨hf5a, hf5b⟩ := and_t hg4
   have hf6 := of_decide_eq_true hf5a
   have hf7 := of_decide_eq_true hf5b
   refine opY rfl rfl rfl (by show AV.v (.bool ((decide (p ≥ 0)) && (decide (p < (right.length : Int))))) = _; rw [hg4]) (aop_move (av := .q eB right) (.inl rfl) rfl rfl rfl ?_)
   refine opY rfl rfl rfl (by show AV.v (.bool ((decide (p ≥ 0)) && (decide (p < (right.length : Int))))) = _; rw [hg4]) (aop_move (av := .i p) (.inl rfl) rfl rfl rfl ?_)
   refine opY rfl rfl rfl (by show AV.v (.bool ((decide (p ≥ 0)) && (decide (p < (right.length : Int))))) = _; rw [hg4]) (aop_ixI false rfl rfl rfl ut28 sz4 rfl rfl (fun _ => rfl) rfl (by omega) (by first | omega | (simp; done) | decide | (simp at *; omega)) ?_)
   refine opY rfl rfl rfl (by show AV.v (.bool ((decide (p ≥ 0)) && (decide (p < (right.length : Int))))) = _; rw [hg4]) (aop_ld (av := .b (right.getD p.toNat false)) rfl rfl rfl ag4 rfl rfl ?_)
   refine opG rfl (aop_pick (b := ((decide (p ≥ 0)) && (decide (p < (right.length : Int))))) (av := .b (right.getD p.toNat false)) rfl rfl rfl rfl ((congrArg (fun b_ => cond b_ _ _) hg4).trans rfl) ?_)
   refine op0 ?_
   exact imp_env (lee_both 18 _ _ (by rw [hg4] <;> rfl) (lee_out 17 _ rfl (lee_out 16 _ rfl (lee_out 15 _ rfl (lee_out 14 _ rfl (lee_same _))))))
  ·skip
   refine nG hg4 ?_
   refine nG hg4 ?_
   refine nG hg4 ?_
   refine nG hg4 ?_
   refine opG rfl (aop_pick (b := ((decide (p ≥ 0)) && (decide (p < (right.length : Int))))) (av := .b false) rfl rfl rfl rfl ((congrArg (fun b_ => cond b_ _ _) hg4).trans rfl) ?_)
   refine op0 ?_
   exact imp_env (lee_both 18 _ _ (by rw [hg4] <;> rfl) (lee_out 17 _ rfl (lee_out 16 _ rfl (lee_out 15 _ rfl (lee_out 14 _ rfl (lee_same _))))))
 refine mG (.b (((decide (p ≥ 0)) && (decide (p < (right.length : Int)))) && (right.getD p.toNat false))) ?_
 refine op0 ?_
 refine rs_ (upd none_ 4 (.b (((decide (p ≥ 0)) && (decide (p < (right.length : Int)))) && (right.getD p.toNat false)))) noOb (lu rfl ln) rfl ?_
 refine awp_ret ?_
 exact fret (av := .v (.bool (((decide (p ≥ 0)) && (decide (p < (right.length : Int)))) && (right.getD p.toNat false)))) rfl rfl rfl
theorem r01_Ints (a b : List Int) (hl : a.length ≤ 4294967296) : Fn Try.prog 16 [.ro a.length (enc eI a), .ro b.length (enc eI b)] (.v (.bool (decide (a = b)))) := by
 refine fnE_of_body (N := 26) Try.func16 rfl rfl (resOf1 rfl) (by simp) (fun w0 X hL_ => ?_)
 refine seqR ?_
 refine mG (.b false) ?_
 refine op0 ?_
 refine awp_seq ?_
 refine seqR ?_
 refine mG (.q eI a) ?_
 refine opG rfl (aop_len rfl rfl rfl rfl ut48 (len_ro rfl) ?_)
 refine mG (.q eI b) ?_
 refine opG rfl (aop_len rfl rfl rfl rfl ut48 (len_ro rfl) ?_)
 refine bG ((.bool ((a.length : Int) != (b.length : Int)))) ?_
 refine op0 ?_
 refine rs_ (upd (upd (upd (upd none_ 0 (.q eI a)) 1 (.q eI b)) 4 (.b false)) 10 (.b ((a.length : Int) != (b.length : Int)))) noOb (lu rfl (lu rfl (lu rfl (lu rfl ln)))) rfl ?_
 refine awp_cond ((a.length : Int) != (b.length : Int)) rfl rfl (fun hc0 => ?_) (fun hc0 => ?_)
 ·skip
  have hf1 := (bne_iff_ne).1 hc0
  refine seqR ?_
  refine mG (.b false) ?_
  refine op0 ?_
  refine awp_ret ?_
  exact fret (av := .v (.bool false)) rfl rfl (by rw [alike_off (by omega)] <;> rfl)
 ·skip
  have hf2 := (bne_eq_false_iff_eq).1 hc0
  refine awp_skip ?_
  refine awp_seq ?_
  refine seqR ?_
  refine mG (.i 0) ?_
  refine op0 ?_
  refine awp_block ?_
  refine awp_countI (fun k => ⟨(upd (upd (upd (upd none_ 0 (.q eI a)) 1 (.q eI b)) 4 (.b false)) 5 (.i (k : Int))), noOb⟩) (fun k => a.take k = b.take k) (a.length) ?_ (by simp) (fun k hk_k hinv => ?_)
  ·skip
   exact imp_ler [] (ler0 (sS rfl (sS rfl (sS rfl (sS rfl sr_none))))) (keep_of rfl)
  refine awp_seq ?_
  refine seqR ?_
  refine mG (.i (k : Int)) ?_
  refine mG (.q eI a) ?_
  refine opG rfl (aop_len rfl rfl rfl rfl ut48 (len_ro rfl) ?_)
  refine bG ((.bool (decide ((k : Int) < (a.length : Int))))) ?_
  refine op0 ?_
  refine rs_ (upd (upd (upd (upd (upd none_ 0 (.q eI a)) 1 (.q eI b)) 4 (.b false)) 5 (.i (k : Int))) 14 (.b (decide ((k : Int) < (a.length : Int))))) noOb (lu rfl (lu rfl (lu rfl (lu rfl (lu rfl ln))))) rfl ?_
  refine awp_cond (decide ((k : Int) < (a.length : Int))) rfl rfl (fun hc1 => ?_) (fun hc1 => ?_)
  ·skip
   have hf3 := of_decide_eq_true hc1
   refine awp_skip ?_
   refine awp_seq ?_
   refine awp_block ?_
   refine awp_seq ?_
   refine awp_draw (m := 9) [(25, .b ((a.getD k 0) != (b.getD k 0))), (24, .i (b.getD k 0)), (23, .rp (([.i (b.getD k 0)] : List AV) ++ ((enc eI b).drop ((k + 1) * 1)))), (22, .i (k : Int)), (21, .q eI b), (20, .i (a.getD k 0)), (19, .rp (([.i (a.getD k 0)] : List AV) ++ ((enc eI a).drop ((k + 1) * 1)))), (18, .i (k : Int)), (17, .q eI a)] mixed (by kernel_rfl) ?_ ?_
   ·refine ⟨?_, ?_, ?_, ?_, ?_, ?_, ?_, ?_, ?_, trivial⟩
    ·exact ⟨17, rfl, blt_lt rfl, fun st hob hE => aop_move (av := .q eI a) (.inl rfl) rfl rfl (hE 0 rfl) (by rw [hob]; rfl)⟩
    ·exact ⟨18, rfl, blt_lt rfl, fun st hob hE => aop_move (av := .i (k : Int)) (.inl rfl) rfl rfl (hE 5 rfl) (by rw [hob]; rfl)⟩
    ·exact ⟨19, rfl, blt_lt rfl, fun st hob hE => aop_ixE 0 rfl rfl rfl ut48 sz3 (hE 17 rfl) (hE 18 rfl) (fun _ => rfl) rfl (by first | omega | (simp; done) | decide | (simp at *; omega)) (by rw [hob]; rfl)⟩
    ·exact ⟨20, rfl, blt_lt rfl, fun st hob hE => aop_ld (av := .i (a.getD k 0)) rfl rfl rfl ag3 (hE 19 rfl) rfl (by rw [hob]; rfl)⟩
    ·exact ⟨21, rfl, blt_lt rfl, fun st hob hE => aop_move (av := .q eI b) (.inl rfl) rfl rfl (hE 1 rfl) (by rw [hob]; rfl)⟩
    ·exact ⟨22, rfl, blt_lt rfl, fun st hob hE => aop_move (av := .i (k : Int)) (.inl rfl) rfl rfl (hE 5 rfl) (by rw [hob]; rfl)⟩
    ·exact ⟨23, rfl, blt_lt rfl, fun st hob hE => aop_ixE 0 rfl rfl rfl ut48 sz3 (hE 21 rfl) (hE 22 rfl) (fun _ => rfl) rfl (by first | omega | (simp; done) | decide | (simp at *; omega)) (by rw [hob]; rfl)⟩
    ·exact ⟨24, rfl, blt_lt rfl, fun st hob hE => aop_ld (av := .i (b.getD k 0)) rfl rfl rfl ag3 (hE 23 rfl) rfl (by rw [hob]; rfl)⟩
    ·exact ⟨25, rfl, blt_lt rfl, fun st hob hE => aop_binI (u := (.bool ((a.getD k 0) != (b.getD k 0)))) rfl rfl rfl (hE 20 rfl) (hE 24 rfl) trivial rfl (by rw [hob]; rfl)⟩
   refine op0 ?_
   refine awp_cond ((a.getD k 0) != (b.getD k 0)) rfl rfl (fun hc2 => ?_) (fun hc2 => ?_)
   ·skip
    have hf4 := (bne_iff_ne).1 hc2
    have hne := (bne_iff_ne).1 hc2
    refine seqR ?_
    refine mG (.b false) ?_
    refine op0 ?_
    refine awp_ret ?_
    exact fret (av := .v (.bool false)) rfl rfl (by rw [alike_stop hne] <;> rfl)
   ·skip
    have hf5 := (bne_eq_false_iff_eq).1 hc2
    have hne := (bne_eq_false_iff_eq).1 hc2
    refine awp_skip ?_
    refine regR ?_
    refine mG (.i (k : Int)) ?_
    refine opG rfl (aop_binI (u := (.int .i64 ((k + 1 : Nat) : Int))) rfl rfl rfl rfl rfl trivial (addN (by omega)) ?_)
    refine mG (.i ((k + 1 : Nat) : Int)) ?_
    refine op0 ?_
    show _ ∧ _
    refine ⟨by omega, (alike_step (d := 0) (by omega) (by omega) hinv hne), ?_⟩
    exact imp_ler [] (ler0 (sS rfl (sS rfl (sS rfl (sS rfl sr_none))))) (keep_of rfl)
  ·skip
   have hf6 := of_decide_eq_false hc1
   refine awp_exit ?_
   refine seqR ?_
   refine mG (.b true) ?_
   refine op0 ?_
   refine awp_ret ?_
   exact fret (av := .v (.bool true)) rfl rfl (by rw [alike_end (by omega) (by omega) hinv] <;> rfl)
theorem ag100 : aggT Try.prog 100 = some true := by kernel_rfl
theorem ag114 : aggT Try.prog 114 = some true := by kernel_rfl
theorem ag35 : aggT Try.prog 35 = some false := by kernel_rfl
theorem ag37 : aggT Try.prog 37 = some false := by kernel_rfl
theorem ag39 : aggT Try.prog 39 = some true := by kernel_rfl
theorem ag5 : aggT Try.prog 5 = some false := by kernel_rfl
theorem es114 : eqT2 Try.prog 114 = some (3, 3) := by kernel_rfl
theorem ft100_0 : fieldT Try.prog 100 0 = some (3, 0) := by kernel_rfl
theorem ft100_1 : fieldT Try.prog 100 1 = some (3, 1) := by kernel_rfl
theorem ft100_2 : fieldT Try.prog 100 2 = some (3, 2) := by kernel_rfl
theorem ft100_3 : fieldT Try.prog 100 3 = some (3, 3) := by kernel_rfl
theorem ft102_1 : fieldT Try.prog 102 1 = some (3, 1) := by kernel_rfl
theorem ft102_2 : fieldT Try.prog 102 2 = some (3, 2) := by kernel_rfl
theorem ft114_0 : fieldT Try.prog 114 0 = some (3, 0) := by kernel_rfl
theorem ft114_1 : fieldT Try.prog 114 1 = some (3, 1) := by kernel_rfl
theorem ft39_1 : fieldT Try.prog 39 1 = some (35, 1) := by kernel_rfl
theorem ft39_3 : fieldT Try.prog 39 3 = some (37, 3) := by kernel_rfl
theorem in114 : (Try.prog.info? 114).map (fun i => (i.zero, i.size, i.bytes)) = some (some (.agg #[(.int .i64 0), (.int .i64 0)]), 2, 16) := by kernel_rfl
theorem in3 : (Try.prog.info? 3).map (fun i => (i.zero, i.size, i.bytes)) = some (some (.int .i64 0), 1, 8) := by kernel_rfl
theorem iz114 : (Try.prog.info? 114).map (fun i => (i.zero, i.size)) = some (some (.agg #[(.int .i64 0), (.int .i64 0)]), 2) := by kernel_rfl
theorem iz3 : (Try.prog.info? 3).map (fun i => (i.zero, i.size)) = some (some (.int .i64 0), 1) := by kernel_rfl
theorem pl114 : placesOf Try.prog 114 = some ((.agg #[(.int .i64 0), (.int .i64 0)]), fun i => ([(0, 1), (1, 1)] : List (Nat × Nat)).toArray[i]?) := by kernel_rfl
theorem sz100 : (Try.prog.info? 100).map (·.size) = some 4 := by kernel_rfl
theorem sz102 : (Try.prog.info? 102).map (·.size) = some 3 := by kernel_rfl
theorem sz114 : (Try.prog.info? 114).map (·.size) = some 2 := by kernel_rfl
theorem sz35 : (Try.prog.info? 35).map (·.size) = some 1 := by kernel_rfl
theorem sz37 : (Try.prog.info? 37).map (·.size) = some 1 := by kernel_rfl
theorem sz39 : (Try.prog.info? 39).map (·.size) = some 10 := by kernel_rfl
theorem sz5 : (Try.prog.info? 5).map (·.size) = some 1 := by kernel_rfl
theorem ut115 : Try.prog.underlying 115 = some (.slice 114) := by kernel_rfl
theorem ut27 : Try.prog.underlying 27 = some (.slice 5) := by kernel_rfl
theorem ut3 : Try.prog.underlying 3 = some (.int .i64) := by kernel_rfl
theorem ut35 : Try.prog.underlying 35 = some (.slice 102) := by kernel_rfl
theorem ut37 : Try.prog.underlying 37 = some (.slice 100) := by kernel_rfl
theorem ut5 : Try.prog.underlying 5 = some (.int .u8) := by kernel_rfl
theorem ze100 : (Try.prog.info? 100).bind (·.zero) = some (.agg #[(.int .i64 0), (.int .i64 0), (.int .i64 0), (.int .i64 0)]) := by kernel_rfl
theorem ze114 : (Try.prog.info? 114).bind (·.zero) = some (.agg #[(.int .i64 0), (.int .i64 0)]) := by kernel_rfl
theorem ag22 : aggT Try.prog 22 = some false := by kernel_rfl
theorem ag34 : aggT Try.prog 34 = some false := by kernel_rfl
theorem ag36 : aggT Try.prog 36 = some false := by kernel_rfl
theorem ag48 : aggT Try.prog 48 = some false := by kernel_rfl
theorem ft25_0 : fieldT Try.prog 25 0 = some (5, 0) := by kernel_rfl
theorem ft25_1 : fieldT Try.prog 25 1 = some (5, 1) := by kernel_rfl
theorem ft25_2 : fieldT Try.prog 25 2 = some (5, 2) := by kernel_rfl
theorem ft25_3 : fieldT Try.prog 25 3 = some (22, 3) := by kernel_rfl
theorem ft25_4 : fieldT Try.prog 25 4 = some (22, 4) := by kernel_rfl
theorem ft25_5 : fieldT Try.prog 25 5 = some (5, 5) := by kernel_rfl
theorem ft25_6 : fieldT Try.prog 25 6 = some (5, 6) := by kernel_rfl
theorem ft25_7 : fieldT Try.prog 25 7 = some (5, 7) := by kernel_rfl
theorem ft39_0 : fieldT Try.prog 39 0 = some (34, 0) := by kernel_rfl
theorem ft39_2 : fieldT Try.prog 39 2 = some (36, 2) := by kernel_rfl
theorem ft39_5 : fieldT Try.prog 39 5 = some (3, 5) := by kernel_rfl
theorem ft39_6 : fieldT Try.prog 39 6 = some (2, 6) := by kernel_rfl
theorem ft39_7 : fieldT Try.prog 39 7 = some (2, 7) := by kernel_rfl
theorem ft39_8 : fieldT Try.prog 39 8 = some (2, 8) := by kernel_rfl
theorem ft39_9 : fieldT Try.prog 39 9 = some (2, 9) := by kernel_rfl
theorem in102 : (Try.prog.info? 102).map (fun i => (i.zero, i.size, i.bytes)) = some (some (.agg #[(.int .i64 0), (.int .i64 0), (.int .i64 0)]), 3, 24) := by kernel_rfl
theorem in48 : (Try.prog.info? 48).map (fun i => (i.zero, i.size, i.bytes)) = some (some (.slice none 0 0), 1, 24) := by kernel_rfl
theorem in95 : (Try.prog.info? 95).map (fun i => (i.zero, i.size, i.bytes)) = some (some (.complex .f64 0 0), 1, 16) := by kernel_rfl
theorem in98 : (Try.prog.info? 98).map (fun i => (i.zero, i.size, i.bytes)) = some (some (.agg #[(.int .i64 0), (.int .i64 0)]), 2, 16) := by kernel_rfl
theorem iz100 : (Try.prog.info? 100).map (fun i => (i.zero, i.size)) = some (some (.agg #[(.int .i64 0), (.int .i64 0), (.int .i64 0), (.int .i64 0)]), 4) := by kernel_rfl
theorem iz102 : (Try.prog.info? 102).map (fun i => (i.zero, i.size)) = some (some (.agg #[(.int .i64 0), (.int .i64 0), (.int .i64 0)]), 3) := by kernel_rfl
theorem iz48 : (Try.prog.info? 48).map (fun i => (i.zero, i.size)) = some (some (.slice none 0 0), 1) := by kernel_rfl
theorem iz95 : (Try.prog.info? 95).map (fun i => (i.zero, i.size)) = some (some (.complex .f64 0 0), 1) := by kernel_rfl
theorem iz98 : (Try.prog.info? 98).map (fun i => (i.zero, i.size)) = some (some (.agg #[(.int .i64 0), (.int .i64 0)]), 2) := by kernel_rfl
theorem pl100 : placesOf Try.prog 100 = some ((.agg #[(.int .i64 0), (.int .i64 0), (.int .i64 0), (.int .i64 0)]), fun i => ([(0, 1), (1, 1), (2, 1), (3, 1)] : List (Nat × Nat)).toArray[i]?) := by kernel_rfl
theorem pl102 : placesOf Try.prog 102 = some ((.agg #[(.int .i64 0), (.int .i64 0), (.int .i64 0)]), fun i => ([(0, 1), (1, 1), (2, 1)] : List (Nat × Nat)).toArray[i]?) := by kernel_rfl
theorem pl98 : placesOf Try.prog 98 = some ((.agg #[(.int .i64 0), (.int .i64 0)]), fun i => some (i * 1, 1)) := by kernel_rfl
theorem sz2 : (Try.prog.info? 2).map (·.size) = some 1 := by kernel_rfl
theorem sz22 : (Try.prog.info? 22).map (·.size) = some 1 := by kernel_rfl
theorem sz34 : (Try.prog.info? 34).map (·.size) = some 1 := by kernel_rfl
theorem sz36 : (Try.prog.info? 36).map (·.size) = some 1 := by kernel_rfl
theorem sz48 : (Try.prog.info? 48).map (·.size) = some 1 := by kernel_rfl
theorem sz98 : (Try.prog.info? 98).map (·.size) = some 2 := by kernel_rfl
theorem ut2 : Try.prog.underlying 2 = some (.int .i64) := by kernel_rfl
theorem ut22 : Try.prog.underlying 22 = some (.int .u16) := by kernel_rfl
theorem ut34 : Try.prog.underlying 34 = some (.slice 95) := by kernel_rfl
theorem ut36 : Try.prog.underlying 36 = some (.slice 48) := by kernel_rfl
theorem ut96 : Try.prog.underlying 96 = some (.float .f64) := by kernel_rfl
theorem ut97 : Try.prog.underlying 97 = some (.slice 98) := by kernel_rfl
theorem ut98 : Try.prog.underlying 98 = some (.array 2 3) := by kernel_rfl
theorem ze39 : (Try.prog.info? 39).bind (·.zero) = some (.agg #[(.slice none 0 0), (.slice none 0 0), (.slice none 0 0), (.slice none 0 0), (.slice none 0 0), (.int .i64 0), (.int .i64 0), (.int .i64 0), (.int .i64 0), (.int .i64 0)]) := by kernel_rfl
theorem cxf0 : ∀ n ∈ units, (cxE .mul ((4611686018427387904, 0) : Nat × Nat) ((fuI (n), 0) : Nat × Nat)).isSome = true := by decide +kernel
theorem cxf1 : ∀ n ∈ units, (cxE .add (cx .mul ((4611686018427387904, 0) : Nat × Nat) ((fuI (n), 0) : Nat × Nat)) ((0, fuI (n)) : Nat × Nat)).isSome = true := by decide +kernel
theorem cxf2 : ∀ n ∈ units, (cxE .sub (cx .mul ((4611686018427387904, 0) : Nat × Nat) ((fuI (n), 0) : Nat × Nat)) ((0, fuI (n)) : Nat × Nat)).isSome = true := by decide +kernel
theorem cxf3 : ∀ n ∈ units, (cxE .mul ((4613937818241073152, 0) : Nat × Nat) ((fuI (n), 0) : Nat × Nat)).isSome = true := by decide +kernel
theorem cxf4 : ∀ n ∈ units, (cxE .quo ((0, fuI (n)) : Nat × Nat) ((4611686018427387904, 0) : Nat × Nat)).isSome = true := by decide +kernel
theorem cxf5 : ∀ n ∈ units, (cxE .add (cx .mul ((4613937818241073152, 0) : Nat × Nat) ((fuI (n), 0) : Nat × Nat)) (cx .quo ((0, fuI (n)) : Nat × Nat) ((4611686018427387904, 0) : Nat × Nat))).isSome = true := by decide +kernel
theorem cxf6 : ∀ n ∈ units, (cxE .sub (cx .mul ((4613937818241073152, 0) : Nat × Nat) ((fuI (n), 0) : Nat × Nat)) (cx .quo ((0, fuI (n)) : Nat × Nat) ((4611686018427387904, 0) : Nat × Nat))).isSome = true := by decide +kernel
theorem cxf7 : ∀ n ∈ units, (cxE .mul ((4616189618054758400, 0) : Nat × Nat) ((fuI (n), 0) : Nat × Nat)).isSome = true := by decide +kernel
theorem cxf8 : ∀ n ∈ units, (cxE .mul ((4617315517961601024, 0) : Nat × Nat) ((fuI (n), 0) : Nat × Nat)).isSome = true := by decide +kernel
theorem cxf9 : ∀ n ∈ units, (cxE .mul ((4618441417868443648, 0) : Nat × Nat) ((fuI (n), 0) : Nat × Nat)).isSome = true := by decide +kernel
theorem cxf10 : ∀ n ∈ units, (cxE .add (cx .mul ((4613937818241073152, 0) : Nat × Nat) ((fuI (n), 0) : Nat × Nat)) ((0, fuI (n)) : Nat × Nat)).isSome = true := by decide +kernel
theorem cxf11 : ∀ n ∈ units, (cxE .sub (cx .mul ((4613937818241073152, 0) : Nat × Nat) ((fuI (n), 0) : Nat × Nat)) ((0, fuI (n)) : Nat × Nat)).isSome = true := by decide +kernel
theorem cxf12 : ∀ n ∈ units, (cxE .add (cx .mul ((4616189618054758400, 0) : Nat × Nat) ((fuI (n), 0) : Nat × Nat)) ((0, fuI (n)) : Nat × Nat)).isSome = true := by decide +kernel
theorem cxf13 : ∀ n ∈ units, (cxE .sub (cx .mul ((4616189618054758400, 0) : Nat × Nat) ((fuI (n), 0) : Nat × Nat)) ((0, fuI (n)) : Nat × Nat)).isSome = true := by decide +kernel
theorem r04_Make (form len speed mute wait cancel stay jn : Int) (hf : 0 ≤ form ∧ form ≤ 255) (hl : 0 ≤ len ∧ len ≤ 255) (hs : 0 ≤ speed ∧ speed ≤ 255) (hm : 0 ≤ mute ∧ mute ≤ 65535) (hw : 0 ≤ wait ∧ wait ≤ 65535) (hc : 0 ≤ cancel ∧ cancel ≤ 255) (hy : 0 ≤ stay ∧ stay ≤ 255) (hj : 0 ≤ jn ∧ jn ≤ 255) : Fn Try.prog 25 [.agg [.v (.int .u8 form), .v (.int .u8 len), .v (.int .u8 speed), .v (.int .u16 mute), .v (.int .u16 wait), .v (.int .u8 cancel), .v (.int .u8 stay), .v (.int .u8 jn), .one]] (.agg [.one, .ro ((mkSecs form len).length) (enc eSec (mkSecs form len)), .ro ((mkParts form jn).length) (enc eIL (mkParts form jn)), .ro ((mkPts form).length) (enc ePnt (mkPts form)), .v (.slice none 0 0), .v (.int .i64 (1 + speed % (2 * (10 * (1 + len % 20))))), .v (.int .i64 (1 + mute % 1000)), .v (.int .i64 (1 + wait % 1000)), .v (.int .i64 (1 + cancel)), .v (.int .i64 (stay % 4))]) := by
 have hunit := unit_in len
 have hel := mkEnds_len form
 refine fnC_of_body (N := 250) Try.func25 rfl rfl (by simp) (fun w0 X hL_ => ?_)
 refine seqR ?_
 refine opG rfl (aop_box 51 rfl rfl rfl rfl rfl rfl rfl ?_)
 refine opG rfl (aop_alloc 52 rfl rfl rfl rfl ze39 rfl ?_)
 refine op0 ?_
 refine seqR ?_
 refine fG (.pt 51 1) ft25_1 sz5 ?_
 refine opG rfl (aop_ld (av := .v (.int .u8 len)) rfl rfl rfl ag5 rfl rfl ?_)
 refine opG rfl (aop_binI (u := (.int .u8 (len % 20))) rfl rfl rfl rfl rfl (by show _ ≠ _; decide) (remI (by omega)) ?_)
 refine opG rfl (aop_conv' rfl rfl rfl ut5 ut3 rfl (IntWalk.i64_in _ (by omega)) ?_)
 refine opG rfl (aop_binI (u := (.int .i64 (1 + (len % 20)))) rfl rfl rfl rfl rfl trivial (addI (by omega)) ?_)
 refine opG rfl (aop_binI (u := (.int .i64 (10 * (1 + (len % 20))))) rfl rfl rfl rfl rfl trivial (mulI (by omega)) ?_)
 refine mG (.i (10 * (1 + (len % 20)))) ?_
 refine op0 ?_
 refine rs_ (upd (upd (upd none_ 1 (.pt 51 0)) 2 (.pt 52 0)) 3 (.i (10 * (1 + (len % 20))))) (updO (updO noOb 51 (.live ⟨[.v (.int .u8 form), .v (.int .u8 len), .v (.int .u8 speed), .v (.int .u16 mute), .v (.int .u16 wait), .v (.int .u8 cancel), .v (.int .u8 stay), .v (.int .u8 jn), .one], 25, 1⟩)) 52 (.live ⟨[.v (.slice none 0 0), .v (.slice none 0 0), .v (.slice none 0 0), .v (.slice none 0 0), .v (.slice none 0 0), .i 0, .i 0, .i 0, .i 0, .i 0], 39, 1⟩)) (lu rfl (lu rfl (lu rfl ln))) rfl ?_
 refine seqR ?_
 refine mG (.i (10 * (1 + (len % 20)))) ?_
 refine opG rfl (aop_toFloat rfl rfl rfl ut3 ut96 rfl ?_)
 refine opG rfl (aop_complex rfl rfl rfl rfl rfl rfl ?_)
 refine mG (.v (.complex .f64 (((fuI (10 * (1 + (len % 20))), 0) : Nat × Nat)).1 (((fuI (10 * (1 + (len % 20))), 0) : Nat × Nat)).2)) ?_
 refine op0 ?_
 refine rs_ (upd (upd (upd (upd none_ 1 (.pt 51 0)) 2 (.pt 52 0)) 3 (.i (10 * (1 + (len % 20))))) 4 (.v (.complex .f64 (((fuI (10 * (1 + (len % 20))), 0) : Nat × Nat)).1 (((fuI (10 * (1 + (len % 20))), 0) : Nat × Nat)).2))) (updO (updO noOb 51 (.live ⟨[.v (.int .u8 form), .v (.int .u8 len), .v (.int .u8 speed), .v (.int .u16 mute), .v (.int .u16 wait), .v (.int .u8 cancel), .v (.int .u8 stay), .v (.int .u8 jn), .one], 25, 1⟩)) 52 (.live ⟨[.v (.slice none 0 0), .v (.slice none 0 0), .v (.slice none 0 0), .v (.slice none 0 0), .v (.slice none 0 0), .i 0, .i 0, .i 0, .i 0, .i 0], 39, 1⟩)) (lu rfl (lu rfl (lu rfl (lu rfl ln)))) rfl ?_
 refine seqR ?_
 refine mG (.i (10 * (1 + (len % 20)))) ?_
 refine opG rfl (aop_toFloat rfl rfl rfl ut3 ut96 rfl ?_)
 refine opG rfl (aop_complex rfl rfl rfl rfl rfl rfl ?_)
 refine mG (.v (.complex .f64 (((0, fuI (10 * (1 + (len % 20)))) : Nat × Nat)).1 (((0, fuI (10 * (1 + (len % 20)))) : Nat × Nat)).2)) ?_
 refine op0 ?_
 refine rs_ (upd (upd (upd (upd (upd none_ 1 (.pt 51 0)) 2 (.pt 52 0)) 3 (.i (10 * (1 + (len % 20))))) 4 (.v (.complex .f64 (((fuI (10 * (1 + (len % 20))), 0) : Nat × Nat)).1 (((fuI (10 * (1 + (len % 20))), 0) : Nat × Nat)).2))) 5 (.v (.complex .f64 (((0, fuI (10 * (1 + (len % 20)))) : Nat × Nat)).1 (((0, fuI (10 * (1 + (len % 20)))) : Nat × Nat)).2))) (updO (updO noOb 51 (.live ⟨[.v (.int .u8 form), .v (.int .u8 len), .v (.int .u8 speed), .v (.int .u16 mute), .v (.int .u16 wait), .v (.int .u8 cancel), .v (.int .u8 stay), .v (.int .u8 jn), .one], 25, 1⟩)) 52 (.live ⟨[.v (.slice none 0 0), .v (.slice none 0 0), .v (.slice none 0 0), .v (.slice none 0 0), .v (.slice none 0 0), .i 0, .i 0, .i 0, .i 0, .i 0], 39, 1⟩)) (lu rfl (lu rfl (lu rfl (lu rfl (lu rfl ln))))) rfl ?_
 refine seqR ?_
 refine opG rfl (aop_alloc 53 rfl rfl rfl rfl ze39 rfl ?_)
 refine op0 ?_
 refine seqR ?_
 refine mG (.v (.slice none 0 0)) ?_
 refine op0 ?_
 refine awp_seq ?_
 refine seqR ?_
 refine fG (.pt 51 0) ft25_0 sz5 ?_
 refine opG rfl (aop_ld (av := .v (.int .u8 form)) rfl rfl rfl ag5 rfl rfl ?_)
 refine opG rfl (aop_binI (u := (.int .u8 (form % 4))) rfl rfl rfl rfl rfl (by show _ ≠ _; decide) (remI (by omega)) ?_)
 refine op0 ?_
 refine rs_ (upd (upd (upd (upd (upd (upd (upd (upd none_ 1 (.pt 51 0)) 2 (.pt 52 0)) 3 (.i (10 * (1 + (len % 20))))) 4 (.v (.complex .f64 (((fuI (10 * (1 + (len % 20))), 0) : Nat × Nat)).1 (((fuI (10 * (1 + (len % 20))), 0) : Nat × Nat)).2))) 5 (.v (.complex .f64 (((0, fuI (10 * (1 + (len % 20)))) : Nat × Nat)).1 (((0, fuI (10 * (1 + (len % 20)))) : Nat × Nat)).2))) 6 (.pt 53 0)) 7 (.v (.slice none 0 0))) 27 (.v (.int .u8 (form % 4)))) (updO (updO (updO noOb 51 (.live ⟨[.v (.int .u8 form), .v (.int .u8 len), .v (.int .u8 speed), .v (.int .u16 mute), .v (.int .u16 wait), .v (.int .u8 cancel), .v (.int .u8 stay), .v (.int .u8 jn), .one], 25, 1⟩)) 52 (.live ⟨[.v (.slice none 0 0), .v (.slice none 0 0), .v (.slice none 0 0), .v (.slice none 0 0), .v (.slice none 0 0), .i 0, .i 0, .i 0, .i 0, .i 0], 39, 1⟩)) 53 (.live ⟨[.v (.slice none 0 0), .v (.slice none 0 0), .v (.slice none 0 0), .v (.slice none 0 0), .v (.slice none 0 0), .i 0, .i 0, .i 0, .i 0, .i 0], 39, 1⟩)) (lu rfl (lu rfl (lu rfl (lu rfl (lu rfl (lu rfl (lu rfl (lu rfl ln)))))))) rfl ?_
 refine awp_block ?_
 refine seqR ?_
 refine bG ((.bool ((form % 4) == 0))) ?_
 refine mG (.b ((form % 4) == 0)) ?_
 refine op0 ?_
 refine cutG ⟨(upd (upd (upd (upd (upd none_ 1 (.pt 2 0)) 2 (.pt 3 0)) 3 (.i (10 * (1 + (len % 20))))) 6 (.pt 1 0)) 7 (.q ePr (mkEnds form))), (updO (updO (updO noOb 1 (.live ⟨[.one, .v (.slice none 0 0), .v (.slice none 0 0), .q ePnt (mkPts form), .v (.slice none 0 0), .i 0, .i 0, .i 0, .i 0, .i 0], 39, 1⟩)) 2 (.live ⟨[.v (.int .u8 form), .v (.int .u8 len), .v (.int .u8 speed), .v (.int .u16 mute), .v (.int .u16 wait), .v (.int .u8 cancel), .v (.int .u8 stay), .v (.int .u8 jn), .one], 25, 1⟩)) 3 (.live ⟨[.v (.slice none 0 0), .v (.slice none 0 0), .v (.slice none 0 0), .v (.slice none 0 0), .v (.slice none 0 0), .i 0, .i 0, .i 0, .i 0, .i 0], 39, 1⟩))⟩ (fun s h => h) ?_ ?_
 ·skip
  refine awp_cond ((form % 4) == 0) rfl rfl (fun hc0 => ?_) (fun hc0 => ?_)
  ·skip
   have hf1 := (beq_iff_eq).1 hc0
   have h4 : form % 4 = 0 := by simpa using hc0
   have hE := (ends0 h4).1
   have hP := (ends0 h4).2
   have hri := rowN_int hf
   refine seqR ?_
   refine fG (.pt 51 0) ft25_0 sz5 ?_
   refine opG rfl (aop_ld (av := .v (.int .u8 form)) rfl rfl rfl ag5 rfl rfl ?_)
   refine opG rfl (aop_binI (u := (.int .u8 (form / 4))) rfl rfl rfl rfl rfl (by show _ ≠ _; decide) (quoU8 (by omega)) ?_)
   refine opG rfl (aop_binI (u := (.int .u8 ((form / 4) % 6))) rfl rfl rfl rfl rfl (by show _ ≠ _; decide) (remI (by omega)) ?_)
   refine opG rfl (aop_conv' rfl rfl rfl ut5 ut3 rfl (IntWalk.i64_in _ (by omega)) ?_)
   refine opG rfl (aop_binI (u := (.int .i64 ((rowN form : Nat) : Int))) rfl rfl rfl rfl rfl trivial (by rw [rowN_int hf]; exact addI (by omega)) ?_)
   refine mG (.i ((rowN form : Nat) : Int)) ?_
   refine op0 ?_
   refine rs_ (upd (upd (upd (upd (upd (upd none_ 1 (.pt 51 0)) 2 (.pt 52 0)) 3 (.i (10 * (1 + (len % 20))))) 6 (.pt 53 0)) 7 (.v (.slice none 0 0))) 8 (.i ((rowN form : Nat) : Int))) (updO (updO (updO noOb 51 (.live ⟨[.v (.int .u8 form), .v (.int .u8 len), .v (.int .u8 speed), .v (.int .u16 mute), .v (.int .u16 wait), .v (.int .u8 cancel), .v (.int .u8 stay), .v (.int .u8 jn), .one], 25, 1⟩)) 52 (.live ⟨[.v (.slice none 0 0), .v (.slice none 0 0), .v (.slice none 0 0), .v (.slice none 0 0), .v (.slice none 0 0), .i 0, .i 0, .i 0, .i 0, .i 0], 39, 1⟩)) 53 (.live ⟨[.v (.slice none 0 0), .v (.slice none 0 0), .v (.slice none 0 0), .v (.slice none 0 0), .v (.slice none 0 0), .i 0, .i 0, .i 0, .i 0, .i 0], 39, 1⟩)) (lu rfl (lu rfl (lu rfl (lu rfl (lu rfl (lu rfl ln)))))) rfl ?_
   refine awp_seq ?_
   refine seqR ?_
   refine mG (.i 0) ?_
   refine op0 ?_
   refine awp_block ?_
   refine awp_countI (fun k0 => ⟨(upd (upd (upd (upd (upd (upd (upd none_ 1 (.pt 2 0)) 2 (.pt 3 0)) 3 (.i (10 * (1 + (len % 20))))) 6 (.pt 1 0)) 7 (.v (.slice none 0 0))) 8 (.i ((rowN form : Nat) : Int))) 9 (.i (k0 : Int))), (updO (updO (updO (updO noOb 1 (.live ⟨[.sl 4 0 ((List.replicate k0 ()).length), .v (.slice none 0 0), .v (.slice none 0 0), .v (.slice none 0 0), .v (.slice none 0 0), .i 0, .i 0, .i 0, .i 0, .i 0], 39, 1⟩)) 2 (.live ⟨[.v (.int .u8 form), .v (.int .u8 len), .v (.int .u8 speed), .v (.int .u16 mute), .v (.int .u16 wait), .v (.int .u8 cancel), .v (.int .u8 stay), .v (.int .u8 jn), .one], 25, 1⟩)) 3 (.live ⟨[.v (.slice none 0 0), .v (.slice none 0 0), .v (.slice none 0 0), .v (.slice none 0 0), .v (.slice none 0 0), .i 0, .i 0, .i 0, .i 0, .i 0], 39, 1⟩)) 4 (.live ⟨(enc eC (List.replicate k0 ())), 95, 1⟩))⟩) (fun k0 => True) (rowN form + 1) ?_ trivial (fun k0 hk_k0 hinv => ?_)
   ·skip
    refine (imp_adoptC 53 0 54 95 1 rfl rfl rfl rfl).trans ?_
    exact imp_ler [(53, 1), (51, 2), (52, 3), (54, 4)] (lerL [(53, 1), (51, 2), (52, 3), (54, 4)] [((53, 1), .live ⟨[.sl 4 0 ((List.replicate 0 ()).length), .v (.slice none 0 0), .v (.slice none 0 0), .v (.slice none 0 0), .v (.slice none 0 0), .i 0, .i 0, .i 0, .i 0, .i 0], 39, 1⟩), ((51, 2), .live ⟨[.v (.int .u8 form), .v (.int .u8 len), .v (.int .u8 speed), .v (.int .u16 mute), .v (.int .u16 wait), .v (.int .u8 cancel), .v (.int .u8 stay), .v (.int .u8 jn), .one], 25, 1⟩), ((52, 3), .live ⟨[.v (.slice none 0 0), .v (.slice none 0 0), .v (.slice none 0 0), .v (.slice none 0 0), .v (.slice none 0 0), .i 0, .i 0, .i 0, .i 0, .i 0], 39, 1⟩), ((54, 4), .live ⟨(enc eC (List.replicate 0 ())), 95, 1⟩)] rfl (by decide) (by decide) ⟨row_map (o := ⟨[.sl 54 0 0, .v (.slice none 0 0), .v (.slice none 0 0), .v (.slice none 0 0), .v (.slice none 0 0), .i 0, .i 0, .i 0, .i 0, .i 0], 39, 1⟩) rfl (om_ (lm_cons rfl (lm_cons (am_no (a := .v (.slice none 0 0))) (lm_cons (am_no (a := .v (.slice none 0 0))) (lm_cons (am_no (a := .v (.slice none 0 0))) (lm_cons (am_no (a := .v (.slice none 0 0))) (lm_cons (am_no (a := .i 0)) (lm_cons (am_no (a := .i 0)) (lm_cons (am_no (a := .i 0)) (lm_cons (am_no (a := .i 0)) (lm_cons (am_no (a := .i 0)) lm_nil))))))))))) (oks_cons (.sl _ _ _ (by simp)) (oks_cons (ok_no (a := .v (.slice none 0 0))) (oks_cons (ok_no (a := .v (.slice none 0 0))) (oks_cons (ok_no (a := .v (.slice none 0 0))) (oks_cons (ok_no (a := .v (.slice none 0 0))) (oks_cons (ok_no (a := .i 0)) (oks_cons (ok_no (a := .i 0)) (oks_cons (ok_no (a := .i 0)) (oks_cons (ok_no (a := .i 0)) (oks_cons (ok_no (a := .i 0)) oks_nil)))))))))), row_no (o := ⟨[.v (.int .u8 form), .v (.int .u8 len), .v (.int .u8 speed), .v (.int .u16 mute), .v (.int .u16 wait), .v (.int .u8 cancel), .v (.int .u8 stay), .v (.int .u8 jn), .one], 25, 1⟩) rfl rfl, row_no (o := ⟨[.v (.slice none 0 0), .v (.slice none 0 0), .v (.slice none 0 0), .v (.slice none 0 0), .v (.slice none 0 0), .i 0, .i 0, .i 0, .i 0, .i 0], 39, 1⟩) rfl rfl, row_no (o := ⟨[], 95, 1⟩) rfl rfl, trivial⟩ (sr_same 9 (.i (0 : Int)) rfl NoI.out (sr_same 8 (.i ((rowN form : Nat) : Int)) rfl NoI.out (sr_same 7 (.v (.slice none 0 0)) rfl NoI.out (sr_map 6 (.pt 1 0) (by first | exact Ok.sl _ _ _ (by first | decide | simp) | exact Ok.pt _ _ (by first | decide | simp)) rfl (sr_same 3 (.i (10 * (1 + (len % 20)))) rfl NoI.out (sr_map 2 (.pt 3 0) (by first | exact Ok.sl _ _ _ (by first | decide | simp) | exact Ok.pt _ _ (by first | decide | simp)) rfl (sr_map 1 (.pt 2 0) (by first | exact Ok.sl _ _ _ (by first | decide | simp) | exact Ok.pt _ _ (by first | decide | simp)) rfl sr_none)))))))) (keep_of rfl)
   have hrl : (List.replicate k0 ()).length = k0 := by simp
   refine awp_seq ?_
   refine seqR ?_
   refine mG (.i (k0 : Int)) ?_
   refine mG (.i ((rowN form : Nat) : Int)) ?_
   refine bG ((.bool (decide ((k0 : Int) ≤ ((rowN form : Nat) : Int))))) ?_
   refine op0 ?_
   refine awp_cond (decide ((k0 : Int) ≤ ((rowN form : Nat) : Int))) rfl rfl (fun hc1 => ?_) (fun hc1 => ?_)
   ·skip
    have hf2 := of_decide_eq_true hc1
    refine awp_skip ?_
    refine awp_seq ?_
    refine awp_block ?_
    refine regR ?_
    refine fG (.pt 1 0) ft39_0 sz34 ?_
    refine opG rfl (aop_ld (av := .sl 4 0 ((List.replicate k0 ()).length)) rfl rfl rfl ag34 rfl rfl ?_)
    refine mG (.i (10 * (1 + (len % 20)))) ?_
    refine mG (.i (k0 : Int)) ?_
    refine opG rfl (aop_binI (u := (.int .i64 (10 * (1 + len % 20) * (k0 : Int)))) rfl rfl rfl rfl rfl trivial (mulI (mulB (by omega) (by omega))) ?_)
    refine opG rfl (aop_toFloat rfl rfl rfl ut3 ut96 rfl ?_)
    refine opG rfl (aop_complexOne rfl rfl rfl rfl rfl rfl ?_)
    refine opG rfl (aop_lit rfl rfl rfl ut34 iz95 (by decide) (by decide) rfl rfl ?_)
    refine opG rfl (aop_app1 (f := eC) (l := List.replicate k0 ()) 55 (() : Unit) rfl rfl rfl rfl ut34 in95 rfl (by decide) rfl rfl rfl rfl rfl rfl (fun _ => rfl) rfl rfl (by first | omega | (simp; done) | decide | (simp at *; omega)) (by first | omega | (simp; done) | decide | (simp at *; omega)) rfl ?_)
    refine fG (.pt 1 0) ft39_0 sz34 ?_
    refine opG rfl (aop_store rfl rfl rfl sz34 rfl rfl rfl rfl rfl (Nat.le_of_ble_eq_true rfl) rfl rfl ?_)
    refine op0 ?_
    refine rs_ (upd (upd (upd (upd (upd (upd (upd none_ 1 (.pt 2 0)) 2 (.pt 3 0)) 3 (.i (10 * (1 + (len % 20))))) 6 (.pt 1 0)) 7 (.v (.slice none 0 0))) 8 (.i ((rowN form : Nat) : Int))) 9 (.i (k0 : Int))) (updO (updO (updO (updO (updO (updO (updO noOb 1 (.live ⟨[.sl 4 0 ((List.replicate k0 ()).length), .v (.slice none 0 0), .v (.slice none 0 0), .v (.slice none 0 0), .v (.slice none 0 0), .i 0, .i 0, .i 0, .i 0, .i 0], 39, 1⟩)) 2 (.live ⟨[.v (.int .u8 form), .v (.int .u8 len), .v (.int .u8 speed), .v (.int .u16 mute), .v (.int .u16 wait), .v (.int .u8 cancel), .v (.int .u8 stay), .v (.int .u8 jn), .one], 25, 1⟩)) 3 (.live ⟨[.v (.slice none 0 0), .v (.slice none 0 0), .v (.slice none 0 0), .v (.slice none 0 0), .v (.slice none 0 0), .i 0, .i 0, .i 0, .i 0, .i 0], 39, 1⟩)) 4 (.live ⟨(enc eC (List.replicate k0 ())), 95, 1⟩)) 4 .dead) 55 (.live ⟨(enc eC ((List.replicate k0 ()) ++ [(() : Unit)])), 95, 1⟩)) 1 (.live ⟨[.sl 55 0 (((List.replicate k0 ()) ++ [(() : Unit)]).length), .v (.slice none 0 0), .v (.slice none 0 0), .v (.slice none 0 0), .v (.slice none 0 0), .i 0, .i 0, .i 0, .i 0, .i 0], 39, 1⟩)) (lu rfl (lu rfl (lu rfl (lu rfl (lu rfl (lu rfl (lu rfl ln))))))) rfl ?_
    refine regR ?_
    refine mG (.i (k0 : Int)) ?_
    refine opG rfl (aop_binI (u := (.int .i64 ((k0 + 1 : Nat) : Int))) rfl rfl rfl rfl rfl trivial (addN (by omega)) ?_)
    refine mG (.i ((k0 + 1 : Nat) : Int)) ?_
    refine op0 ?_
    show _ ∧ _
    have hs_ : List.replicate (k0 + 1) () = List.replicate k0 () ++ [()] := List.replicate_succ'
    refine ⟨by omega, trivial, ?_⟩
    exact imp_ler [(1, 1), (2, 2), (3, 3), (55, 4)] (lerL [(1, 1), (2, 2), (3, 3), (55, 4)] [((1, 1), .live ⟨[.sl 4 0 ((List.replicate (k0 + 1) ()).length), .v (.slice none 0 0), .v (.slice none 0 0), .v (.slice none 0 0), .v (.slice none 0 0), .i 0, .i 0, .i 0, .i 0, .i 0], 39, 1⟩), ((2, 2), .live ⟨[.v (.int .u8 form), .v (.int .u8 len), .v (.int .u8 speed), .v (.int .u16 mute), .v (.int .u16 wait), .v (.int .u8 cancel), .v (.int .u8 stay), .v (.int .u8 jn), .one], 25, 1⟩), ((3, 3), .live ⟨[.v (.slice none 0 0), .v (.slice none 0 0), .v (.slice none 0 0), .v (.slice none 0 0), .v (.slice none 0 0), .i 0, .i 0, .i 0, .i 0, .i 0], 39, 1⟩), ((55, 4), .live ⟨(enc eC (List.replicate (k0 + 1) ())), 95, 1⟩)] rfl (by decide) (by decide) ⟨row_map (o := ⟨[.sl 55 0 (((List.replicate k0 ()) ++ [(() : Unit)]).length), .v (.slice none 0 0), .v (.slice none 0 0), .v (.slice none 0 0), .v (.slice none 0 0), .i 0, .i 0, .i 0, .i 0, .i 0], 39, 1⟩) rfl (by rw [hs_]; exact (om_ (lm_cons rfl (lm_cons (am_no (a := .v (.slice none 0 0))) (lm_cons (am_no (a := .v (.slice none 0 0))) (lm_cons (am_no (a := .v (.slice none 0 0))) (lm_cons (am_no (a := .v (.slice none 0 0))) (lm_cons (am_no (a := .i 0)) (lm_cons (am_no (a := .i 0)) (lm_cons (am_no (a := .i 0)) (lm_cons (am_no (a := .i 0)) (lm_cons (am_no (a := .i 0)) lm_nil)))))))))))) (oks_cons (.sl _ _ _ (by simp)) (oks_cons (ok_no (a := .v (.slice none 0 0))) (oks_cons (ok_no (a := .v (.slice none 0 0))) (oks_cons (ok_no (a := .v (.slice none 0 0))) (oks_cons (ok_no (a := .v (.slice none 0 0))) (oks_cons (ok_no (a := .i 0)) (oks_cons (ok_no (a := .i 0)) (oks_cons (ok_no (a := .i 0)) (oks_cons (ok_no (a := .i 0)) (oks_cons (ok_no (a := .i 0)) oks_nil)))))))))), row_no (o := ⟨[.v (.int .u8 form), .v (.int .u8 len), .v (.int .u8 speed), .v (.int .u16 mute), .v (.int .u16 wait), .v (.int .u8 cancel), .v (.int .u8 stay), .v (.int .u8 jn), .one], 25, 1⟩) rfl rfl, row_no (o := ⟨[.v (.slice none 0 0), .v (.slice none 0 0), .v (.slice none 0 0), .v (.slice none 0 0), .v (.slice none 0 0), .i 0, .i 0, .i 0, .i 0, .i 0], 39, 1⟩) rfl rfl, row_no (o := ⟨(enc eC ((List.replicate k0 ()) ++ [(() : Unit)])), 95, 1⟩) rfl (by exact congrArg (fun l_ => LObj.mk (enc eC l_) 95 1) hs_), trivial⟩ (sr_same 9 (.i ((k0 + 1) : Int)) rfl NoI.out (sr_same 8 (.i ((rowN form : Nat) : Int)) rfl NoI.out (sr_same 7 (.v (.slice none 0 0)) rfl NoI.out (sr_map 6 (.pt 1 0) (by first | exact Ok.sl _ _ _ (by first | decide | simp) | exact Ok.pt _ _ (by first | decide | simp)) rfl (sr_same 3 (.i (10 * (1 + (len % 20)))) rfl NoI.out (sr_map 2 (.pt 3 0) (by first | exact Ok.sl _ _ _ (by first | decide | simp) | exact Ok.pt _ _ (by first | decide | simp)) rfl (sr_map 1 (.pt 2 0) (by first | exact Ok.sl _ _ _ (by first | decide | simp) | exact Ok.pt _ _ (by first | decide | simp)) rfl sr_none)))))))) (keep_of rfl)
   ·skip
    have hf3 := of_decide_eq_false hc1
    refine awp_exit ?_
    refine seqR ?_
    refine mG (.i 0) ?_
    refine op0 ?_
    refine rs_ (upd (upd (upd (upd (upd (upd (upd none_ 1 (.pt 2 0)) 2 (.pt 3 0)) 3 (.i (10 * (1 + (len % 20))))) 6 (.pt 1 0)) 7 (.v (.slice none 0 0))) 8 (.i ((rowN form : Nat) : Int))) 10 (.i 0)) (updO (updO (updO (updO noOb 1 (.live ⟨[.sl 4 0 ((List.replicate k0 ()).length), .v (.slice none 0 0), .v (.slice none 0 0), .v (.slice none 0 0), .v (.slice none 0 0), .i 0, .i 0, .i 0, .i 0, .i 0], 39, 1⟩)) 2 (.live ⟨[.v (.int .u8 form), .v (.int .u8 len), .v (.int .u8 speed), .v (.int .u16 mute), .v (.int .u16 wait), .v (.int .u8 cancel), .v (.int .u8 stay), .v (.int .u8 jn), .one], 25, 1⟩)) 3 (.live ⟨[.v (.slice none 0 0), .v (.slice none 0 0), .v (.slice none 0 0), .v (.slice none 0 0), .v (.slice none 0 0), .i 0, .i 0, .i 0, .i 0, .i 0], 39, 1⟩)) 4 (.live ⟨(enc eC (List.replicate k0 ())), 95, 1⟩)) (lu rfl (lu rfl (lu rfl (lu rfl (lu rfl (lu rfl (lu rfl ln))))))) rfl ?_
    refine awp_block ?_
    refine awp_countI (fun k1 => ⟨(upd (upd (upd (upd (upd (upd (upd none_ 1 (.pt 2 0)) 2 (.pt 3 0)) 3 (.i (10 * (1 + (len % 20))))) 6 (.pt 1 0)) 7 (.sl 5 0 ((rowE k1).length))) 8 (.i ((rowN form : Nat) : Int))) 10 (.i (k1 : Int))), (updO (updO (updO (updO (updO noOb 1 (.live ⟨[.sl 4 0 ((List.replicate k0 ()).length), .v (.slice none 0 0), .v (.slice none 0 0), .v (.slice none 0 0), .v (.slice none 0 0), .i 0, .i 0, .i 0, .i 0, .i 0], 39, 1⟩)) 2 (.live ⟨[.v (.int .u8 form), .v (.int .u8 len), .v (.int .u8 speed), .v (.int .u16 mute), .v (.int .u16 wait), .v (.int .u8 cancel), .v (.int .u8 stay), .v (.int .u8 jn), .one], 25, 1⟩)) 3 (.live ⟨[.v (.slice none 0 0), .v (.slice none 0 0), .v (.slice none 0 0), .v (.slice none 0 0), .v (.slice none 0 0), .i 0, .i 0, .i 0, .i 0, .i 0], 39, 1⟩)) 4 (.live ⟨(enc eC (List.replicate k0 ())), 95, 1⟩)) 5 (.live ⟨(enc ePr (rowE k1)), 98, 2⟩))⟩) (fun k1 => True) (rowN form) ?_ trivial (fun k1 hk_k1 hinv => ?_)
    ·skip
     refine (imp_adopt 7 56 98 2 rfl rfl).trans ?_
     exact imp_ler [(1, 1), (2, 2), (3, 3), (4, 4), (56, 5)] (lerL [(1, 1), (2, 2), (3, 3), (4, 4), (56, 5)] [((1, 1), .live ⟨[.sl 4 0 ((List.replicate k0 ()).length), .v (.slice none 0 0), .v (.slice none 0 0), .v (.slice none 0 0), .v (.slice none 0 0), .i 0, .i 0, .i 0, .i 0, .i 0], 39, 1⟩), ((2, 2), .live ⟨[.v (.int .u8 form), .v (.int .u8 len), .v (.int .u8 speed), .v (.int .u16 mute), .v (.int .u16 wait), .v (.int .u8 cancel), .v (.int .u8 stay), .v (.int .u8 jn), .one], 25, 1⟩), ((3, 3), .live ⟨[.v (.slice none 0 0), .v (.slice none 0 0), .v (.slice none 0 0), .v (.slice none 0 0), .v (.slice none 0 0), .i 0, .i 0, .i 0, .i 0, .i 0], 39, 1⟩), ((4, 4), .live ⟨(enc eC (List.replicate k0 ())), 95, 1⟩), ((56, 5), .live ⟨(enc ePr (rowE 0)), 98, 2⟩)] rfl (by decide) (by decide) ⟨row_map (o := ⟨[.sl 4 0 ((List.replicate k0 ()).length), .v (.slice none 0 0), .v (.slice none 0 0), .v (.slice none 0 0), .v (.slice none 0 0), .i 0, .i 0, .i 0, .i 0, .i 0], 39, 1⟩) rfl (om_ (lm_cons rfl (lm_cons (am_no (a := .v (.slice none 0 0))) (lm_cons (am_no (a := .v (.slice none 0 0))) (lm_cons (am_no (a := .v (.slice none 0 0))) (lm_cons (am_no (a := .v (.slice none 0 0))) (lm_cons (am_no (a := .i 0)) (lm_cons (am_no (a := .i 0)) (lm_cons (am_no (a := .i 0)) (lm_cons (am_no (a := .i 0)) (lm_cons (am_no (a := .i 0)) lm_nil))))))))))) (oks_cons (.sl _ _ _ (by simp)) (oks_cons (ok_no (a := .v (.slice none 0 0))) (oks_cons (ok_no (a := .v (.slice none 0 0))) (oks_cons (ok_no (a := .v (.slice none 0 0))) (oks_cons (ok_no (a := .v (.slice none 0 0))) (oks_cons (ok_no (a := .i 0)) (oks_cons (ok_no (a := .i 0)) (oks_cons (ok_no (a := .i 0)) (oks_cons (ok_no (a := .i 0)) (oks_cons (ok_no (a := .i 0)) oks_nil)))))))))), row_no (o := ⟨[.v (.int .u8 form), .v (.int .u8 len), .v (.int .u8 speed), .v (.int .u16 mute), .v (.int .u16 wait), .v (.int .u8 cancel), .v (.int .u8 stay), .v (.int .u8 jn), .one], 25, 1⟩) rfl rfl, row_no (o := ⟨[.v (.slice none 0 0), .v (.slice none 0 0), .v (.slice none 0 0), .v (.slice none 0 0), .v (.slice none 0 0), .i 0, .i 0, .i 0, .i 0, .i 0], 39, 1⟩) rfl rfl, row_no (o := ⟨(enc eC (List.replicate k0 ())), 95, 1⟩) rfl rfl, row_no (o := ⟨[], 98, 2⟩) rfl rfl, trivial⟩ (sr_same 10 (.i (0 : Int)) rfl NoI.out (sr_same 8 (.i ((rowN form : Nat) : Int)) rfl NoI.out (sr_map 7 (.sl 5 0 ((rowE 0).length)) (by first | exact Ok.sl _ _ _ (by first | decide | simp) | exact Ok.pt _ _ (by first | decide | simp)) rfl (sr_map 6 (.pt 1 0) (by first | exact Ok.sl _ _ _ (by first | decide | simp) | exact Ok.pt _ _ (by first | decide | simp)) rfl (sr_same 3 (.i (10 * (1 + (len % 20)))) rfl NoI.out (sr_map 2 (.pt 3 0) (by first | exact Ok.sl _ _ _ (by first | decide | simp) | exact Ok.pt _ _ (by first | decide | simp)) rfl (sr_map 1 (.pt 2 0) (by first | exact Ok.sl _ _ _ (by first | decide | simp) | exact Ok.pt _ _ (by first | decide | simp)) rfl sr_none)))))))) (keep_of rfl)
    have hrw := rowE_len k1
    refine awp_seq ?_
    refine seqR ?_
    refine mG (.i (k1 : Int)) ?_
    refine mG (.i ((rowN form : Nat) : Int)) ?_
    refine bG ((.bool (decide ((k1 : Int) < ((rowN form : Nat) : Int))))) ?_
    refine op0 ?_
    refine awp_cond (decide ((k1 : Int) < ((rowN form : Nat) : Int))) rfl rfl (fun hc2 => ?_) (fun hc2 => ?_)
    ·skip
     have hf4 := of_decide_eq_true hc2
     refine awp_skip ?_
     refine awp_seq ?_
     refine awp_block ?_
     refine regR ?_
     refine mG (.sl 5 0 ((rowE k1).length)) ?_
     refine mG (.i (k1 : Int)) ?_
     refine mG (.i (k1 : Int)) ?_
     refine opG rfl (aop_binI (u := (.int .i64 ((k1 + 1 : Nat) : Int))) rfl rfl rfl rfl rfl trivial (addN (by omega)) ?_)
     refine opG rfl (aop_build rfl rfl rfl pl98 rfl ?_)
     refine opG rfl (aop_lit rfl rfl rfl ut97 iz98 (by decide) (by decide) rfl rfl ?_)
     refine opG rfl (aop_app1 (f := ePr) (l := rowE k1) 57 (⟨(k1 : Int), ((k1 + 1 : Nat) : Int)⟩ : Pr) rfl rfl rfl rfl ut97 in98 rfl (by decide) rfl rfl rfl rfl rfl rfl (fun _ => rfl) rfl rfl (by first | omega | (simp; done) | decide | (simp at *; omega)) (by first | omega | (simp; done) | decide | (simp at *; omega)) rfl ?_)
     refine mG (.sl 57 0 (((rowE k1) ++ [(⟨(k1 : Int), ((k1 + 1 : Nat) : Int)⟩ : Pr)]).length)) ?_
     refine op0 ?_
     refine rs_ (upd (upd (upd (upd (upd (upd (upd none_ 1 (.pt 2 0)) 2 (.pt 3 0)) 3 (.i (10 * (1 + (len % 20))))) 6 (.pt 1 0)) 7 (.sl 57 0 (((rowE k1) ++ [(⟨(k1 : Int), ((k1 + 1 : Nat) : Int)⟩ : Pr)]).length))) 8 (.i ((rowN form : Nat) : Int))) 10 (.i (k1 : Int))) (updO (updO (updO (updO (updO (updO (updO noOb 1 (.live ⟨[.sl 4 0 ((List.replicate k0 ()).length), .v (.slice none 0 0), .v (.slice none 0 0), .v (.slice none 0 0), .v (.slice none 0 0), .i 0, .i 0, .i 0, .i 0, .i 0], 39, 1⟩)) 2 (.live ⟨[.v (.int .u8 form), .v (.int .u8 len), .v (.int .u8 speed), .v (.int .u16 mute), .v (.int .u16 wait), .v (.int .u8 cancel), .v (.int .u8 stay), .v (.int .u8 jn), .one], 25, 1⟩)) 3 (.live ⟨[.v (.slice none 0 0), .v (.slice none 0 0), .v (.slice none 0 0), .v (.slice none 0 0), .v (.slice none 0 0), .i 0, .i 0, .i 0, .i 0, .i 0], 39, 1⟩)) 4 (.live ⟨(enc eC (List.replicate k0 ())), 95, 1⟩)) 5 (.live ⟨(enc ePr (rowE k1)), 98, 2⟩)) 5 .dead) 57 (.live ⟨(enc ePr ((rowE k1) ++ [(⟨(k1 : Int), ((k1 + 1 : Nat) : Int)⟩ : Pr)])), 98, 2⟩)) (lu rfl (lu rfl (lu rfl (lu rfl (lu rfl (lu rfl (lu rfl ln))))))) rfl ?_
     refine regR ?_
     refine mG (.i (k1 : Int)) ?_
     refine opG rfl (aop_binI (u := (.int .i64 ((k1 + 1 : Nat) : Int))) rfl rfl rfl rfl rfl trivial (addN (by omega)) ?_)
     refine mG (.i ((k1 + 1 : Nat) : Int)) ?_
     refine op0 ?_
     show _ ∧ _
     refine ⟨by omega, trivial, ?_⟩
     exact imp_ler [(1, 1), (2, 2), (3, 3), (4, 4), (57, 5)] (lerL [(1, 1), (2, 2), (3, 3), (4, 4), (57, 5)] [((1, 1), .live ⟨[.sl 4 0 ((List.replicate k0 ()).length), .v (.slice none 0 0), .v (.slice none 0 0), .v (.slice none 0 0), .v (.slice none 0 0), .i 0, .i 0, .i 0, .i 0, .i 0], 39, 1⟩), ((2, 2), .live ⟨[.v (.int .u8 form), .v (.int .u8 len), .v (.int .u8 speed), .v (.int .u16 mute), .v (.int .u16 wait), .v (.int .u8 cancel), .v (.int .u8 stay), .v (.int .u8 jn), .one], 25, 1⟩), ((3, 3), .live ⟨[.v (.slice none 0 0), .v (.slice none 0 0), .v (.slice none 0 0), .v (.slice none 0 0), .v (.slice none 0 0), .i 0, .i 0, .i 0, .i 0, .i 0], 39, 1⟩), ((4, 4), .live ⟨(enc eC (List.replicate k0 ())), 95, 1⟩), ((57, 5), .live ⟨(enc ePr (rowE (k1 + 1))), 98, 2⟩)] rfl (by decide) (by decide) ⟨row_map (o := ⟨[.sl 4 0 ((List.replicate k0 ()).length), .v (.slice none 0 0), .v (.slice none 0 0), .v (.slice none 0 0), .v (.slice none 0 0), .i 0, .i 0, .i 0, .i 0, .i 0], 39, 1⟩) rfl (om_ (lm_cons rfl (lm_cons (am_no (a := .v (.slice none 0 0))) (lm_cons (am_no (a := .v (.slice none 0 0))) (lm_cons (am_no (a := .v (.slice none 0 0))) (lm_cons (am_no (a := .v (.slice none 0 0))) (lm_cons (am_no (a := .i 0)) (lm_cons (am_no (a := .i 0)) (lm_cons (am_no (a := .i 0)) (lm_cons (am_no (a := .i 0)) (lm_cons (am_no (a := .i 0)) lm_nil))))))))))) (oks_cons (.sl _ _ _ (by simp)) (oks_cons (ok_no (a := .v (.slice none 0 0))) (oks_cons (ok_no (a := .v (.slice none 0 0))) (oks_cons (ok_no (a := .v (.slice none 0 0))) (oks_cons (ok_no (a := .v (.slice none 0 0))) (oks_cons (ok_no (a := .i 0)) (oks_cons (ok_no (a := .i 0)) (oks_cons (ok_no (a := .i 0)) (oks_cons (ok_no (a := .i 0)) (oks_cons (ok_no (a := .i 0)) oks_nil)))))))))), row_no (o := ⟨[.v (.int .u8 form), .v (.int .u8 len), .v (.int .u8 speed), .v (.int .u16 mute), .v (.int .u16 wait), .v (.int .u8 cancel), .v (.int .u8 stay), .v (.int .u8 jn), .one], 25, 1⟩) rfl rfl, row_no (o := ⟨[.v (.slice none 0 0), .v (.slice none 0 0), .v (.slice none 0 0), .v (.slice none 0 0), .v (.slice none 0 0), .i 0, .i 0, .i 0, .i 0, .i 0], 39, 1⟩) rfl rfl, row_no (o := ⟨(enc eC (List.replicate k0 ())), 95, 1⟩) rfl rfl, row_no (o := ⟨(enc ePr ((rowE k1) ++ [(⟨(k1 : Int), ((k1 + 1 : Nat) : Int)⟩ : Pr)])), 98, 2⟩) rfl (by exact congrArg (fun l_ => LObj.mk (enc ePr l_) 98 2) rfl), trivial⟩ (sr_same 10 (.i ((k1 + 1) : Int)) rfl NoI.out (sr_same 8 (.i ((rowN form : Nat) : Int)) rfl NoI.out (sr_map 7 (.sl 5 0 ((rowE (k1 + 1)).length)) (by first | exact Ok.sl _ _ _ (by first | decide | simp) | exact Ok.pt _ _ (by first | decide | simp)) rfl (sr_map 6 (.pt 1 0) (by first | exact Ok.sl _ _ _ (by first | decide | simp) | exact Ok.pt _ _ (by first | decide | simp)) rfl (sr_same 3 (.i (10 * (1 + (len % 20)))) rfl NoI.out (sr_map 2 (.pt 3 0) (by first | exact Ok.sl _ _ _ (by first | decide | simp) | exact Ok.pt _ _ (by first | decide | simp)) rfl (sr_map 1 (.pt 2 0) (by first | exact Ok.sl _ _ _ (by first | decide | simp) | exact Ok.pt _ _ (by first | decide | simp)) rfl sr_none)))))))) (keep_of rfl)
    ·skip
     have hf5 := of_decide_eq_false hc2
     have hkk : k1 = rowN form := by omega
     refine awp_exit ?_
     show Imp _ _ _
     refine (frz_ [2, 3, 1] [(2, ⟨[.v (.int .u8 form), .v (.int .u8 len), .v (.int .u8 speed), .v (.int .u16 mute), .v (.int .u16 wait), .v (.int .u8 cancel), .v (.int .u8 stay), .v (.int .u8 jn), .one], 25, 1⟩), (3, ⟨[.v (.slice none 0 0), .v (.slice none 0 0), .v (.slice none 0 0), .v (.slice none 0 0), .v (.slice none 0 0), .i 0, .i 0, .i 0, .i 0, .i 0], 39, 1⟩), (1, ⟨[.one, .v (.slice none 0 0), .v (.slice none 0 0), .ro 0 [], .v (.slice none 0 0), .i 0, .i 0, .i 0, .i 0, .i 0], 39, 1⟩)] rfl (fun _ h => h) ⟨keep_cells (cs := [.v (.int .u8 form), .v (.int .u8 len), .v (.int .u8 speed), .v (.int .u16 mute), .v (.int .u16 wait), .v (.int .u8 cancel), .v (.int .u8 stay), .v (.int .u8 jn), .one]) (by simp) rfl rfl (frzs_cons (.inl rfl) (frzs_cons (.inl rfl) (frzs_cons (.inl rfl) (frzs_cons (.inl rfl) (frzs_cons (.inl rfl) (frzs_cons (.inl rfl) (frzs_cons (.inl rfl) (frzs_cons (.inl rfl) (frzs_cons (.inl rfl) frzs_nil))))))))), keep_cells (cs := [.v (.slice none 0 0), .v (.slice none 0 0), .v (.slice none 0 0), .v (.slice none 0 0), .v (.slice none 0 0), .i 0, .i 0, .i 0, .i 0, .i 0]) (by simp) rfl rfl (frzs_cons (.inl rfl) (frzs_cons (.inl rfl) (frzs_cons (.inl rfl) (frzs_cons (.inl rfl) (frzs_cons (.inl rfl) (frzs_cons (.inl rfl) (frzs_cons (.inl rfl) (frzs_cons (.inl rfl) (frzs_cons (.inl rfl) (frzs_cons (.inl rfl) frzs_nil)))))))))), keep_cells (cs := [.sl 4 0 ((List.replicate k0 ()).length), .v (.slice none 0 0), .v (.slice none 0 0), .v (.slice none 0 0), .v (.slice none 0 0), .i 0, .i 0, .i 0, .i 0, .i 0]) (by simp) rfl rfl (frzs_cons (.inr (.one _ rfl)) (frzs_cons (.inl rfl) (frzs_cons (.inl rfl) (frzs_cons (.inr .nil) (frzs_cons (.inl rfl) (frzs_cons (.inl rfl) (frzs_cons (.inl rfl) (frzs_cons (.inl rfl) (frzs_cons (.inl rfl) (frzs_cons (.inl rfl) frzs_nil)))))))))), trivial⟩ (fz_lend 7 (.q ePr (rowE k1)) (lend_s (id := 5) (n := (rowE k1).length) (o := ⟨(enc ePr (rowE k1)), 98, 2⟩) rfl (enc_len (fun _ => rfl) (by first | rfl | (simp; done)))) (fz_same 6 (.pt 1 0) rfl (fz_same 3 (.i (10 * (1 + (len % 20)))) rfl (fz_same 2 (.pt 3 0) rfl (fz_same 1 (.pt 2 0) rfl fz_none)))))).trans ?_
     exact imp_ler [(1, 1), (2, 2), (3, 3)] (lerL [(1, 1), (2, 2), (3, 3)] [((1, 1), .live ⟨[.one, .v (.slice none 0 0), .v (.slice none 0 0), .q ePnt (mkPts form), .v (.slice none 0 0), .i 0, .i 0, .i 0, .i 0, .i 0], 39, 1⟩), ((2, 2), .live ⟨[.v (.int .u8 form), .v (.int .u8 len), .v (.int .u8 speed), .v (.int .u16 mute), .v (.int .u16 wait), .v (.int .u8 cancel), .v (.int .u8 stay), .v (.int .u8 jn), .one], 25, 1⟩), ((3, 3), .live ⟨[.v (.slice none 0 0), .v (.slice none 0 0), .v (.slice none 0 0), .v (.slice none 0 0), .v (.slice none 0 0), .i 0, .i 0, .i 0, .i 0, .i 0], 39, 1⟩)] rfl (by decide) (by decide) ⟨row_no (o := ⟨[.one, .v (.slice none 0 0), .v (.slice none 0 0), .ro 0 [], .v (.slice none 0 0), .i 0, .i 0, .i 0, .i 0, .i 0], 39, 1⟩) rfl (by rw [hP]; rfl), row_no (o := ⟨[.v (.int .u8 form), .v (.int .u8 len), .v (.int .u8 speed), .v (.int .u16 mute), .v (.int .u16 wait), .v (.int .u8 cancel), .v (.int .u8 stay), .v (.int .u8 jn), .one], 25, 1⟩) rfl rfl, row_no (o := ⟨[.v (.slice none 0 0), .v (.slice none 0 0), .v (.slice none 0 0), .v (.slice none 0 0), .v (.slice none 0 0), .i 0, .i 0, .i 0, .i 0, .i 0], 39, 1⟩) rfl rfl, trivial⟩ (sr_same 7 (.q ePr (mkEnds form)) (by first | (rw [hE]; rfl) | (rw [hE, ← hkk]; rfl)) NoI.out (sr_map 6 (.pt 1 0) (by first | exact Ok.sl _ _ _ (by first | decide | simp) | exact Ok.pt _ _ (by first | decide | simp)) rfl (sr_same 3 (.i (10 * (1 + (len % 20)))) rfl NoI.out (sr_map 2 (.pt 3 0) (by first | exact Ok.sl _ _ _ (by first | decide | simp) | exact Ok.pt _ _ (by first | decide | simp)) rfl (sr_map 1 (.pt 2 0) (by first | exact Ok.sl _ _ _ (by first | decide | simp) | exact Ok.pt _ _ (by first | decide | simp)) rfl sr_none)))))) (keep_of rfl)
  ·skip
   have hf6 := (beq_eq_false_iff_ne).1 hc0
   have h40 : ¬ form % 4 = 0 := by simpa using hc0
   refine seqR ?_
   refine bG ((.bool ((form % 4) == 1))) ?_
   refine mG (.b ((form % 4) == 1)) ?_
   refine op0 ?_
   refine rs_ (upd (upd (upd (upd (upd (upd (upd (upd (upd none_ 1 (.pt 51 0)) 2 (.pt 52 0)) 3 (.i (10 * (1 + (len % 20))))) 4 (.v (.complex .f64 (((fuI (10 * (1 + (len % 20))), 0) : Nat × Nat)).1 (((fuI (10 * (1 + (len % 20))), 0) : Nat × Nat)).2))) 5 (.v (.complex .f64 (((0, fuI (10 * (1 + (len % 20)))) : Nat × Nat)).1 (((0, fuI (10 * (1 + (len % 20)))) : Nat × Nat)).2))) 6 (.pt 53 0)) 7 (.v (.slice none 0 0))) 27 (.v (.int .u8 (form % 4)))) 94 (.b ((form % 4) == 1))) (updO (updO (updO noOb 51 (.live ⟨[.v (.int .u8 form), .v (.int .u8 len), .v (.int .u8 speed), .v (.int .u16 mute), .v (.int .u16 wait), .v (.int .u8 cancel), .v (.int .u8 stay), .v (.int .u8 jn), .one], 25, 1⟩)) 52 (.live ⟨[.v (.slice none 0 0), .v (.slice none 0 0), .v (.slice none 0 0), .v (.slice none 0 0), .v (.slice none 0 0), .i 0, .i 0, .i 0, .i 0, .i 0], 39, 1⟩)) 53 (.live ⟨[.v (.slice none 0 0), .v (.slice none 0 0), .v (.slice none 0 0), .v (.slice none 0 0), .v (.slice none 0 0), .i 0, .i 0, .i 0, .i 0, .i 0], 39, 1⟩)) (lu rfl (lu rfl (lu rfl (lu rfl (lu rfl (lu rfl (lu rfl (lu rfl (lu rfl ln))))))))) rfl ?_
   refine awp_cond ((form % 4) == 1) rfl rfl (fun hc3 => ?_) (fun hc3 => ?_)
   ·skip
    have hf7 := (beq_iff_eq).1 hc3
    have h4 : form % 4 = 1 := by simpa using hc3
    have hE := (ends1 h4).1
    have hP := (ends1 h4).2
    refine seqR ?_
    refine mG (.v (.complex .f64 (((fuI (10 * (1 + (len % 20))), 0) : Nat × Nat)).1 (((fuI (10 * (1 + (len % 20))), 0) : Nat × Nat)).2)) ?_
    refine mG (.v (.complex .f64 (((fuI (10 * (1 + (len % 20))), 0) : Nat × Nat)).1 (((fuI (10 * (1 + (len % 20))), 0) : Nat × Nat)).2)) ?_
    refine opG rfl (aop_cx ((4611686018427387904, 0) : Nat × Nat) ((fuI (10 * (1 + (len % 20))), 0) : Nat × Nat) rfl rfl rfl rfl rfl (by simp) (cxf0 _ hunit) ?_)
    refine mG (.v (.complex .f64 (((0, fuI (10 * (1 + (len % 20)))) : Nat × Nat)).1 (((0, fuI (10 * (1 + (len % 20)))) : Nat × Nat)).2)) ?_
    refine opG rfl (aop_cx (cx .mul ((4611686018427387904, 0) : Nat × Nat) ((fuI (10 * (1 + (len % 20))), 0) : Nat × Nat)) ((0, fuI (10 * (1 + (len % 20)))) : Nat × Nat) rfl rfl rfl rfl rfl (by simp) (cxf1 _ hunit) ?_)
    refine mG (.v (.complex .f64 (((fuI (10 * (1 + (len % 20))), 0) : Nat × Nat)).1 (((fuI (10 * (1 + (len % 20))), 0) : Nat × Nat)).2)) ?_
    refine opG rfl (aop_cx ((4611686018427387904, 0) : Nat × Nat) ((fuI (10 * (1 + (len % 20))), 0) : Nat × Nat) rfl rfl rfl rfl rfl (by simp) (cxf0 _ hunit) ?_)
    refine mG (.v (.complex .f64 (((0, fuI (10 * (1 + (len % 20)))) : Nat × Nat)).1 (((0, fuI (10 * (1 + (len % 20)))) : Nat × Nat)).2)) ?_
    refine opG rfl (aop_cx (cx .mul ((4611686018427387904, 0) : Nat × Nat) ((fuI (10 * (1 + (len % 20))), 0) : Nat × Nat)) ((0, fuI (10 * (1 + (len % 20)))) : Nat × Nat) rfl rfl rfl rfl rfl (by simp) (cxf2 _ hunit) ?_)
    refine opG rfl (aop_lit rfl rfl rfl ut34 iz95 (by decide) (by decide) rfl rfl ?_)
    refine fG (.pt 53 0) ft39_0 sz34 ?_
    refine opG rfl (aop_store rfl rfl rfl sz34 rfl rfl rfl rfl rfl (Nat.le_of_ble_eq_true rfl) rfl rfl ?_)
    refine op0 ?_
    refine rs_ (upd (upd (upd (upd (upd none_ 1 (.pt 51 0)) 2 (.pt 52 0)) 3 (.i (10 * (1 + (len % 20))))) 6 (.pt 53 0)) 7 (.v (.slice none 0 0))) (updO (updO (updO (updO noOb 51 (.live ⟨[.v (.int .u8 form), .v (.int .u8 len), .v (.int .u8 speed), .v (.int .u16 mute), .v (.int .u16 wait), .v (.int .u8 cancel), .v (.int .u8 stay), .v (.int .u8 jn), .one], 25, 1⟩)) 52 (.live ⟨[.v (.slice none 0 0), .v (.slice none 0 0), .v (.slice none 0 0), .v (.slice none 0 0), .v (.slice none 0 0), .i 0, .i 0, .i 0, .i 0, .i 0], 39, 1⟩)) 53 (.live ⟨[.v (.slice none 0 0), .v (.slice none 0 0), .v (.slice none 0 0), .v (.slice none 0 0), .v (.slice none 0 0), .i 0, .i 0, .i 0, .i 0, .i 0], 39, 1⟩)) 53 (.live ⟨[.ro 4 [.v (.complex .f64 (((0, 0) : Nat × Nat)).1 (((0, 0) : Nat × Nat)).2), .v (.complex .f64 (((fuI (10 * (1 + (len % 20))), 0) : Nat × Nat)).1 (((fuI (10 * (1 + (len % 20))), 0) : Nat × Nat)).2), .v (.complex .f64 (cx .add (cx .mul ((4611686018427387904, 0) : Nat × Nat) ((fuI (10 * (1 + (len % 20))), 0) : Nat × Nat)) ((0, fuI (10 * (1 + (len % 20)))) : Nat × Nat)).1 (cx .add (cx .mul ((4611686018427387904, 0) : Nat × Nat) ((fuI (10 * (1 + (len % 20))), 0) : Nat × Nat)) ((0, fuI (10 * (1 + (len % 20)))) : Nat × Nat)).2), .v (.complex .f64 (cx .sub (cx .mul ((4611686018427387904, 0) : Nat × Nat) ((fuI (10 * (1 + (len % 20))), 0) : Nat × Nat)) ((0, fuI (10 * (1 + (len % 20)))) : Nat × Nat)).1 (cx .sub (cx .mul ((4611686018427387904, 0) : Nat × Nat) ((fuI (10 * (1 + (len % 20))), 0) : Nat × Nat)) ((0, fuI (10 * (1 + (len % 20)))) : Nat × Nat)).2)], .v (.slice none 0 0), .v (.slice none 0 0), .v (.slice none 0 0), .v (.slice none 0 0), .i 0, .i 0, .i 0, .i 0, .i 0], 39, 1⟩)) (lu rfl (lu rfl (lu rfl (lu rfl (lu rfl ln))))) rfl ?_
    refine seqR ?_
    refine opG rfl (aop_build rfl rfl rfl pl98 rfl ?_)
    refine opG rfl (aop_build rfl rfl rfl pl98 rfl ?_)
    refine opG rfl (aop_build rfl rfl rfl pl98 rfl ?_)
    refine opG rfl (aop_lit rfl rfl rfl ut97 iz98 (by decide) (by decide) rfl rfl ?_)
    refine mG (.ro 3 [.i 0, .i 1, .i 1, .i 2, .i 3, .i 1]) ?_
    refine op0 ?_
    refine rs_ (upd (upd (upd (upd (upd none_ 1 (.pt 51 0)) 2 (.pt 52 0)) 3 (.i (10 * (1 + (len % 20))))) 6 (.pt 53 0)) 7 (.ro 3 [.i 0, .i 1, .i 1, .i 2, .i 3, .i 1])) (updO (updO (updO (updO noOb 51 (.live ⟨[.v (.int .u8 form), .v (.int .u8 len), .v (.int .u8 speed), .v (.int .u16 mute), .v (.int .u16 wait), .v (.int .u8 cancel), .v (.int .u8 stay), .v (.int .u8 jn), .one], 25, 1⟩)) 52 (.live ⟨[.v (.slice none 0 0), .v (.slice none 0 0), .v (.slice none 0 0), .v (.slice none 0 0), .v (.slice none 0 0), .i 0, .i 0, .i 0, .i 0, .i 0], 39, 1⟩)) 53 (.live ⟨[.v (.slice none 0 0), .v (.slice none 0 0), .v (.slice none 0 0), .v (.slice none 0 0), .v (.slice none 0 0), .i 0, .i 0, .i 0, .i 0, .i 0], 39, 1⟩)) 53 (.live ⟨[.ro 4 [.v (.complex .f64 (((0, 0) : Nat × Nat)).1 (((0, 0) : Nat × Nat)).2), .v (.complex .f64 (((fuI (10 * (1 + (len % 20))), 0) : Nat × Nat)).1 (((fuI (10 * (1 + (len % 20))), 0) : Nat × Nat)).2), .v (.complex .f64 (cx .add (cx .mul ((4611686018427387904, 0) : Nat × Nat) ((fuI (10 * (1 + (len % 20))), 0) : Nat × Nat)) ((0, fuI (10 * (1 + (len % 20)))) : Nat × Nat)).1 (cx .add (cx .mul ((4611686018427387904, 0) : Nat × Nat) ((fuI (10 * (1 + (len % 20))), 0) : Nat × Nat)) ((0, fuI (10 * (1 + (len % 20)))) : Nat × Nat)).2), .v (.complex .f64 (cx .sub (cx .mul ((4611686018427387904, 0) : Nat × Nat) ((fuI (10 * (1 + (len % 20))), 0) : Nat × Nat)) ((0, fuI (10 * (1 + (len % 20)))) : Nat × Nat)).1 (cx .sub (cx .mul ((4611686018427387904, 0) : Nat × Nat) ((fuI (10 * (1 + (len % 20))), 0) : Nat × Nat)) ((0, fuI (10 * (1 + (len % 20)))) : Nat × Nat)).2)], .v (.slice none 0 0), .v (.slice none 0 0), .v (.slice none 0 0), .v (.slice none 0 0), .i 0, .i 0, .i 0, .i 0, .i 0], 39, 1⟩)) (lu rfl (lu rfl (lu rfl (lu rfl (lu rfl ln))))) rfl ?_
    refine regR ?_
    refine opG rfl (aop_build rfl rfl rfl pl100 rfl ?_)
    refine opG rfl (aop_lit rfl rfl rfl ut37 iz100 (by decide) (by decide) rfl rfl ?_)
    refine fG (.pt 53 3) ft39_3 sz37 ?_
    refine opG rfl (aop_store rfl rfl rfl sz37 rfl rfl rfl rfl rfl (Nat.le_of_ble_eq_true rfl) rfl rfl ?_)
    refine op0 ?_
    show Imp _ _ _
    refine (frz_ [51, 52, 53] [(51, ⟨[.v (.int .u8 form), .v (.int .u8 len), .v (.int .u8 speed), .v (.int .u16 mute), .v (.int .u16 wait), .v (.int .u8 cancel), .v (.int .u8 stay), .v (.int .u8 jn), .one], 25, 1⟩), (52, ⟨[.v (.slice none 0 0), .v (.slice none 0 0), .v (.slice none 0 0), .v (.slice none 0 0), .v (.slice none 0 0), .i 0, .i 0, .i 0, .i 0, .i 0], 39, 1⟩), (53, ⟨[.one, .v (.slice none 0 0), .v (.slice none 0 0), .ro 1 [.i 1, .i 0, .i 1, .i 2], .v (.slice none 0 0), .i 0, .i 0, .i 0, .i 0, .i 0], 39, 1⟩)] rfl (fun _ h => h) ⟨keep_cells (cs := [.v (.int .u8 form), .v (.int .u8 len), .v (.int .u8 speed), .v (.int .u16 mute), .v (.int .u16 wait), .v (.int .u8 cancel), .v (.int .u8 stay), .v (.int .u8 jn), .one]) (by simp) rfl rfl (frzs_cons (.inl rfl) (frzs_cons (.inl rfl) (frzs_cons (.inl rfl) (frzs_cons (.inl rfl) (frzs_cons (.inl rfl) (frzs_cons (.inl rfl) (frzs_cons (.inl rfl) (frzs_cons (.inl rfl) (frzs_cons (.inl rfl) frzs_nil))))))))), keep_cells (cs := [.v (.slice none 0 0), .v (.slice none 0 0), .v (.slice none 0 0), .v (.slice none 0 0), .v (.slice none 0 0), .i 0, .i 0, .i 0, .i 0, .i 0]) (by simp) rfl rfl (frzs_cons (.inl rfl) (frzs_cons (.inl rfl) (frzs_cons (.inl rfl) (frzs_cons (.inl rfl) (frzs_cons (.inl rfl) (frzs_cons (.inl rfl) (frzs_cons (.inl rfl) (frzs_cons (.inl rfl) (frzs_cons (.inl rfl) (frzs_cons (.inl rfl) frzs_nil)))))))))), keep_cells (cs := [.ro 4 [.v (.complex .f64 (((0, 0) : Nat × Nat)).1 (((0, 0) : Nat × Nat)).2), .v (.complex .f64 (((fuI (10 * (1 + (len % 20))), 0) : Nat × Nat)).1 (((fuI (10 * (1 + (len % 20))), 0) : Nat × Nat)).2), .v (.complex .f64 (cx .add (cx .mul ((4611686018427387904, 0) : Nat × Nat) ((fuI (10 * (1 + (len % 20))), 0) : Nat × Nat)) ((0, fuI (10 * (1 + (len % 20)))) : Nat × Nat)).1 (cx .add (cx .mul ((4611686018427387904, 0) : Nat × Nat) ((fuI (10 * (1 + (len % 20))), 0) : Nat × Nat)) ((0, fuI (10 * (1 + (len % 20)))) : Nat × Nat)).2), .v (.complex .f64 (cx .sub (cx .mul ((4611686018427387904, 0) : Nat × Nat) ((fuI (10 * (1 + (len % 20))), 0) : Nat × Nat)) ((0, fuI (10 * (1 + (len % 20)))) : Nat × Nat)).1 (cx .sub (cx .mul ((4611686018427387904, 0) : Nat × Nat) ((fuI (10 * (1 + (len % 20))), 0) : Nat × Nat)) ((0, fuI (10 * (1 + (len % 20)))) : Nat × Nat)).2)], .v (.slice none 0 0), .v (.slice none 0 0), .ro 1 [.i 1, .i 0, .i 1, .i 2], .v (.slice none 0 0), .i 0, .i 0, .i 0, .i 0, .i 0]) (by simp) rfl rfl (frzs_cons (.inr (.one _ rfl)) (frzs_cons (.inl rfl) (frzs_cons (.inl rfl) (frzs_cons (.inl rfl) (frzs_cons (.inl rfl) (frzs_cons (.inl rfl) (frzs_cons (.inl rfl) (frzs_cons (.inl rfl) (frzs_cons (.inl rfl) (frzs_cons (.inl rfl) frzs_nil)))))))))), trivial⟩ (fz_same 7 (.ro 3 [.i 0, .i 1, .i 1, .i 2, .i 3, .i 1]) rfl (fz_same 6 (.pt 53 0) rfl (fz_same 3 (.i (10 * (1 + (len % 20)))) rfl (fz_same 2 (.pt 52 0) rfl (fz_same 1 (.pt 51 0) rfl fz_none)))))).trans ?_
    exact imp_ler [(53, 1), (51, 2), (52, 3)] (lerL [(53, 1), (51, 2), (52, 3)] [((53, 1), .live ⟨[.one, .v (.slice none 0 0), .v (.slice none 0 0), .q ePnt (mkPts form), .v (.slice none 0 0), .i 0, .i 0, .i 0, .i 0, .i 0], 39, 1⟩), ((51, 2), .live ⟨[.v (.int .u8 form), .v (.int .u8 len), .v (.int .u8 speed), .v (.int .u16 mute), .v (.int .u16 wait), .v (.int .u8 cancel), .v (.int .u8 stay), .v (.int .u8 jn), .one], 25, 1⟩), ((52, 3), .live ⟨[.v (.slice none 0 0), .v (.slice none 0 0), .v (.slice none 0 0), .v (.slice none 0 0), .v (.slice none 0 0), .i 0, .i 0, .i 0, .i 0, .i 0], 39, 1⟩)] rfl (by decide) (by decide) ⟨row_no (o := ⟨[.one, .v (.slice none 0 0), .v (.slice none 0 0), .ro 1 [.i 1, .i 0, .i 1, .i 2], .v (.slice none 0 0), .i 0, .i 0, .i 0, .i 0, .i 0], 39, 1⟩) rfl (by rw [hP]; rfl), row_no (o := ⟨[.v (.int .u8 form), .v (.int .u8 len), .v (.int .u8 speed), .v (.int .u16 mute), .v (.int .u16 wait), .v (.int .u8 cancel), .v (.int .u8 stay), .v (.int .u8 jn), .one], 25, 1⟩) rfl rfl, row_no (o := ⟨[.v (.slice none 0 0), .v (.slice none 0 0), .v (.slice none 0 0), .v (.slice none 0 0), .v (.slice none 0 0), .i 0, .i 0, .i 0, .i 0, .i 0], 39, 1⟩) rfl rfl, trivial⟩ (sr_same 7 (.q ePr (mkEnds form)) (by first | (rw [hE]; rfl) | (rw [hE, ← hkk]; rfl)) NoI.out (sr_map 6 (.pt 1 0) (by first | exact Ok.sl _ _ _ (by first | decide | simp) | exact Ok.pt _ _ (by first | decide | simp)) rfl (sr_same 3 (.i (10 * (1 + (len % 20)))) rfl NoI.out (sr_map 2 (.pt 3 0) (by first | exact Ok.sl _ _ _ (by first | decide | simp) | exact Ok.pt _ _ (by first | decide | simp)) rfl (sr_map 1 (.pt 2 0) (by first | exact Ok.sl _ _ _ (by first | decide | simp) | exact Ok.pt _ _ (by first | decide | simp)) rfl sr_none)))))) (keep_of rfl)
   ·skip
    have hf8 := (beq_eq_false_iff_ne).1 hc3
    have h41 : ¬ form % 4 = 1 := by simpa using hc3
    refine seqR ?_
    refine bG ((.bool ((form % 4) == 2))) ?_
    refine mG (.b ((form % 4) == 2)) ?_
    refine op0 ?_
    refine awp_cond ((form % 4) == 2) rfl rfl (fun hc4 => ?_) (fun hc4 => ?_)
    ·skip
     have hf9 := (beq_iff_eq).1 hc4
     have h4 : form % 4 = 2 := by simpa using hc4
     have hE := (ends2 h4).1
     have hP := (ends2 h4).2
     refine seqR ?_
     refine mG (.v (.complex .f64 (((fuI (10 * (1 + (len % 20))), 0) : Nat × Nat)).1 (((fuI (10 * (1 + (len % 20))), 0) : Nat × Nat)).2)) ?_
     refine mG (.v (.complex .f64 (((fuI (10 * (1 + (len % 20))), 0) : Nat × Nat)).1 (((fuI (10 * (1 + (len % 20))), 0) : Nat × Nat)).2)) ?_
     refine opG rfl (aop_cx ((4611686018427387904, 0) : Nat × Nat) ((fuI (10 * (1 + (len % 20))), 0) : Nat × Nat) rfl rfl rfl rfl rfl (by simp) (cxf0 _ hunit) ?_)
     refine mG (.v (.complex .f64 (((fuI (10 * (1 + (len % 20))), 0) : Nat × Nat)).1 (((fuI (10 * (1 + (len % 20))), 0) : Nat × Nat)).2)) ?_
     refine opG rfl (aop_cx ((4613937818241073152, 0) : Nat × Nat) ((fuI (10 * (1 + (len % 20))), 0) : Nat × Nat) rfl rfl rfl rfl rfl (by simp) (cxf3 _ hunit) ?_)
     refine mG (.v (.complex .f64 (((0, fuI (10 * (1 + (len % 20)))) : Nat × Nat)).1 (((0, fuI (10 * (1 + (len % 20)))) : Nat × Nat)).2)) ?_
     refine opG rfl (aop_cx ((0, fuI (10 * (1 + (len % 20)))) : Nat × Nat) ((4611686018427387904, 0) : Nat × Nat) rfl rfl rfl rfl rfl (by simp) (cxf4 _ hunit) ?_)
     refine opG rfl (aop_cx (cx .mul ((4613937818241073152, 0) : Nat × Nat) ((fuI (10 * (1 + (len % 20))), 0) : Nat × Nat)) (cx .quo ((0, fuI (10 * (1 + (len % 20)))) : Nat × Nat) ((4611686018427387904, 0) : Nat × Nat)) rfl rfl rfl rfl rfl (by simp) (cxf5 _ hunit) ?_)
     refine mG (.v (.complex .f64 (((fuI (10 * (1 + (len % 20))), 0) : Nat × Nat)).1 (((fuI (10 * (1 + (len % 20))), 0) : Nat × Nat)).2)) ?_
     refine opG rfl (aop_cx ((4613937818241073152, 0) : Nat × Nat) ((fuI (10 * (1 + (len % 20))), 0) : Nat × Nat) rfl rfl rfl rfl rfl (by simp) (cxf3 _ hunit) ?_)
     refine mG (.v (.complex .f64 (((0, fuI (10 * (1 + (len % 20)))) : Nat × Nat)).1 (((0, fuI (10 * (1 + (len % 20)))) : Nat × Nat)).2)) ?_
     refine opG rfl (aop_cx ((0, fuI (10 * (1 + (len % 20)))) : Nat × Nat) ((4611686018427387904, 0) : Nat × Nat) rfl rfl rfl rfl rfl (by simp) (cxf4 _ hunit) ?_)
     refine opG rfl (aop_cx (cx .mul ((4613937818241073152, 0) : Nat × Nat) ((fuI (10 * (1 + (len % 20))), 0) : Nat × Nat)) (cx .quo ((0, fuI (10 * (1 + (len % 20)))) : Nat × Nat) ((4611686018427387904, 0) : Nat × Nat)) rfl rfl rfl rfl rfl (by simp) (cxf6 _ hunit) ?_)
     refine mG (.v (.complex .f64 (((fuI (10 * (1 + (len % 20))), 0) : Nat × Nat)).1 (((fuI (10 * (1 + (len % 20))), 0) : Nat × Nat)).2)) ?_
     refine opG rfl (aop_cx ((4616189618054758400, 0) : Nat × Nat) ((fuI (10 * (1 + (len % 20))), 0) : Nat × Nat) rfl rfl rfl rfl rfl (by simp) (cxf7 _ hunit) ?_)
     refine mG (.v (.complex .f64 (((fuI (10 * (1 + (len % 20))), 0) : Nat × Nat)).1 (((fuI (10 * (1 + (len % 20))), 0) : Nat × Nat)).2)) ?_
     refine opG rfl (aop_cx ((4617315517961601024, 0) : Nat × Nat) ((fuI (10 * (1 + (len % 20))), 0) : Nat × Nat) rfl rfl rfl rfl rfl (by simp) (cxf8 _ hunit) ?_)
     refine mG (.v (.complex .f64 (((fuI (10 * (1 + (len % 20))), 0) : Nat × Nat)).1 (((fuI (10 * (1 + (len % 20))), 0) : Nat × Nat)).2)) ?_
     refine opG rfl (aop_cx ((4618441417868443648, 0) : Nat × Nat) ((fuI (10 * (1 + (len % 20))), 0) : Nat × Nat) rfl rfl rfl rfl rfl (by simp) (cxf9 _ hunit) ?_)
     refine opG rfl (aop_lit rfl rfl rfl ut34 iz95 (by decide) (by decide) rfl rfl ?_)
     refine fG (.pt 53 0) ft39_0 sz34 ?_
     refine opG rfl (aop_store rfl rfl rfl sz34 rfl rfl rfl rfl rfl (Nat.le_of_ble_eq_true rfl) rfl rfl ?_)
     refine op0 ?_
     refine rs_ (upd (upd (upd (upd (upd none_ 1 (.pt 51 0)) 2 (.pt 52 0)) 3 (.i (10 * (1 + (len % 20))))) 6 (.pt 53 0)) 7 (.v (.slice none 0 0))) (updO (updO (updO (updO noOb 51 (.live ⟨[.v (.int .u8 form), .v (.int .u8 len), .v (.int .u8 speed), .v (.int .u16 mute), .v (.int .u16 wait), .v (.int .u8 cancel), .v (.int .u8 stay), .v (.int .u8 jn), .one], 25, 1⟩)) 52 (.live ⟨[.v (.slice none 0 0), .v (.slice none 0 0), .v (.slice none 0 0), .v (.slice none 0 0), .v (.slice none 0 0), .i 0, .i 0, .i 0, .i 0, .i 0], 39, 1⟩)) 53 (.live ⟨[.v (.slice none 0 0), .v (.slice none 0 0), .v (.slice none 0 0), .v (.slice none 0 0), .v (.slice none 0 0), .i 0, .i 0, .i 0, .i 0, .i 0], 39, 1⟩)) 53 (.live ⟨[.ro 8 [.v (.complex .f64 (((0, 0) : Nat × Nat)).1 (((0, 0) : Nat × Nat)).2), .v (.complex .f64 (((fuI (10 * (1 + (len % 20))), 0) : Nat × Nat)).1 (((fuI (10 * (1 + (len % 20))), 0) : Nat × Nat)).2), .v (.complex .f64 (cx .mul ((4611686018427387904, 0) : Nat × Nat) ((fuI (10 * (1 + (len % 20))), 0) : Nat × Nat)).1 (cx .mul ((4611686018427387904, 0) : Nat × Nat) ((fuI (10 * (1 + (len % 20))), 0) : Nat × Nat)).2), .v (.complex .f64 (cx .add (cx .mul ((4613937818241073152, 0) : Nat × Nat) ((fuI (10 * (1 + (len % 20))), 0) : Nat × Nat)) (cx .quo ((0, fuI (10 * (1 + (len % 20)))) : Nat × Nat) ((4611686018427387904, 0) : Nat × Nat))).1 (cx .add (cx .mul ((4613937818241073152, 0) : Nat × Nat) ((fuI (10 * (1 + (len % 20))), 0) : Nat × Nat)) (cx .quo ((0, fuI (10 * (1 + (len % 20)))) : Nat × Nat) ((4611686018427387904, 0) : Nat × Nat))).2), .v (.complex .f64 (cx .sub (cx .mul ((4613937818241073152, 0) : Nat × Nat) ((fuI (10 * (1 + (len % 20))), 0) : Nat × Nat)) (cx .quo ((0, fuI (10 * (1 + (len % 20)))) : Nat × Nat) ((4611686018427387904, 0) : Nat × Nat))).1 (cx .sub (cx .mul ((4613937818241073152, 0) : Nat × Nat) ((fuI (10 * (1 + (len % 20))), 0) : Nat × Nat)) (cx .quo ((0, fuI (10 * (1 + (len % 20)))) : Nat × Nat) ((4611686018427387904, 0) : Nat × Nat))).2), .v (.complex .f64 (cx .mul ((4616189618054758400, 0) : Nat × Nat) ((fuI (10 * (1 + (len % 20))), 0) : Nat × Nat)).1 (cx .mul ((4616189618054758400, 0) : Nat × Nat) ((fuI (10 * (1 + (len % 20))), 0) : Nat × Nat)).2), .v (.complex .f64 (cx .mul ((4617315517961601024, 0) : Nat × Nat) ((fuI (10 * (1 + (len % 20))), 0) : Nat × Nat)).1 (cx .mul ((4617315517961601024, 0) : Nat × Nat) ((fuI (10 * (1 + (len % 20))), 0) : Nat × Nat)).2), .v (.complex .f64 (cx .mul ((4618441417868443648, 0) : Nat × Nat) ((fuI (10 * (1 + (len % 20))), 0) : Nat × Nat)).1 (cx .mul ((4618441417868443648, 0) : Nat × Nat) ((fuI (10 * (1 + (len % 20))), 0) : Nat × Nat)).2)], .v (.slice none 0 0), .v (.slice none 0 0), .v (.slice none 0 0), .v (.slice none 0 0), .i 0, .i 0, .i 0, .i 0, .i 0], 39, 1⟩)) (lu rfl (lu rfl (lu rfl (lu rfl (lu rfl ln))))) rfl ?_
     refine seqR ?_
     refine opG rfl (aop_build rfl rfl rfl pl98 rfl ?_)
     refine opG rfl (aop_build rfl rfl rfl pl98 rfl ?_)
     refine opG rfl (aop_build rfl rfl rfl pl98 rfl ?_)
     refine opG rfl (aop_build rfl rfl rfl pl98 rfl ?_)
     refine opG rfl (aop_build rfl rfl rfl pl98 rfl ?_)
     refine opG rfl (aop_build rfl rfl rfl pl98 rfl ?_)
     refine opG rfl (aop_build rfl rfl rfl pl98 rfl ?_)
     refine opG rfl (aop_build rfl rfl rfl pl98 rfl ?_)
     refine opG rfl (aop_lit rfl rfl rfl ut97 iz98 (by decide) (by decide) rfl rfl ?_)
     refine mG (.ro 8 [.i 0, .i 1, .i 1, .i 2, .i 2, .i 3, .i 2, .i 4, .i 5, .i 3, .i 4, .i 5, .i 5, .i 6, .i 6, .i 7]) ?_
     refine op0 ?_
     refine rs_ (upd (upd (upd (upd (upd none_ 1 (.pt 51 0)) 2 (.pt 52 0)) 3 (.i (10 * (1 + (len % 20))))) 6 (.pt 53 0)) 7 (.ro 8 [.i 0, .i 1, .i 1, .i 2, .i 2, .i 3, .i 2, .i 4, .i 5, .i 3, .i 4, .i 5, .i 5, .i 6, .i 6, .i 7])) (updO (updO (updO (updO noOb 51 (.live ⟨[.v (.int .u8 form), .v (.int .u8 len), .v (.int .u8 speed), .v (.int .u16 mute), .v (.int .u16 wait), .v (.int .u8 cancel), .v (.int .u8 stay), .v (.int .u8 jn), .one], 25, 1⟩)) 52 (.live ⟨[.v (.slice none 0 0), .v (.slice none 0 0), .v (.slice none 0 0), .v (.slice none 0 0), .v (.slice none 0 0), .i 0, .i 0, .i 0, .i 0, .i 0], 39, 1⟩)) 53 (.live ⟨[.v (.slice none 0 0), .v (.slice none 0 0), .v (.slice none 0 0), .v (.slice none 0 0), .v (.slice none 0 0), .i 0, .i 0, .i 0, .i 0, .i 0], 39, 1⟩)) 53 (.live ⟨[.ro 8 [.v (.complex .f64 (((0, 0) : Nat × Nat)).1 (((0, 0) : Nat × Nat)).2), .v (.complex .f64 (((fuI (10 * (1 + (len % 20))), 0) : Nat × Nat)).1 (((fuI (10 * (1 + (len % 20))), 0) : Nat × Nat)).2), .v (.complex .f64 (cx .mul ((4611686018427387904, 0) : Nat × Nat) ((fuI (10 * (1 + (len % 20))), 0) : Nat × Nat)).1 (cx .mul ((4611686018427387904, 0) : Nat × Nat) ((fuI (10 * (1 + (len % 20))), 0) : Nat × Nat)).2), .v (.complex .f64 (cx .add (cx .mul ((4613937818241073152, 0) : Nat × Nat) ((fuI (10 * (1 + (len % 20))), 0) : Nat × Nat)) (cx .quo ((0, fuI (10 * (1 + (len % 20)))) : Nat × Nat) ((4611686018427387904, 0) : Nat × Nat))).1 (cx .add (cx .mul ((4613937818241073152, 0) : Nat × Nat) ((fuI (10 * (1 + (len % 20))), 0) : Nat × Nat)) (cx .quo ((0, fuI (10 * (1 + (len % 20)))) : Nat × Nat) ((4611686018427387904, 0) : Nat × Nat))).2), .v (.complex .f64 (cx .sub (cx .mul ((4613937818241073152, 0) : Nat × Nat) ((fuI (10 * (1 + (len % 20))), 0) : Nat × Nat)) (cx .quo ((0, fuI (10 * (1 + (len % 20)))) : Nat × Nat) ((4611686018427387904, 0) : Nat × Nat))).1 (cx .sub (cx .mul ((4613937818241073152, 0) : Nat × Nat) ((fuI (10 * (1 + (len % 20))), 0) : Nat × Nat)) (cx .quo ((0, fuI (10 * (1 + (len % 20)))) : Nat × Nat) ((4611686018427387904, 0) : Nat × Nat))).2), .v (.complex .f64 (cx .mul ((4616189618054758400, 0) : Nat × Nat) ((fuI (10 * (1 + (len % 20))), 0) : Nat × Nat)).1 (cx .mul ((4616189618054758400, 0) : Nat × Nat) ((fuI (10 * (1 + (len % 20))), 0) : Nat × Nat)).2), .v (.complex .f64 (cx .mul ((4617315517961601024, 0) : Nat × Nat) ((fuI (10 * (1 + (len % 20))), 0) : Nat × Nat)).1 (cx .mul ((4617315517961601024, 0) : Nat × Nat) ((fuI (10 * (1 + (len % 20))), 0) : Nat × Nat)).2), .v (.complex .f64 (cx .mul ((4618441417868443648, 0) : Nat × Nat) ((fuI (10 * (1 + (len % 20))), 0) : Nat × Nat)).1 (cx .mul ((4618441417868443648, 0) : Nat × Nat) ((fuI (10 * (1 + (len % 20))), 0) : Nat × Nat)).2)], .v (.slice none 0 0), .v (.slice none 0 0), .v (.slice none 0 0), .v (.slice none 0 0), .i 0, .i 0, .i 0, .i 0, .i 0], 39, 1⟩)) (lu rfl (lu rfl (lu rfl (lu rfl (lu rfl ln))))) rfl ?_
     refine regR ?_
     refine opG rfl (aop_build rfl rfl rfl pl100 rfl ?_)
     refine opG rfl (aop_build rfl rfl rfl pl100 rfl ?_)
     refine opG rfl (aop_lit rfl rfl rfl ut37 iz100 (by decide) (by decide) rfl rfl ?_)
     refine fG (.pt 53 3) ft39_3 sz37 ?_
     refine opG rfl (aop_store rfl rfl rfl sz37 rfl rfl rfl rfl rfl (Nat.le_of_ble_eq_true rfl) rfl rfl ?_)
     refine op0 ?_
     show Imp _ _ _
     refine (frz_ [51, 52, 53] [(51, ⟨[.v (.int .u8 form), .v (.int .u8 len), .v (.int .u8 speed), .v (.int .u16 mute), .v (.int .u16 wait), .v (.int .u8 cancel), .v (.int .u8 stay), .v (.int .u8 jn), .one], 25, 1⟩), (52, ⟨[.v (.slice none 0 0), .v (.slice none 0 0), .v (.slice none 0 0), .v (.slice none 0 0), .v (.slice none 0 0), .i 0, .i 0, .i 0, .i 0, .i 0], 39, 1⟩), (53, ⟨[.one, .v (.slice none 0 0), .v (.slice none 0 0), .ro 2 [.i 2, .i 1, .i 2, .i 3, .i 5, .i 6, .i 4, .i 5], .v (.slice none 0 0), .i 0, .i 0, .i 0, .i 0, .i 0], 39, 1⟩)] rfl (fun _ h => h) ⟨keep_cells (cs := [.v (.int .u8 form), .v (.int .u8 len), .v (.int .u8 speed), .v (.int .u16 mute), .v (.int .u16 wait), .v (.int .u8 cancel), .v (.int .u8 stay), .v (.int .u8 jn), .one]) (by simp) rfl rfl (frzs_cons (.inl rfl) (frzs_cons (.inl rfl) (frzs_cons (.inl rfl) (frzs_cons (.inl rfl) (frzs_cons (.inl rfl) (frzs_cons (.inl rfl) (frzs_cons (.inl rfl) (frzs_cons (.inl rfl) (frzs_cons (.inl rfl) frzs_nil))))))))), keep_cells (cs := [.v (.slice none 0 0), .v (.slice none 0 0), .v (.slice none 0 0), .v (.slice none 0 0), .v (.slice none 0 0), .i 0, .i 0, .i 0, .i 0, .i 0]) (by simp) rfl rfl (frzs_cons (.inl rfl) (frzs_cons (.inl rfl) (frzs_cons (.inl rfl) (frzs_cons (.inl rfl) (frzs_cons (.inl rfl) (frzs_cons (.inl rfl) (frzs_cons (.inl rfl) (frzs_cons (.inl rfl) (frzs_cons (.inl rfl) (frzs_cons (.inl rfl) frzs_nil)))))))))), keep_cells (cs := [.ro 8 [.v (.complex .f64 (((0, 0) : Nat × Nat)).1 (((0, 0) : Nat × Nat)).2), .v (.complex .f64 (((fuI (10 * (1 + (len % 20))), 0) : Nat × Nat)).1 (((fuI (10 * (1 + (len % 20))), 0) : Nat × Nat)).2), .v (.complex .f64 (cx .mul ((4611686018427387904, 0) : Nat × Nat) ((fuI (10 * (1 + (len % 20))), 0) : Nat × Nat)).1 (cx .mul ((4611686018427387904, 0) : Nat × Nat) ((fuI (10 * (1 + (len % 20))), 0) : Nat × Nat)).2), .v (.complex .f64 (cx .add (cx .mul ((4613937818241073152, 0) : Nat × Nat) ((fuI (10 * (1 + (len % 20))), 0) : Nat × Nat)) (cx .quo ((0, fuI (10 * (1 + (len % 20)))) : Nat × Nat) ((4611686018427387904, 0) : Nat × Nat))).1 (cx .add (cx .mul ((4613937818241073152, 0) : Nat × Nat) ((fuI (10 * (1 + (len % 20))), 0) : Nat × Nat)) (cx .quo ((0, fuI (10 * (1 + (len % 20)))) : Nat × Nat) ((4611686018427387904, 0) : Nat × Nat))).2), .v (.complex .f64 (cx .sub (cx .mul ((4613937818241073152, 0) : Nat × Nat) ((fuI (10 * (1 + (len % 20))), 0) : Nat × Nat)) (cx .quo ((0, fuI (10 * (1 + (len % 20)))) : Nat × Nat) ((4611686018427387904, 0) : Nat × Nat))).1 (cx .sub (cx .mul ((4613937818241073152, 0) : Nat × Nat) ((fuI (10 * (1 + (len % 20))), 0) : Nat × Nat)) (cx .quo ((0, fuI (10 * (1 + (len % 20)))) : Nat × Nat) ((4611686018427387904, 0) : Nat × Nat))).2), .v (.complex .f64 (cx .mul ((4616189618054758400, 0) : Nat × Nat) ((fuI (10 * (1 + (len % 20))), 0) : Nat × Nat)).1 (cx .mul ((4616189618054758400, 0) : Nat × Nat) ((fuI (10 * (1 + (len % 20))), 0) : Nat × Nat)).2), .v (.complex .f64 (cx .mul ((4617315517961601024, 0) : Nat × Nat) ((fuI (10 * (1 + (len % 20))), 0) : Nat × Nat)).1 (cx .mul ((4617315517961601024, 0) : Nat × Nat) ((fuI (10 * (1 + (len % 20))), 0) : Nat × Nat)).2), .v (.complex .f64 (cx .mul ((4618441417868443648, 0) : Nat × Nat) ((fuI (10 * (1 + (len % 20))), 0) : Nat × Nat)).1 (cx .mul ((4618441417868443648, 0) : Nat × Nat) ((fuI (10 * (1 + (len % 20))), 0) : Nat × Nat)).2)], .v (.slice none 0 0), .v (.slice none 0 0), .ro 2 [.i 2, .i 1, .i 2, .i 3, .i 5, .i 6, .i 4, .i 5], .v (.slice none 0 0), .i 0, .i 0, .i 0, .i 0, .i 0]) (by simp) rfl rfl (frzs_cons (.inr (.one _ rfl)) (frzs_cons (.inl rfl) (frzs_cons (.inl rfl) (frzs_cons (.inl rfl) (frzs_cons (.inl rfl) (frzs_cons (.inl rfl) (frzs_cons (.inl rfl) (frzs_cons (.inl rfl) (frzs_cons (.inl rfl) (frzs_cons (.inl rfl) frzs_nil)))))))))), trivial⟩ (fz_same 7 (.ro 8 [.i 0, .i 1, .i 1, .i 2, .i 2, .i 3, .i 2, .i 4, .i 5, .i 3, .i 4, .i 5, .i 5, .i 6, .i 6, .i 7]) rfl (fz_same 6 (.pt 53 0) rfl (fz_same 3 (.i (10 * (1 + (len % 20)))) rfl (fz_same 2 (.pt 52 0) rfl (fz_same 1 (.pt 51 0) rfl fz_none)))))).trans ?_
     exact imp_ler [(53, 1), (51, 2), (52, 3)] (lerL [(53, 1), (51, 2), (52, 3)] [((53, 1), .live ⟨[.one, .v (.slice none 0 0), .v (.slice none 0 0), .q ePnt (mkPts form), .v (.slice none 0 0), .i 0, .i 0, .i 0, .i 0, .i 0], 39, 1⟩), ((51, 2), .live ⟨[.v (.int .u8 form), .v (.int .u8 len), .v (.int .u8 speed), .v (.int .u16 mute), .v (.int .u16 wait), .v (.int .u8 cancel), .v (.int .u8 stay), .v (.int .u8 jn), .one], 25, 1⟩), ((52, 3), .live ⟨[.v (.slice none 0 0), .v (.slice none 0 0), .v (.slice none 0 0), .v (.slice none 0 0), .v (.slice none 0 0), .i 0, .i 0, .i 0, .i 0, .i 0], 39, 1⟩)] rfl (by decide) (by decide) ⟨row_no (o := ⟨[.one, .v (.slice none 0 0), .v (.slice none 0 0), .ro 2 [.i 2, .i 1, .i 2, .i 3, .i 5, .i 6, .i 4, .i 5], .v (.slice none 0 0), .i 0, .i 0, .i 0, .i 0, .i 0], 39, 1⟩) rfl (by rw [hP]; rfl), row_no (o := ⟨[.v (.int .u8 form), .v (.int .u8 len), .v (.int .u8 speed), .v (.int .u16 mute), .v (.int .u16 wait), .v (.int .u8 cancel), .v (.int .u8 stay), .v (.int .u8 jn), .one], 25, 1⟩) rfl rfl, row_no (o := ⟨[.v (.slice none 0 0), .v (.slice none 0 0), .v (.slice none 0 0), .v (.slice none 0 0), .v (.slice none 0 0), .i 0, .i 0, .i 0, .i 0, .i 0], 39, 1⟩) rfl rfl, trivial⟩ (sr_same 7 (.q ePr (mkEnds form)) (by first | (rw [hE]; rfl) | (rw [hE, ← hkk]; rfl)) NoI.out (sr_map 6 (.pt 1 0) (by first | exact Ok.sl _ _ _ (by first | decide | simp) | exact Ok.pt _ _ (by first | decide | simp)) rfl (sr_same 3 (.i (10 * (1 + (len % 20)))) rfl NoI.out (sr_map 2 (.pt 3 0) (by first | exact Ok.sl _ _ _ (by first | decide | simp) | exact Ok.pt _ _ (by first | decide | simp)) rfl (sr_map 1 (.pt 2 0) (by first | exact Ok.sl _ _ _ (by first | decide | simp) | exact Ok.pt _ _ (by first | decide | simp)) rfl sr_none)))))) (keep_of rfl)
    ·skip
     have hf10 := (beq_eq_false_iff_ne).1 hc4
     have h42 : ¬ form % 4 = 2 := by simpa using hc4
     have hE := (ends3 h40 h41 h42).1
     have hP := (ends3 h40 h41 h42).2
     refine seqR ?_
     refine mG (.v (.complex .f64 (((fuI (10 * (1 + (len % 20))), 0) : Nat × Nat)).1 (((fuI (10 * (1 + (len % 20))), 0) : Nat × Nat)).2)) ?_
     refine mG (.v (.complex .f64 (((fuI (10 * (1 + (len % 20))), 0) : Nat × Nat)).1 (((fuI (10 * (1 + (len % 20))), 0) : Nat × Nat)).2)) ?_
     refine opG rfl (aop_cx ((4611686018427387904, 0) : Nat × Nat) ((fuI (10 * (1 + (len % 20))), 0) : Nat × Nat) rfl rfl rfl rfl rfl (by simp) (cxf0 _ hunit) ?_)
     refine mG (.v (.complex .f64 (((fuI (10 * (1 + (len % 20))), 0) : Nat × Nat)).1 (((fuI (10 * (1 + (len % 20))), 0) : Nat × Nat)).2)) ?_
     refine opG rfl (aop_cx ((4613937818241073152, 0) : Nat × Nat) ((fuI (10 * (1 + (len % 20))), 0) : Nat × Nat) rfl rfl rfl rfl rfl (by simp) (cxf3 _ hunit) ?_)
     refine mG (.v (.complex .f64 (((0, fuI (10 * (1 + (len % 20)))) : Nat × Nat)).1 (((0, fuI (10 * (1 + (len % 20)))) : Nat × Nat)).2)) ?_
     refine opG rfl (aop_cx (cx .mul ((4613937818241073152, 0) : Nat × Nat) ((fuI (10 * (1 + (len % 20))), 0) : Nat × Nat)) ((0, fuI (10 * (1 + (len % 20)))) : Nat × Nat) rfl rfl rfl rfl rfl (by simp) (cxf10 _ hunit) ?_)
     refine mG (.v (.complex .f64 (((fuI (10 * (1 + (len % 20))), 0) : Nat × Nat)).1 (((fuI (10 * (1 + (len % 20))), 0) : Nat × Nat)).2)) ?_
     refine opG rfl (aop_cx ((4613937818241073152, 0) : Nat × Nat) ((fuI (10 * (1 + (len % 20))), 0) : Nat × Nat) rfl rfl rfl rfl rfl (by simp) (cxf3 _ hunit) ?_)
     refine mG (.v (.complex .f64 (((0, fuI (10 * (1 + (len % 20)))) : Nat × Nat)).1 (((0, fuI (10 * (1 + (len % 20)))) : Nat × Nat)).2)) ?_
     refine opG rfl (aop_cx (cx .mul ((4613937818241073152, 0) : Nat × Nat) ((fuI (10 * (1 + (len % 20))), 0) : Nat × Nat)) ((0, fuI (10 * (1 + (len % 20)))) : Nat × Nat) rfl rfl rfl rfl rfl (by simp) (cxf11 _ hunit) ?_)
     refine mG (.v (.complex .f64 (((fuI (10 * (1 + (len % 20))), 0) : Nat × Nat)).1 (((fuI (10 * (1 + (len % 20))), 0) : Nat × Nat)).2)) ?_
     refine opG rfl (aop_cx ((4616189618054758400, 0) : Nat × Nat) ((fuI (10 * (1 + (len % 20))), 0) : Nat × Nat) rfl rfl rfl rfl rfl (by simp) (cxf7 _ hunit) ?_)
     refine mG (.v (.complex .f64 (((0, fuI (10 * (1 + (len % 20)))) : Nat × Nat)).1 (((0, fuI (10 * (1 + (len % 20)))) : Nat × Nat)).2)) ?_
     refine opG rfl (aop_cx (cx .mul ((4616189618054758400, 0) : Nat × Nat) ((fuI (10 * (1 + (len % 20))), 0) : Nat × Nat)) ((0, fuI (10 * (1 + (len % 20)))) : Nat × Nat) rfl rfl rfl rfl rfl (by simp) (cxf12 _ hunit) ?_)
     refine mG (.v (.complex .f64 (((fuI (10 * (1 + (len % 20))), 0) : Nat × Nat)).1 (((fuI (10 * (1 + (len % 20))), 0) : Nat × Nat)).2)) ?_
     refine opG rfl (aop_cx ((4616189618054758400, 0) : Nat × Nat) ((fuI (10 * (1 + (len % 20))), 0) : Nat × Nat) rfl rfl rfl rfl rfl (by simp) (cxf7 _ hunit) ?_)
     refine mG (.v (.complex .f64 (((0, fuI (10 * (1 + (len % 20)))) : Nat × Nat)).1 (((0, fuI (10 * (1 + (len % 20)))) : Nat × Nat)).2)) ?_
     refine opG rfl (aop_cx (cx .mul ((4616189618054758400, 0) : Nat × Nat) ((fuI (10 * (1 + (len % 20))), 0) : Nat × Nat)) ((0, fuI (10 * (1 + (len % 20)))) : Nat × Nat) rfl rfl rfl rfl rfl (by simp) (cxf13 _ hunit) ?_)
     refine opG rfl (aop_lit rfl rfl rfl ut34 iz95 (by decide) (by decide) rfl rfl ?_)
     refine fG (.pt 53 0) ft39_0 sz34 ?_
     refine opG rfl (aop_store rfl rfl rfl sz34 rfl rfl rfl rfl rfl (Nat.le_of_ble_eq_true rfl) rfl rfl ?_)
     refine op0 ?_
     refine rs_ (upd (upd (upd (upd (upd none_ 1 (.pt 51 0)) 2 (.pt 52 0)) 3 (.i (10 * (1 + (len % 20))))) 6 (.pt 53 0)) 7 (.v (.slice none 0 0))) (updO (updO (updO (updO noOb 51 (.live ⟨[.v (.int .u8 form), .v (.int .u8 len), .v (.int .u8 speed), .v (.int .u16 mute), .v (.int .u16 wait), .v (.int .u8 cancel), .v (.int .u8 stay), .v (.int .u8 jn), .one], 25, 1⟩)) 52 (.live ⟨[.v (.slice none 0 0), .v (.slice none 0 0), .v (.slice none 0 0), .v (.slice none 0 0), .v (.slice none 0 0), .i 0, .i 0, .i 0, .i 0, .i 0], 39, 1⟩)) 53 (.live ⟨[.v (.slice none 0 0), .v (.slice none 0 0), .v (.slice none 0 0), .v (.slice none 0 0), .v (.slice none 0 0), .i 0, .i 0, .i 0, .i 0, .i 0], 39, 1⟩)) 53 (.live ⟨[.ro 7 [.v (.complex .f64 (((0, 0) : Nat × Nat)).1 (((0, 0) : Nat × Nat)).2), .v (.complex .f64 (((fuI (10 * (1 + (len % 20))), 0) : Nat × Nat)).1 (((fuI (10 * (1 + (len % 20))), 0) : Nat × Nat)).2), .v (.complex .f64 (cx .mul ((4611686018427387904, 0) : Nat × Nat) ((fuI (10 * (1 + (len % 20))), 0) : Nat × Nat)).1 (cx .mul ((4611686018427387904, 0) : Nat × Nat) ((fuI (10 * (1 + (len % 20))), 0) : Nat × Nat)).2), .v (.complex .f64 (cx .add (cx .mul ((4613937818241073152, 0) : Nat × Nat) ((fuI (10 * (1 + (len % 20))), 0) : Nat × Nat)) ((0, fuI (10 * (1 + (len % 20)))) : Nat × Nat)).1 (cx .add (cx .mul ((4613937818241073152, 0) : Nat × Nat) ((fuI (10 * (1 + (len % 20))), 0) : Nat × Nat)) ((0, fuI (10 * (1 + (len % 20)))) : Nat × Nat)).2), .v (.complex .f64 (cx .sub (cx .mul ((4613937818241073152, 0) : Nat × Nat) ((fuI (10 * (1 + (len % 20))), 0) : Nat × Nat)) ((0, fuI (10 * (1 + (len % 20)))) : Nat × Nat)).1 (cx .sub (cx .mul ((4613937818241073152, 0) : Nat × Nat) ((fuI (10 * (1 + (len % 20))), 0) : Nat × Nat)) ((0, fuI (10 * (1 + (len % 20)))) : Nat × Nat)).2), .v (.complex .f64 (cx .add (cx .mul ((4616189618054758400, 0) : Nat × Nat) ((fuI (10 * (1 + (len % 20))), 0) : Nat × Nat)) ((0, fuI (10 * (1 + (len % 20)))) : Nat × Nat)).1 (cx .add (cx .mul ((4616189618054758400, 0) : Nat × Nat) ((fuI (10 * (1 + (len % 20))), 0) : Nat × Nat)) ((0, fuI (10 * (1 + (len % 20)))) : Nat × Nat)).2), .v (.complex .f64 (cx .sub (cx .mul ((4616189618054758400, 0) : Nat × Nat) ((fuI (10 * (1 + (len % 20))), 0) : Nat × Nat)) ((0, fuI (10 * (1 + (len % 20)))) : Nat × Nat)).1 (cx .sub (cx .mul ((4616189618054758400, 0) : Nat × Nat) ((fuI (10 * (1 + (len % 20))), 0) : Nat × Nat)) ((0, fuI (10 * (1 + (len % 20)))) : Nat × Nat)).2)], .v (.slice none 0 0), .v (.slice none 0 0), .v (.slice none 0 0), .v (.slice none 0 0), .i 0, .i 0, .i 0, .i 0, .i 0], 39, 1⟩)) (lu rfl (lu rfl (lu rfl (lu rfl (lu rfl ln))))) rfl ?_
     refine seqR ?_
     refine opG rfl (aop_build rfl rfl rfl pl98 rfl ?_)
     refine opG rfl (aop_build rfl rfl rfl pl98 rfl ?_)
     refine opG rfl (aop_build rfl rfl rfl pl98 rfl ?_)
     refine opG rfl (aop_build rfl rfl rfl pl98 rfl ?_)
     refine opG rfl (aop_build rfl rfl rfl pl98 rfl ?_)
     refine opG rfl (aop_build rfl rfl rfl pl98 rfl ?_)
     refine opG rfl (aop_lit rfl rfl rfl ut97 iz98 (by decide) (by decide) rfl rfl ?_)
     refine mG (.ro 6 [.i 0, .i 1, .i 2, .i 1, .i 2, .i 3, .i 2, .i 4, .i 3, .i 5, .i 4, .i 6]) ?_
     refine op0 ?_
     refine rs_ (upd (upd (upd (upd (upd none_ 1 (.pt 51 0)) 2 (.pt 52 0)) 3 (.i (10 * (1 + (len % 20))))) 6 (.pt 53 0)) 7 (.ro 6 [.i 0, .i 1, .i 2, .i 1, .i 2, .i 3, .i 2, .i 4, .i 3, .i 5, .i 4, .i 6])) (updO (updO (updO (updO noOb 51 (.live ⟨[.v (.int .u8 form), .v (.int .u8 len), .v (.int .u8 speed), .v (.int .u16 mute), .v (.int .u16 wait), .v (.int .u8 cancel), .v (.int .u8 stay), .v (.int .u8 jn), .one], 25, 1⟩)) 52 (.live ⟨[.v (.slice none 0 0), .v (.slice none 0 0), .v (.slice none 0 0), .v (.slice none 0 0), .v (.slice none 0 0), .i 0, .i 0, .i 0, .i 0, .i 0], 39, 1⟩)) 53 (.live ⟨[.v (.slice none 0 0), .v (.slice none 0 0), .v (.slice none 0 0), .v (.slice none 0 0), .v (.slice none 0 0), .i 0, .i 0, .i 0, .i 0, .i 0], 39, 1⟩)) 53 (.live ⟨[.ro 7 [.v (.complex .f64 (((0, 0) : Nat × Nat)).1 (((0, 0) : Nat × Nat)).2), .v (.complex .f64 (((fuI (10 * (1 + (len % 20))), 0) : Nat × Nat)).1 (((fuI (10 * (1 + (len % 20))), 0) : Nat × Nat)).2), .v (.complex .f64 (cx .mul ((4611686018427387904, 0) : Nat × Nat) ((fuI (10 * (1 + (len % 20))), 0) : Nat × Nat)).1 (cx .mul ((4611686018427387904, 0) : Nat × Nat) ((fuI (10 * (1 + (len % 20))), 0) : Nat × Nat)).2), .v (.complex .f64 (cx .add (cx .mul ((4613937818241073152, 0) : Nat × Nat) ((fuI (10 * (1 + (len % 20))), 0) : Nat × Nat)) ((0, fuI (10 * (1 + (len % 20)))) : Nat × Nat)).1 (cx .add (cx .mul ((4613937818241073152, 0) : Nat × Nat) ((fuI (10 * (1 + (len % 20))), 0) : Nat × Nat)) ((0, fuI (10 * (1 + (len % 20)))) : Nat × Nat)).2), .v (.complex .f64 (cx .sub (cx .mul ((4613937818241073152, 0) : Nat × Nat) ((fuI (10 * (1 + (len % 20))), 0) : Nat × Nat)) ((0, fuI (10 * (1 + (len % 20)))) : Nat × Nat)).1 (cx .sub (cx .mul ((4613937818241073152, 0) : Nat × Nat) ((fuI (10 * (1 + (len % 20))), 0) : Nat × Nat)) ((0, fuI (10 * (1 + (len % 20)))) : Nat × Nat)).2), .v (.complex .f64 (cx .add (cx .mul ((4616189618054758400, 0) : Nat × Nat) ((fuI (10 * (1 + (len % 20))), 0) : Nat × Nat)) ((0, fuI (10 * (1 + (len % 20)))) : Nat × Nat)).1 (cx .add (cx .mul ((4616189618054758400, 0) : Nat × Nat) ((fuI (10 * (1 + (len % 20))), 0) : Nat × Nat)) ((0, fuI (10 * (1 + (len % 20)))) : Nat × Nat)).2), .v (.complex .f64 (cx .sub (cx .mul ((4616189618054758400, 0) : Nat × Nat) ((fuI (10 * (1 + (len % 20))), 0) : Nat × Nat)) ((0, fuI (10 * (1 + (len % 20)))) : Nat × Nat)).1 (cx .sub (cx .mul ((4616189618054758400, 0) : Nat × Nat) ((fuI (10 * (1 + (len % 20))), 0) : Nat × Nat)) ((0, fuI (10 * (1 + (len % 20)))) : Nat × Nat)).2)], .v (.slice none 0 0), .v (.slice none 0 0), .v (.slice none 0 0), .v (.slice none 0 0), .i 0, .i 0, .i 0, .i 0, .i 0], 39, 1⟩)) (lu rfl (lu rfl (lu rfl (lu rfl (lu rfl ln))))) rfl ?_
     refine regR ?_
     refine opG rfl (aop_build rfl rfl rfl pl100 rfl ?_)
     refine opG rfl (aop_lit rfl rfl rfl ut37 iz100 (by decide) (by decide) rfl rfl ?_)
     refine fG (.pt 53 3) ft39_3 sz37 ?_
     refine opG rfl (aop_store rfl rfl rfl sz37 rfl rfl rfl rfl rfl (Nat.le_of_ble_eq_true rfl) rfl rfl ?_)
     refine op0 ?_
     show Imp _ _ _
     refine (frz_ [51, 52, 53] [(51, ⟨[.v (.int .u8 form), .v (.int .u8 len), .v (.int .u8 speed), .v (.int .u16 mute), .v (.int .u16 wait), .v (.int .u8 cancel), .v (.int .u8 stay), .v (.int .u8 jn), .one], 25, 1⟩), (52, ⟨[.v (.slice none 0 0), .v (.slice none 0 0), .v (.slice none 0 0), .v (.slice none 0 0), .v (.slice none 0 0), .i 0, .i 0, .i 0, .i 0, .i 0], 39, 1⟩), (53, ⟨[.one, .v (.slice none 0 0), .v (.slice none 0 0), .ro 1 [.i 2, .i 1, .i 3, .i 2], .v (.slice none 0 0), .i 0, .i 0, .i 0, .i 0, .i 0], 39, 1⟩)] rfl (fun _ h => h) ⟨keep_cells (cs := [.v (.int .u8 form), .v (.int .u8 len), .v (.int .u8 speed), .v (.int .u16 mute), .v (.int .u16 wait), .v (.int .u8 cancel), .v (.int .u8 stay), .v (.int .u8 jn), .one]) (by simp) rfl rfl (frzs_cons (.inl rfl) (frzs_cons (.inl rfl) (frzs_cons (.inl rfl) (frzs_cons (.inl rfl) (frzs_cons (.inl rfl) (frzs_cons (.inl rfl) (frzs_cons (.inl rfl) (frzs_cons (.inl rfl) (frzs_cons (.inl rfl) frzs_nil))))))))), keep_cells (cs := [.v (.slice none 0 0), .v (.slice none 0 0), .v (.slice none 0 0), .v (.slice none 0 0), .v (.slice none 0 0), .i 0, .i 0, .i 0, .i 0, .i 0]) (by simp) rfl rfl (frzs_cons (.inl rfl) (frzs_cons (.inl rfl) (frzs_cons (.inl rfl) (frzs_cons (.inl rfl) (frzs_cons (.inl rfl) (frzs_cons (.inl rfl) (frzs_cons (.inl rfl) (frzs_cons (.inl rfl) (frzs_cons (.inl rfl) (frzs_cons (.inl rfl) frzs_nil)))))))))), keep_cells (cs := [.ro 7 [.v (.complex .f64 (((0, 0) : Nat × Nat)).1 (((0, 0) : Nat × Nat)).2), .v (.complex .f64 (((fuI (10 * (1 + (len % 20))), 0) : Nat × Nat)).1 (((fuI (10 * (1 + (len % 20))), 0) : Nat × Nat)).2), .v (.complex .f64 (cx .mul ((4611686018427387904, 0) : Nat × Nat) ((fuI (10 * (1 + (len % 20))), 0) : Nat × Nat)).1 (cx .mul ((4611686018427387904, 0) : Nat × Nat) ((fuI (10 * (1 + (len % 20))), 0) : Nat × Nat)).2), .v (.complex .f64 (cx .add (cx .mul ((4613937818241073152, 0) : Nat × Nat) ((fuI (10 * (1 + (len % 20))), 0) : Nat × Nat)) ((0, fuI (10 * (1 + (len % 20)))) : Nat × Nat)).1 (cx .add (cx .mul ((4613937818241073152, 0) : Nat × Nat) ((fuI (10 * (1 + (len % 20))), 0) : Nat × Nat)) ((0, fuI (10 * (1 + (len % 20)))) : Nat × Nat)).2), .v (.complex .f64 (cx .sub (cx .mul ((4613937818241073152, 0) : Nat × Nat) ((fuI (10 * (1 + (len % 20))), 0) : Nat × Nat)) ((0, fuI (10 * (1 + (len % 20)))) : Nat × Nat)).1 (cx .sub (cx .mul ((4613937818241073152, 0) : Nat × Nat) ((fuI (10 * (1 + (len % 20))), 0) : Nat × Nat)) ((0, fuI (10 * (1 + (len % 20)))) : Nat × Nat)).2), .v (.complex .f64 (cx .add (cx .mul ((4616189618054758400, 0) : Nat × Nat) ((fuI (10 * (1 + (len % 20))), 0) : Nat × Nat)) ((0, fuI (10 * (1 + (len % 20)))) : Nat × Nat)).1 (cx .add (cx .mul ((4616189618054758400, 0) : Nat × Nat) ((fuI (10 * (1 + (len % 20))), 0) : Nat × Nat)) ((0, fuI (10 * (1 + (len % 20)))) : Nat × Nat)).2), .v (.complex .f64 (cx .sub (cx .mul ((4616189618054758400, 0) : Nat × Nat) ((fuI (10 * (1 + (len % 20))), 0) : Nat × Nat)) ((0, fuI (10 * (1 + (len % 20)))) : Nat × Nat)).1 (cx .sub (cx .mul ((4616189618054758400, 0) : Nat × Nat) ((fuI (10 * (1 + (len % 20))), 0) : Nat × Nat)) ((0, fuI (10 * (1 + (len % 20)))) : Nat × Nat)).2)], .v (.slice none 0 0), .v (.slice none 0 0), .ro 1 [.i 2, .i 1, .i 3, .i 2], .v (.slice none 0 0), .i 0, .i 0, .i 0, .i 0, .i 0]) (by simp) rfl rfl (frzs_cons (.inr (.one _ rfl)) (frzs_cons (.inl rfl) (frzs_cons (.inl rfl) (frzs_cons (.inl rfl) (frzs_cons (.inl rfl) (frzs_cons (.inl rfl) (frzs_cons (.inl rfl) (frzs_cons (.inl rfl) (frzs_cons (.inl rfl) (frzs_cons (.inl rfl) frzs_nil)))))))))), trivial⟩ (fz_same 7 (.ro 6 [.i 0, .i 1, .i 2, .i 1, .i 2, .i 3, .i 2, .i 4, .i 3, .i 5, .i 4, .i 6]) rfl (fz_same 6 (.pt 53 0) rfl (fz_same 3 (.i (10 * (1 + (len % 20)))) rfl (fz_same 2 (.pt 52 0) rfl (fz_same 1 (.pt 51 0) rfl fz_none)))))).trans ?_
     exact imp_ler [(53, 1), (51, 2), (52, 3)] (lerL [(53, 1), (51, 2), (52, 3)] [((53, 1), .live ⟨[.one, .v (.slice none 0 0), .v (.slice none 0 0), .q ePnt (mkPts form), .v (.slice none 0 0), .i 0, .i 0, .i 0, .i 0, .i 0], 39, 1⟩), ((51, 2), .live ⟨[.v (.int .u8 form), .v (.int .u8 len), .v (.int .u8 speed), .v (.int .u16 mute), .v (.int .u16 wait), .v (.int .u8 cancel), .v (.int .u8 stay), .v (.int .u8 jn), .one], 25, 1⟩), ((52, 3), .live ⟨[.v (.slice none 0 0), .v (.slice none 0 0), .v (.slice none 0 0), .v (.slice none 0 0), .v (.slice none 0 0), .i 0, .i 0, .i 0, .i 0, .i 0], 39, 1⟩)] rfl (by decide) (by decide) ⟨row_no (o := ⟨[.one, .v (.slice none 0 0), .v (.slice none 0 0), .ro 1 [.i 2, .i 1, .i 3, .i 2], .v (.slice none 0 0), .i 0, .i 0, .i 0, .i 0, .i 0], 39, 1⟩) rfl (by rw [hP]; rfl), row_no (o := ⟨[.v (.int .u8 form), .v (.int .u8 len), .v (.int .u8 speed), .v (.int .u16 mute), .v (.int .u16 wait), .v (.int .u8 cancel), .v (.int .u8 stay), .v (.int .u8 jn), .one], 25, 1⟩) rfl rfl, row_no (o := ⟨[.v (.slice none 0 0), .v (.slice none 0 0), .v (.slice none 0 0), .v (.slice none 0 0), .v (.slice none 0 0), .i 0, .i 0, .i 0, .i 0, .i 0], 39, 1⟩) rfl rfl, trivial⟩ (sr_same 7 (.q ePr (mkEnds form)) (by first | (rw [hE]; rfl) | (rw [hE, ← hkk]; rfl)) NoI.out (sr_map 6 (.pt 1 0) (by first | exact Ok.sl _ _ _ (by first | decide | simp) | exact Ok.pt _ _ (by first | decide | simp)) rfl (sr_same 3 (.i (10 * (1 + (len % 20)))) rfl NoI.out (sr_map 2 (.pt 3 0) (by first | exact Ok.sl _ _ _ (by first | decide | simp) | exact Ok.pt _ _ (by first | decide | simp)) rfl (sr_map 1 (.pt 2 0) (by first | exact Ok.sl _ _ _ (by first | decide | simp) | exact Ok.pt _ _ (by first | decide | simp)) rfl sr_none)))))) (keep_of rfl)
 refine awp_seq ?_
 refine seqR ?_
 refine mG (.i 0) ?_
 refine op0 ?_
 refine awp_block ?_
 refine awp_countI (fun k2 => ⟨(upd (upd (upd (upd (upd (upd none_ 1 (.pt 2 0)) 2 (.pt 3 0)) 3 (.i (10 * (1 + (len % 20))))) 6 (.pt 1 0)) 7 (.q ePr (mkEnds form))) 11 (.i (k2 : Int))), (updO (updO (updO (updO noOb 1 (.live ⟨[.one, .sl 4 0 ((mkSecsK form len k2).length), .v (.slice none 0 0), .q ePnt (mkPts form), .v (.slice none 0 0), .i 0, .i 0, .i 0, .i 0, .i 0], 39, 1⟩)) 2 (.live ⟨[.v (.int .u8 form), .v (.int .u8 len), .v (.int .u8 speed), .v (.int .u16 mute), .v (.int .u16 wait), .v (.int .u8 cancel), .v (.int .u8 stay), .v (.int .u8 jn), .one], 25, 1⟩)) 3 (.live ⟨[.v (.slice none 0 0), .v (.slice none 0 0), .v (.slice none 0 0), .v (.slice none 0 0), .v (.slice none 0 0), .i 0, .i 0, .i 0, .i 0, .i 0], 39, 1⟩)) 4 (.live ⟨(enc eSec (mkSecsK form len k2)), 102, 3⟩))⟩) (fun k2 => True) ((mkEnds form).length) ?_ trivial (fun k2 hk_k2 hinv => ?_)
 ·skip
  refine (imp_adoptC 1 1 58 102 3 rfl rfl rfl rfl).trans ?_
  exact imp_ler [(1, 1), (2, 2), (3, 3), (58, 4)] (lerL [(1, 1), (2, 2), (3, 3), (58, 4)] [((1, 1), .live ⟨[.one, .sl 4 0 ((mkSecsK form len 0).length), .v (.slice none 0 0), .q ePnt (mkPts form), .v (.slice none 0 0), .i 0, .i 0, .i 0, .i 0, .i 0], 39, 1⟩), ((2, 2), .live ⟨[.v (.int .u8 form), .v (.int .u8 len), .v (.int .u8 speed), .v (.int .u16 mute), .v (.int .u16 wait), .v (.int .u8 cancel), .v (.int .u8 stay), .v (.int .u8 jn), .one], 25, 1⟩), ((3, 3), .live ⟨[.v (.slice none 0 0), .v (.slice none 0 0), .v (.slice none 0 0), .v (.slice none 0 0), .v (.slice none 0 0), .i 0, .i 0, .i 0, .i 0, .i 0], 39, 1⟩), ((58, 4), .live ⟨(enc eSec (mkSecsK form len 0)), 102, 3⟩)] rfl (by decide) (by decide) ⟨row_map (o := ⟨[.one, .sl 58 0 0, .v (.slice none 0 0), .q ePnt (mkPts form), .v (.slice none 0 0), .i 0, .i 0, .i 0, .i 0, .i 0], 39, 1⟩) rfl (om_ (lm_cons (am_no (a := .one)) (lm_cons rfl (lm_cons (am_no (a := .v (.slice none 0 0))) (lm_cons (am_no (a := .q ePnt (mkPts form))) (lm_cons (am_no (a := .v (.slice none 0 0))) (lm_cons (am_no (a := .i 0)) (lm_cons (am_no (a := .i 0)) (lm_cons (am_no (a := .i 0)) (lm_cons (am_no (a := .i 0)) (lm_cons (am_no (a := .i 0)) lm_nil))))))))))) (oks_cons (ok_no (a := .one)) (oks_cons (.sl _ _ _ (by simp)) (oks_cons (ok_no (a := .v (.slice none 0 0))) (oks_cons (ok_no (a := .q ePnt (mkPts form))) (oks_cons (ok_no (a := .v (.slice none 0 0))) (oks_cons (ok_no (a := .i 0)) (oks_cons (ok_no (a := .i 0)) (oks_cons (ok_no (a := .i 0)) (oks_cons (ok_no (a := .i 0)) (oks_cons (ok_no (a := .i 0)) oks_nil)))))))))), row_no (o := ⟨[.v (.int .u8 form), .v (.int .u8 len), .v (.int .u8 speed), .v (.int .u16 mute), .v (.int .u16 wait), .v (.int .u8 cancel), .v (.int .u8 stay), .v (.int .u8 jn), .one], 25, 1⟩) rfl rfl, row_no (o := ⟨[.v (.slice none 0 0), .v (.slice none 0 0), .v (.slice none 0 0), .v (.slice none 0 0), .v (.slice none 0 0), .i 0, .i 0, .i 0, .i 0, .i 0], 39, 1⟩) rfl rfl, row_no (o := ⟨[], 102, 3⟩) rfl rfl, trivial⟩ (sr_same 11 (.i (0 : Int)) rfl NoI.out (sr_same 7 (.q ePr (mkEnds form)) rfl NoI.out (sr_map 6 (.pt 1 0) (by first | exact Ok.sl _ _ _ (by first | decide | simp) | exact Ok.pt _ _ (by first | decide | simp)) rfl (sr_same 3 (.i (10 * (1 + (len % 20)))) rfl NoI.out (sr_map 2 (.pt 3 0) (by first | exact Ok.sl _ _ _ (by first | decide | simp) | exact Ok.pt _ _ (by first | decide | simp)) rfl (sr_map 1 (.pt 2 0) (by first | exact Ok.sl _ _ _ (by first | decide | simp) | exact Ok.pt _ _ (by first | decide | simp)) rfl sr_none))))))) (keep_of rfl)
 have hml := mkSecsK_len form len k2
 refine awp_seq ?_
 refine seqR ?_
 refine mG (.i (k2 : Int)) ?_
 refine mG (.q ePr (mkEnds form)) ?_
 refine opG rfl (aop_len rfl rfl rfl rfl ut97 (len_ro rfl) ?_)
 refine bG ((.bool (decide ((k2 : Int) < ((mkEnds form).length : Int))))) ?_
 refine op0 ?_
 refine rs_ (upd (upd (upd (upd (upd (upd (upd none_ 1 (.pt 2 0)) 2 (.pt 3 0)) 3 (.i (10 * (1 + (len % 20))))) 6 (.pt 1 0)) 7 (.q ePr (mkEnds form))) 11 (.i (k2 : Int))) 153 (.b (decide ((k2 : Int) < ((mkEnds form).length : Int))))) (updO (updO (updO (updO noOb 1 (.live ⟨[.one, .sl 4 0 ((mkSecsK form len k2).length), .v (.slice none 0 0), .q ePnt (mkPts form), .v (.slice none 0 0), .i 0, .i 0, .i 0, .i 0, .i 0], 39, 1⟩)) 2 (.live ⟨[.v (.int .u8 form), .v (.int .u8 len), .v (.int .u8 speed), .v (.int .u16 mute), .v (.int .u16 wait), .v (.int .u8 cancel), .v (.int .u8 stay), .v (.int .u8 jn), .one], 25, 1⟩)) 3 (.live ⟨[.v (.slice none 0 0), .v (.slice none 0 0), .v (.slice none 0 0), .v (.slice none 0 0), .v (.slice none 0 0), .i 0, .i 0, .i 0, .i 0, .i 0], 39, 1⟩)) 4 (.live ⟨(enc eSec (mkSecsK form len k2)), 102, 3⟩)) (lu rfl (lu rfl (lu rfl (lu rfl (lu rfl (lu rfl (lu rfl ln))))))) rfl ?_
 refine awp_cond (decide ((k2 : Int) < ((mkEnds form).length : Int))) rfl rfl (fun hc5 => ?_) (fun hc5 => ?_)
 ·skip
  have hf11 := of_decide_eq_true hc5
  refine awp_skip ?_
  refine awp_seq ?_
  refine awp_block ?_
  refine awp_draw (m := 19) [(174, .ro 1 [.i ((2 * (10 * (1 + (len % 20)))) + ((k2 : Int) % 3)), .i (((mkEnds form).getD k2 dR).a), .i (((mkEnds form).getD k2 dR).b)]), (173, .agg [.i ((2 * (10 * (1 + (len % 20)))) + ((k2 : Int) % 3)), .i (((mkEnds form).getD k2 dR).a), .i (((mkEnds form).getD k2 dR).b)]), (172, .i (((mkEnds form).getD k2 dR).b)), (171, .rp (([.i (((mkEnds form).getD k2 dR).b)] : List AV) ++ ((enc ePr (mkEnds form)).drop ((k2 + 1) * 2)))), (170, .rp (([.i (((mkEnds form).getD k2 dR).a), .i (((mkEnds form).getD k2 dR).b)] : List AV) ++ ((enc ePr (mkEnds form)).drop ((k2 + 1) * 2)))), (169, .i (k2 : Int)), (168, .q ePr (mkEnds form)), (167, .i (((mkEnds form).getD k2 dR).a)), (166, .rp (([.i (((mkEnds form).getD k2 dR).a), .i (((mkEnds form).getD k2 dR).b)] : List AV) ++ ((enc ePr (mkEnds form)).drop ((k2 + 1) * 2)))), (165, .rp (([.i (((mkEnds form).getD k2 dR).a), .i (((mkEnds form).getD k2 dR).b)] : List AV) ++ ((enc ePr (mkEnds form)).drop ((k2 + 1) * 2)))), (164, .i (k2 : Int)), (163, .q ePr (mkEnds form)), (162, .i ((2 * (10 * (1 + (len % 20)))) + ((k2 : Int) % 3))), (161, .i ((k2 : Int) % 3)), (160, .i (k2 : Int)), (159, .i (2 * (10 * (1 + (len % 20))))), (158, .i (10 * (1 + (len % 20)))), (157, .sl 4 0 ((mkSecsK form len k2).length)), (156, .pt 1 1)] mixed (by kernel_rfl) ?_ ?_
  ·refine ⟨?_, ?_, ?_, ?_, ?_, ?_, ?_, ?_, ?_, ?_, ?_, ?_, ?_, ?_, ?_, ?_, ?_, ?_, ?_, trivial⟩
   ·exact ⟨156, rfl, blt_lt rfl, fun st hob hE => aop_fieldAddr (av := .pt 1 0) (av' := .pt 1 1) rfl rfl rfl ft39_1 sz35 (hE 6 rfl) rfl rfl (by rw [hob]; rfl)⟩
   ·exact ⟨157, rfl, blt_lt rfl, fun st hob hE => aop_ld (av := .sl 4 0 ((mkSecsK form len k2).length)) rfl rfl rfl ag35 (hE 156 rfl) (by rw [hob]; rfl) (by rw [hob]; rfl)⟩
   ·exact ⟨158, rfl, blt_lt rfl, fun st hob hE => aop_move (av := .i (10 * (1 + (len % 20)))) (.inl rfl) rfl rfl (hE 3 rfl) (by rw [hob]; rfl)⟩
   ·exact ⟨159, rfl, blt_lt rfl, fun st hob hE => aop_binI (u := (.int .i64 (2 * (10 * (1 + (len % 20)))))) rfl rfl rfl rfl (hE 158 rfl) trivial (mulI (by omega)) (by rw [hob]; rfl)⟩
   ·exact ⟨160, rfl, blt_lt rfl, fun st hob hE => aop_move (av := .i (k2 : Int)) (.inl rfl) rfl rfl (hE 11 rfl) (by rw [hob]; rfl)⟩
   ·exact ⟨161, rfl, blt_lt rfl, fun st hob hE => aop_binI (u := (.int .i64 ((k2 : Int) % 3))) rfl rfl rfl (hE 160 rfl) rfl (by show _ ≠ _; decide) (remI (by omega)) (by rw [hob]; rfl)⟩
   ·exact ⟨162, rfl, blt_lt rfl, fun st hob hE => aop_binI (u := (.int .i64 ((2 * (10 * (1 + (len % 20)))) + ((k2 : Int) % 3)))) rfl rfl rfl (hE 159 rfl) (hE 161 rfl) trivial (addI (by omega)) (by rw [hob]; rfl)⟩
   ·exact ⟨163, rfl, blt_lt rfl, fun st hob hE => aop_move (av := .q ePr (mkEnds form)) (.inl rfl) rfl rfl (hE 7 rfl) (by rw [hob]; rfl)⟩
   ·exact ⟨164, rfl, blt_lt rfl, fun st hob hE => aop_move (av := .i (k2 : Int)) (.inl rfl) rfl rfl (hE 11 rfl) (by rw [hob]; rfl)⟩
   ·exact ⟨165, rfl, blt_lt rfl, fun st hob hE => aop_ixE dR rfl rfl rfl ut97 sz98 (hE 163 rfl) (hE 164 rfl) (fun _ => rfl) rfl (by first | omega | (simp; done) | decide | (simp at *; omega)) (by rw [hob]; rfl)⟩
   ·exact ⟨166, rfl, blt_lt rfl, fun st hob hE => aop_ixArr (i := 0) rfl rfl rfl ut98 sz3 (hE 165 rfl) rfl (by decide) (by rw [hob]; rfl)⟩
   ·exact ⟨167, rfl, blt_lt rfl, fun st hob hE => aop_ld (av := .i (((mkEnds form).getD k2 dR).a)) rfl rfl rfl ag3 (hE 166 rfl) rfl (by rw [hob]; rfl)⟩
   ·exact ⟨168, rfl, blt_lt rfl, fun st hob hE => aop_move (av := .q ePr (mkEnds form)) (.inl rfl) rfl rfl (hE 7 rfl) (by rw [hob]; rfl)⟩
   ·exact ⟨169, rfl, blt_lt rfl, fun st hob hE => aop_move (av := .i (k2 : Int)) (.inl rfl) rfl rfl (hE 11 rfl) (by rw [hob]; rfl)⟩
   ·exact ⟨170, rfl, blt_lt rfl, fun st hob hE => aop_ixE dR rfl rfl rfl ut97 sz98 (hE 168 rfl) (hE 169 rfl) (fun _ => rfl) rfl (by first | omega | (simp; done) | decide | (simp at *; omega)) (by rw [hob]; rfl)⟩
   ·exact ⟨171, rfl, blt_lt rfl, fun st hob hE => aop_ixArr (i := 1) rfl rfl rfl ut98 sz3 (hE 170 rfl) rfl (by decide) (by rw [hob]; rfl)⟩
   ·exact ⟨172, rfl, blt_lt rfl, fun st hob hE => aop_ld (av := .i (((mkEnds form).getD k2 dR).b)) rfl rfl rfl ag3 (hE 171 rfl) rfl (by rw [hob]; rfl)⟩
   ·exact ⟨173, rfl, blt_lt rfl, fun st hob hE => aop_build rfl rfl rfl pl102 (by simp only [partsA, List.map, evA, hE 162 rfl, hE 167 rfl, hE 172 rfl]; rfl) (by rw [hob]; rfl)⟩
   ·exact ⟨174, rfl, blt_lt rfl, fun st hob hE => aop_lit rfl rfl rfl ut35 iz102 (by decide) (by decide) (by simp only [partsA, List.map, evA, hE 173 rfl]; rfl) rfl (by rw [hob]; rfl)⟩
  refine opG rfl (aop_app1 (f := eSec) (l := mkSecsK form len k2) 59 (⟨(2 * (10 * (1 + (len % 20)))) + ((k2 : Int) % 3), ((mkEnds form).getD k2 dR).a, ((mkEnds form).getD k2 dR).b⟩ : Sec) rfl rfl rfl rfl ut35 in102 rfl (by decide) rfl rfl rfl rfl rfl rfl (fun _ => rfl) rfl rfl (by first | omega | (simp; done) | decide | (simp at *; omega)) (by first | omega | (simp; done) | decide | (simp at *; omega)) rfl ?_)
  refine fG (.pt 1 1) ft39_1 sz35 ?_
  refine opG rfl (aop_store rfl rfl rfl sz35 rfl rfl rfl rfl rfl (Nat.le_of_ble_eq_true rfl) rfl rfl ?_)
  refine op0 ?_
  refine regR ?_
  refine mG (.i (k2 : Int)) ?_
  refine opG rfl (aop_binI (u := (.int .i64 ((k2 + 1 : Nat) : Int))) rfl rfl rfl rfl rfl trivial (addN (by omega)) ?_)
  refine mG (.i ((k2 + 1 : Nat) : Int)) ?_
  refine op0 ?_
  show _ ∧ _
  refine ⟨by omega, trivial, ?_⟩
  exact imp_ler [(1, 1), (2, 2), (3, 3), (59, 4)] (lerL [(1, 1), (2, 2), (3, 3), (59, 4)] [((1, 1), .live ⟨[.one, .sl 4 0 ((mkSecsK form len (k2 + 1)).length), .v (.slice none 0 0), .q ePnt (mkPts form), .v (.slice none 0 0), .i 0, .i 0, .i 0, .i 0, .i 0], 39, 1⟩), ((2, 2), .live ⟨[.v (.int .u8 form), .v (.int .u8 len), .v (.int .u8 speed), .v (.int .u16 mute), .v (.int .u16 wait), .v (.int .u8 cancel), .v (.int .u8 stay), .v (.int .u8 jn), .one], 25, 1⟩), ((3, 3), .live ⟨[.v (.slice none 0 0), .v (.slice none 0 0), .v (.slice none 0 0), .v (.slice none 0 0), .v (.slice none 0 0), .i 0, .i 0, .i 0, .i 0, .i 0], 39, 1⟩), ((59, 4), .live ⟨(enc eSec (mkSecsK form len (k2 + 1))), 102, 3⟩)] rfl (by decide) (by decide) ⟨row_map (o := ⟨[.one, .sl 59 0 (((mkSecsK form len k2) ++ [(⟨(2 * (10 * (1 + (len % 20)))) + ((k2 : Int) % 3), ((mkEnds form).getD k2 dR).a, ((mkEnds form).getD k2 dR).b⟩ : Sec)]).length), .v (.slice none 0 0), .q ePnt (mkPts form), .v (.slice none 0 0), .i 0, .i 0, .i 0, .i 0, .i 0], 39, 1⟩) rfl (om_ (lm_cons (am_no (a := .one)) (lm_cons rfl (lm_cons (am_no (a := .v (.slice none 0 0))) (lm_cons (am_no (a := .q ePnt (mkPts form))) (lm_cons (am_no (a := .v (.slice none 0 0))) (lm_cons (am_no (a := .i 0)) (lm_cons (am_no (a := .i 0)) (lm_cons (am_no (a := .i 0)) (lm_cons (am_no (a := .i 0)) (lm_cons (am_no (a := .i 0)) lm_nil))))))))))) (oks_cons (ok_no (a := .one)) (oks_cons (.sl _ _ _ (by simp)) (oks_cons (ok_no (a := .v (.slice none 0 0))) (oks_cons (ok_no (a := .q ePnt (mkPts form))) (oks_cons (ok_no (a := .v (.slice none 0 0))) (oks_cons (ok_no (a := .i 0)) (oks_cons (ok_no (a := .i 0)) (oks_cons (ok_no (a := .i 0)) (oks_cons (ok_no (a := .i 0)) (oks_cons (ok_no (a := .i 0)) oks_nil)))))))))), row_no (o := ⟨[.v (.int .u8 form), .v (.int .u8 len), .v (.int .u8 speed), .v (.int .u16 mute), .v (.int .u16 wait), .v (.int .u8 cancel), .v (.int .u8 stay), .v (.int .u8 jn), .one], 25, 1⟩) rfl rfl, row_no (o := ⟨[.v (.slice none 0 0), .v (.slice none 0 0), .v (.slice none 0 0), .v (.slice none 0 0), .v (.slice none 0 0), .i 0, .i 0, .i 0, .i 0, .i 0], 39, 1⟩) rfl rfl, row_no (o := ⟨(enc eSec ((mkSecsK form len k2) ++ [(⟨(2 * (10 * (1 + (len % 20)))) + ((k2 : Int) % 3), ((mkEnds form).getD k2 dR).a, ((mkEnds form).getD k2 dR).b⟩ : Sec)])), 102, 3⟩) rfl (by exact congrArg (fun l_ => LObj.mk (enc eSec l_) 102 3) rfl), trivial⟩ (sr_same 11 (.i ((k2 + 1) : Int)) rfl NoI.out (sr_same 7 (.q ePr (mkEnds form)) rfl NoI.out (sr_map 6 (.pt 1 0) (by first | exact Ok.sl _ _ _ (by first | decide | simp) | exact Ok.pt _ _ (by first | decide | simp)) rfl (sr_same 3 (.i (10 * (1 + (len % 20)))) rfl NoI.out (sr_map 2 (.pt 3 0) (by first | exact Ok.sl _ _ _ (by first | decide | simp) | exact Ok.pt _ _ (by first | decide | simp)) rfl (sr_map 1 (.pt 2 0) (by first | exact Ok.sl _ _ _ (by first | decide | simp) | exact Ok.pt _ _ (by first | decide | simp)) rfl sr_none))))))) (keep_of rfl)
 ·skip
  have hf12 := of_decide_eq_false hc5
  have hk2 : k2 = (mkEnds form).length := by omega
  have hml := mkSecsK_len form len k2
  refine awp_exit ?_
  refine awp_seq ?_
  refine seqR ?_
  refine mG (.i 0) ?_
  refine op0 ?_
  refine awp_block ?_
  refine awp_peelI (fun k3 => ⟨(upd (upd (upd (upd (upd (upd none_ 1 (.pt 2 0)) 2 (.pt 3 0)) 3 (.i (10 * (1 + (len % 20))))) 6 (.pt 1 0)) 7 (.q ePr (mkEnds form))) 12 (.i ((k3 + 1 : Nat) : Int))), (updO (updO (updO (updO (updO (updO noOb 1 (.live ⟨[.one, .sl 4 0 ((mkSecsK form len k2).length), .sl 5 0 (partN jn k3), .q ePnt (mkPts form), .v (.slice none 0 0), .i 0, .i 0, .i 0, .i 0, .i 0], 39, 1⟩)) 2 (.live ⟨[.v (.int .u8 form), .v (.int .u8 len), .v (.int .u8 speed), .v (.int .u16 mute), .v (.int .u16 wait), .v (.int .u8 cancel), .v (.int .u8 stay), .v (.int .u8 jn), .one], 25, 1⟩)) 3 (.live ⟨[.v (.slice none 0 0), .v (.slice none 0 0), .v (.slice none 0 0), .v (.slice none 0 0), .v (.slice none 0 0), .i 0, .i 0, .i 0, .i 0, .i 0], 39, 1⟩)) 4 (.live ⟨(enc eSec (mkSecsK form len k2)), 102, 3⟩)) 5 (.live ⟨(enc eIL (partD jn (k3 + 1)) ++ [.sl 6 0 ((partD.partT jn (k3 + 1)).length)]), 48, 1⟩)) 6 (.live ⟨(enc eI (partD.partT jn (k3 + 1))), 3, 1⟩))⟩) (fun k3 => True) ((mkEnds form).length - 1) ?_ (fun k3 hk_k3 hinv => ?_)
  ·skip
   refine awp_seq ?_
   refine seqR ?_
   refine mG (.i 0) ?_
   refine mG (.q ePr (mkEnds form)) ?_
   refine opG rfl (aop_len rfl rfl rfl rfl ut97 (len_ro rfl) ?_)
   refine bG ((.bool (decide (0 < ((mkEnds form).length : Int))))) ?_
   refine op0 ?_
   refine rs_ (upd (upd (upd (upd (upd (upd (upd none_ 1 (.pt 2 0)) 2 (.pt 3 0)) 3 (.i (10 * (1 + (len % 20))))) 6 (.pt 1 0)) 7 (.q ePr (mkEnds form))) 12 (.i 0)) 180 (.b (decide (0 < ((mkEnds form).length : Int))))) (updO (updO (updO (updO noOb 1 (.live ⟨[.one, .sl 4 0 ((mkSecsK form len k2).length), .v (.slice none 0 0), .q ePnt (mkPts form), .v (.slice none 0 0), .i 0, .i 0, .i 0, .i 0, .i 0], 39, 1⟩)) 2 (.live ⟨[.v (.int .u8 form), .v (.int .u8 len), .v (.int .u8 speed), .v (.int .u16 mute), .v (.int .u16 wait), .v (.int .u8 cancel), .v (.int .u8 stay), .v (.int .u8 jn), .one], 25, 1⟩)) 3 (.live ⟨[.v (.slice none 0 0), .v (.slice none 0 0), .v (.slice none 0 0), .v (.slice none 0 0), .v (.slice none 0 0), .i 0, .i 0, .i 0, .i 0, .i 0], 39, 1⟩)) 4 (.live ⟨(enc eSec (mkSecsK form len k2)), 102, 3⟩)) (lu rfl (lu rfl (lu rfl (lu rfl (lu rfl (lu rfl (lu rfl ln))))))) rfl ?_
   refine awp_cond (decide (0 < ((mkEnds form).length : Int))) rfl rfl (fun hc6 => ?_) (fun hc6 => ?_)
   ·skip
    have hf13 := of_decide_eq_true hc6
    refine awp_skip ?_
    refine awp_seq ?_
    refine awp_block ?_
    refine seqR ?_
    refine mG (.i 0) ?_
    refine bG ((.bool (decide ((0 : Int) > 0)))) ?_
    refine mG (.b (decide ((0 : Int) > 0))) ?_
    refine aops_grp 8 193 (.b ((decide ((0 : Int) > 0)) && (((jn.fdiv (2 ^ (0))) % 2) == 1))) ?_ ?_
    ·refine (Bool.eq_false_or_eq_true (decide ((0 : Int) > 0))).elim (fun hg14 => ?_) (fun hg14 => ?_)
     ·skip
      have hf15 := of_decide_eq_true hg14
      refine opY rfl rfl rfl (by show AV.v (.bool (decide ((0 : Int) > 0))) = _; rw [hg14]) (aop_fieldAddr (av := .pt 2 0) (av' := .pt 2 7) rfl rfl rfl ft25_7 sz5 rfl rfl rfl ?_)
      refine opY rfl rfl rfl (by show AV.v (.bool (decide ((0 : Int) > 0))) = _; rw [hg14]) (aop_ld (av := .v (.int .u8 jn)) rfl rfl rfl ag5 rfl rfl ?_)
      refine opY rfl rfl rfl (by show AV.v (.bool (decide ((0 : Int) > 0))) = _; rw [hg14]) (aop_move (av := .i 0) (.inl rfl) rfl rfl rfl ?_)
      refine opY rfl rfl rfl (by show AV.v (.bool (decide ((0 : Int) > 0))) = _; rw [hg14]) (aop_binI (u := (.int .i64 (0 % 8))) rfl rfl rfl rfl rfl (by show _ ≠ _; decide) (remI (by omega)) ?_)
      refine opY rfl rfl rfl (by show AV.v (.bool (decide ((0 : Int) > 0))) = _; rw [hg14]) (aop_shr (n := 0) rfl rfl rfl rfl rfl (by show _ ≤ 8; omega) ?_)
      refine opY rfl rfl rfl (by show AV.v (.bool (decide ((0 : Int) > 0))) = _; rw [hg14]) (aop_binI (u := (.int .u8 ((jn.fdiv (2 ^ (0))) % 2))) rfl rfl rfl rfl rfl (by show _ ≠ _; decide) (remFdiv hj _) ?_)
      refine opY rfl rfl rfl (by show AV.v (.bool (decide ((0 : Int) > 0))) = _; rw [hg14]) (aop_binI (u := (.bool (((jn.fdiv (2 ^ (0))) % 2) == 1))) rfl rfl rfl rfl rfl trivial rfl ?_)
      refine opG rfl (aop_pick (b := (decide ((0 : Int) > 0))) (av := .b (((jn.fdiv (2 ^ (0))) % 2) == 1)) rfl rfl rfl rfl ((congrArg (fun b_ => cond b_ _ _) hg14).trans rfl) ?_)
      refine op0 ?_
      exact imp_env (lee_both 193 _ _ (by rw [hg14] <;> rfl) (lee_out 192 _ rfl (lee_out 191 _ rfl (lee_out 190 _ rfl (lee_out 189 _ rfl (lee_out 188 _ rfl (lee_out 187 _ rfl (lee_out 186 _ rfl (lee_same _)))))))))
     ·skip
      have hf16 := of_decide_eq_false hg14
      refine nG hg14 ?_
      refine nG hg14 ?_
      refine nG hg14 ?_
      refine nG hg14 ?_
      refine nG hg14 ?_
      refine nG hg14 ?_
      refine nG hg14 ?_
      refine opG rfl (aop_pick (b := (decide ((0 : Int) > 0))) (av := .b false) rfl rfl rfl rfl ((congrArg (fun b_ => cond b_ _ _) hg14).trans rfl) ?_)
      refine op0 ?_
      exact imp_env (lee_both 193 _ _ (by rw [hg14] <;> rfl) (lee_out 192 _ rfl (lee_out 191 _ rfl (lee_out 190 _ rfl (lee_out 189 _ rfl (lee_out 188 _ rfl (lee_out 187 _ rfl (lee_out 186 _ rfl (lee_same _)))))))))
    refine op0 ?_
    refine awp_cond ((decide ((0 : Int) > 0)) && (((jn.fdiv (2 ^ (0))) % 2) == 1)) rfl rfl (fun hc7 => ?_) (fun hc7 => ?_)
    ·skip
     obtain ⟨hf17a, hf17b⟩ := and_t hc7
     have hf18 := of_decide_eq_true hf17a
     have hf19 := (beq_iff_eq).1 hf17b
     exfalso; simp at hc7
    ·skip
     refine regR ?_
     refine fG (.pt 1 2) ft39_2 sz36 ?_
     refine opG rfl (aop_ld (av := .v (.slice none 0 0)) rfl rfl rfl ag36 rfl rfl ?_)
     refine mG (.i 0) ?_
     refine opG rfl (aop_litO 60 rfl rfl rfl ut48 iz3 (by decide) (by decide) rfl rfl rfl rfl ?_)
     refine opG rfl (aop_lit rfl rfl rfl ut36 iz48 (by decide) (by decide) rfl rfl ?_)
     refine opG rfl (aop_adopt 213 61 48 1 rfl rfl (aop_append 62 rfl rfl rfl rfl ut36 in48 rfl (by decide) rfl rfl rfl rfl (by simp [enc_length (f := eIL) (s := 1) (fun _ => rfl), partN]) rfl rfl (by omega) (by omega) rfl rfl ?_))
     refine fG (.pt 1 2) ft39_2 sz36 ?_
     refine opG rfl (aop_store rfl rfl rfl sz36 rfl rfl rfl rfl rfl (Nat.le_of_ble_eq_true rfl) rfl rfl ?_)
     refine op0 ?_
     refine rs_ (upd (upd (upd (upd (upd (upd none_ 1 (.pt 2 0)) 2 (.pt 3 0)) 3 (.i (10 * (1 + (len % 20))))) 6 (.pt 1 0)) 7 (.q ePr (mkEnds form))) 12 (.i 0)) (updO (updO (updO (updO (updO (updO (updO (updO (updO noOb 1 (.live ⟨[.one, .sl 4 0 ((mkSecsK form len k2).length), .v (.slice none 0 0), .q ePnt (mkPts form), .v (.slice none 0 0), .i 0, .i 0, .i 0, .i 0, .i 0], 39, 1⟩)) 2 (.live ⟨[.v (.int .u8 form), .v (.int .u8 len), .v (.int .u8 speed), .v (.int .u16 mute), .v (.int .u16 wait), .v (.int .u8 cancel), .v (.int .u8 stay), .v (.int .u8 jn), .one], 25, 1⟩)) 3 (.live ⟨[.v (.slice none 0 0), .v (.slice none 0 0), .v (.slice none 0 0), .v (.slice none 0 0), .v (.slice none 0 0), .i 0, .i 0, .i 0, .i 0, .i 0], 39, 1⟩)) 4 (.live ⟨(enc eSec (mkSecsK form len k2)), 102, 3⟩)) 60 (.live ⟨[.i 0], 3, 1⟩)) 61 (.live ⟨[], 48, 1⟩)) 61 .dead) 62 (.live ⟨[.sl 60 0 1], 48, 1⟩)) 1 (.live ⟨[.one, .sl 4 0 ((mkSecsK form len k2).length), .sl 62 0 (0 + 1), .q ePnt (mkPts form), .v (.slice none 0 0), .i 0, .i 0, .i 0, .i 0, .i 0], 39, 1⟩)) (lu rfl (lu rfl (lu rfl (lu rfl (lu rfl (lu rfl ln)))))) rfl ?_
     refine regR ?_
     refine mG (.i 0) ?_
     refine opG rfl (aop_binI (u := (.int .i64 (0 + 1))) rfl rfl rfl rfl rfl trivial (addI (by omega)) ?_)
     refine mG (.i (0 + 1)) ?_
     refine op0 ?_
     show _ ∧ _
     refine ⟨trivial, ?_⟩
     exact imp_ler [(1, 1), (2, 2), (3, 3), (4, 4), (62, 5), (60, 6)] (lerL [(1, 1), (2, 2), (3, 3), (4, 4), (62, 5), (60, 6)] [((1, 1), .live ⟨[.one, .sl 4 0 ((mkSecsK form len k2).length), .sl 5 0 (partN jn 0), .q ePnt (mkPts form), .v (.slice none 0 0), .i 0, .i 0, .i 0, .i 0, .i 0], 39, 1⟩), ((2, 2), .live ⟨[.v (.int .u8 form), .v (.int .u8 len), .v (.int .u8 speed), .v (.int .u16 mute), .v (.int .u16 wait), .v (.int .u8 cancel), .v (.int .u8 stay), .v (.int .u8 jn), .one], 25, 1⟩), ((3, 3), .live ⟨[.v (.slice none 0 0), .v (.slice none 0 0), .v (.slice none 0 0), .v (.slice none 0 0), .v (.slice none 0 0), .i 0, .i 0, .i 0, .i 0, .i 0], 39, 1⟩), ((4, 4), .live ⟨(enc eSec (mkSecsK form len k2)), 102, 3⟩), ((62, 5), .live ⟨(enc eIL (partD jn (0 + 1)) ++ [.sl 6 0 ((partD.partT jn (0 + 1)).length)]), 48, 1⟩), ((60, 6), .live ⟨(enc eI (partD.partT jn (0 + 1))), 3, 1⟩)] rfl (by decide) (by decide) ⟨row_map (o := ⟨[.one, .sl 4 0 ((mkSecsK form len k2).length), .sl 62 0 (0 + 1), .q ePnt (mkPts form), .v (.slice none 0 0), .i 0, .i 0, .i 0, .i 0, .i 0], 39, 1⟩) rfl (by rw [partN_zero]; exact (om_ (lm_cons (am_no (a := .one)) (lm_cons rfl (lm_cons rfl (lm_cons (am_no (a := .q ePnt (mkPts form))) (lm_cons (am_no (a := .v (.slice none 0 0))) (lm_cons (am_no (a := .i 0)) (lm_cons (am_no (a := .i 0)) (lm_cons (am_no (a := .i 0)) (lm_cons (am_no (a := .i 0)) (lm_cons (am_no (a := .i 0)) lm_nil)))))))))))) (oks_cons (ok_no (a := .one)) (oks_cons (.sl _ _ _ (by simp)) (oks_cons (.sl _ _ _ (by simp)) (oks_cons (ok_no (a := .q ePnt (mkPts form))) (oks_cons (ok_no (a := .v (.slice none 0 0))) (oks_cons (ok_no (a := .i 0)) (oks_cons (ok_no (a := .i 0)) (oks_cons (ok_no (a := .i 0)) (oks_cons (ok_no (a := .i 0)) (oks_cons (ok_no (a := .i 0)) oks_nil)))))))))), row_no (o := ⟨[.v (.int .u8 form), .v (.int .u8 len), .v (.int .u8 speed), .v (.int .u16 mute), .v (.int .u16 wait), .v (.int .u8 cancel), .v (.int .u8 stay), .v (.int .u8 jn), .one], 25, 1⟩) rfl rfl, row_no (o := ⟨[.v (.slice none 0 0), .v (.slice none 0 0), .v (.slice none 0 0), .v (.slice none 0 0), .v (.slice none 0 0), .i 0, .i 0, .i 0, .i 0, .i 0], 39, 1⟩) rfl rfl, row_no (o := ⟨(enc eSec (mkSecsK form len k2)), 102, 3⟩) rfl rfl, row_map (o := ⟨[.sl 60 0 1], 48, 1⟩) rfl (by rw [partD_one, partT_one]; exact (om_ (lm_cons rfl lm_nil))) (oks_cons (.sl _ _ _ (by simp)) oks_nil), row_no (o := ⟨[.i 0], 3, 1⟩) rfl (by rw [partT_one]; rfl), trivial⟩ (sr_same 12 (.i ((0 + 1 : Nat) : Int)) rfl NoI.out (sr_same 7 (.q ePr (mkEnds form)) rfl NoI.out (sr_map 6 (.pt 1 0) (by first | exact Ok.sl _ _ _ (by first | decide | simp) | exact Ok.pt _ _ (by first | decide | simp)) rfl (sr_same 3 (.i (10 * (1 + (len % 20)))) rfl NoI.out (sr_map 2 (.pt 3 0) (by first | exact Ok.sl _ _ _ (by first | decide | simp) | exact Ok.pt _ _ (by first | decide | simp)) rfl (sr_map 1 (.pt 2 0) (by first | exact Ok.sl _ _ _ (by first | decide | simp) | exact Ok.pt _ _ (by first | decide | simp)) rfl sr_none))))))) (keep_of rfl)
   ·skip
    have hf20 := of_decide_eq_false hc6
    exfalso; simp at hc6; omega
  have hpn := partN_le jn k3
  have hpt := partT_len jn (k3 + 1)
  refine awp_seq ?_
  refine seqR ?_
  refine mG (.i ((k3 + 1 : Nat) : Int)) ?_
  refine mG (.q ePr (mkEnds form)) ?_
  refine opG rfl (aop_len rfl rfl rfl rfl ut97 (len_ro rfl) ?_)
  refine bG ((.bool (decide (((k3 + 1 : Nat) : Int) < ((mkEnds form).length : Int))))) ?_
  refine op0 ?_
  refine rs_ (upd (upd (upd (upd (upd (upd (upd none_ 1 (.pt 2 0)) 2 (.pt 3 0)) 3 (.i (10 * (1 + (len % 20))))) 6 (.pt 1 0)) 7 (.q ePr (mkEnds form))) 12 (.i ((k3 + 1 : Nat) : Int))) 180 (.b (decide (((k3 + 1 : Nat) : Int) < ((mkEnds form).length : Int))))) (updO (updO (updO (updO (updO (updO noOb 1 (.live ⟨[.one, .sl 4 0 ((mkSecsK form len k2).length), .sl 5 0 (partN jn k3), .q ePnt (mkPts form), .v (.slice none 0 0), .i 0, .i 0, .i 0, .i 0, .i 0], 39, 1⟩)) 2 (.live ⟨[.v (.int .u8 form), .v (.int .u8 len), .v (.int .u8 speed), .v (.int .u16 mute), .v (.int .u16 wait), .v (.int .u8 cancel), .v (.int .u8 stay), .v (.int .u8 jn), .one], 25, 1⟩)) 3 (.live ⟨[.v (.slice none 0 0), .v (.slice none 0 0), .v (.slice none 0 0), .v (.slice none 0 0), .v (.slice none 0 0), .i 0, .i 0, .i 0, .i 0, .i 0], 39, 1⟩)) 4 (.live ⟨(enc eSec (mkSecsK form len k2)), 102, 3⟩)) 5 (.live ⟨(enc eIL (partD jn (k3 + 1)) ++ [.sl 6 0 ((partD.partT jn (k3 + 1)).length)]), 48, 1⟩)) 6 (.live ⟨(enc eI (partD.partT jn (k3 + 1))), 3, 1⟩)) (lu rfl (lu rfl (lu rfl (lu rfl (lu rfl (lu rfl (lu rfl ln))))))) rfl ?_
  refine awp_cond (decide (((k3 + 1 : Nat) : Int) < ((mkEnds form).length : Int))) rfl rfl (fun hc8 => ?_) (fun hc8 => ?_)
  ·skip
   have hf21 := of_decide_eq_true hc8
   refine awp_skip ?_
   refine awp_seq ?_
   refine awp_block ?_
   refine seqR ?_
   refine mG (.i ((k3 + 1 : Nat) : Int)) ?_
   refine bG ((.bool (decide (((k3 + 1 : Nat) : Int) > 0)))) ?_
   refine mG (.b (decide (((k3 + 1 : Nat) : Int) > 0))) ?_
   refine aops_grp 8 193 (.b ((decide (((k3 + 1 : Nat) : Int) > 0)) && (((jn.fdiv (2 ^ ((k3 + 1) % 8))) % 2) == 1))) ?_ ?_
   ·refine (Bool.eq_false_or_eq_true (decide (((k3 + 1 : Nat) : Int) > 0))).elim (fun hg22 => ?_) (fun hg22 => ?_)
    ·skip
     have hf23 := of_decide_eq_true hg22
     refine opY rfl rfl rfl (by show AV.v (.bool (decide (((k3 + 1 : Nat) : Int) > 0))) = _; rw [hg22]) (aop_fieldAddr (av := .pt 2 0) (av' := .pt 2 7) rfl rfl rfl ft25_7 sz5 rfl rfl rfl ?_)
     refine opY rfl rfl rfl (by show AV.v (.bool (decide (((k3 + 1 : Nat) : Int) > 0))) = _; rw [hg22]) (aop_ld (av := .v (.int .u8 jn)) rfl rfl rfl ag5 rfl rfl ?_)
     refine opY rfl rfl rfl (by show AV.v (.bool (decide (((k3 + 1 : Nat) : Int) > 0))) = _; rw [hg22]) (aop_move (av := .i ((k3 + 1 : Nat) : Int)) (.inl rfl) rfl rfl rfl ?_)
     refine opY rfl rfl rfl (by show AV.v (.bool (decide (((k3 + 1 : Nat) : Int) > 0))) = _; rw [hg22]) (aop_binI (u := (.int .i64 (((k3 + 1 : Nat) : Int) % 8))) rfl rfl rfl rfl rfl (by show _ ≠ _; decide) (remI (by omega)) ?_)
     refine opY rfl rfl rfl (by show AV.v (.bool (decide (((k3 + 1 : Nat) : Int) > 0))) = _; rw [hg22]) (aop_shr (n := (k3 + 1) % 8) rfl rfl rfl rfl rfl (by show _ ≤ 8; omega) ?_)
     refine opY rfl rfl rfl (by show AV.v (.bool (decide (((k3 + 1 : Nat) : Int) > 0))) = _; rw [hg22]) (aop_binI (u := (.int .u8 ((jn.fdiv (2 ^ ((k3 + 1) % 8))) % 2))) rfl rfl rfl rfl rfl (by show _ ≠ _; decide) (remFdiv hj _) ?_)
     refine opY rfl rfl rfl (by show AV.v (.bool (decide (((k3 + 1 : Nat) : Int) > 0))) = _; rw [hg22]) (aop_binI (u := (.bool (((jn.fdiv (2 ^ ((k3 + 1) % 8))) % 2) == 1))) rfl rfl rfl rfl rfl trivial rfl ?_)
     refine opG rfl (aop_pick (b := (decide (((k3 + 1 : Nat) : Int) > 0))) (av := .b (((jn.fdiv (2 ^ ((k3 + 1) % 8))) % 2) == 1)) rfl rfl rfl rfl ((congrArg (fun b_ => cond b_ _ _) hg22).trans rfl) ?_)
     refine op0 ?_
     exact imp_env (lee_both 193 _ _ (by rw [hg22] <;> rfl) (lee_out 192 _ rfl (lee_out 191 _ rfl (lee_out 190 _ rfl (lee_out 189 _ rfl (lee_out 188 _ rfl (lee_out 187 _ rfl (lee_out 186 _ rfl (lee_same _)))))))))
    ·skip
     have hf24 := of_decide_eq_false hg22
     refine nG hg22 ?_
     refine nG hg22 ?_
     refine nG hg22 ?_
     refine nG hg22 ?_
     refine nG hg22 ?_
     refine nG hg22 ?_
     refine nG hg22 ?_
     refine opG rfl (aop_pick (b := (decide (((k3 + 1 : Nat) : Int) > 0))) (av := .b false) rfl rfl rfl rfl ((congrArg (fun b_ => cond b_ _ _) hg22).trans rfl) ?_)
     refine op0 ?_
     exact imp_env (lee_both 193 _ _ (by rw [hg22] <;> rfl) (lee_out 192 _ rfl (lee_out 191 _ rfl (lee_out 190 _ rfl (lee_out 189 _ rfl (lee_out 188 _ rfl (lee_out 187 _ rfl (lee_out 186 _ rfl (lee_same _)))))))))
   refine op0 ?_
   refine awp_cond ((decide (((k3 + 1 : Nat) : Int) > 0)) && (((jn.fdiv (2 ^ ((k3 + 1) % 8))) % 2) == 1)) rfl rfl (fun hc9 => ?_) (fun hc9 => ?_)
   ·skip
    obtain ⟨hf25a, hf25b⟩ := and_t hc9
    have hf26 := of_decide_eq_true hf25a
    have hf27 := (beq_iff_eq).1 hf25b
    have hjn : joinB jn (k3 + 1) = true := (joinB_int jn (k3 + 1)).trans hc9
    refine awp_drawZ (m := 17) (fun b => (updO (updO (updO (updO (updO (updO (updO noOb 1 (.live ⟨[.one, .sl 4 0 ((mkSecsK form len k2).length), .sl 5 0 (partN jn k3), .q ePnt (mkPts form), .v (.slice none 0 0), .i 0, .i 0, .i 0, .i 0, .i 0], 39, 1⟩)) 2 (.live ⟨[.v (.int .u8 form), .v (.int .u8 len), .v (.int .u8 speed), .v (.int .u16 mute), .v (.int .u16 wait), .v (.int .u8 cancel), .v (.int .u8 stay), .v (.int .u8 jn), .one], 25, 1⟩)) 3 (.live ⟨[.v (.slice none 0 0), .v (.slice none 0 0), .v (.slice none 0 0), .v (.slice none 0 0), .v (.slice none 0 0), .i 0, .i 0, .i 0, .i 0, .i 0], 39, 1⟩)) 4 (.live ⟨(enc eSec (mkSecsK form len k2)), 102, 3⟩)) 5 (.live ⟨(enc eIL (partD jn (k3 + 1)) ++ [.sl 6 0 ((partD.partT jn (k3 + 1)).length)]), 48, 1⟩)) 6 (cond (b 16) .dead (.live ⟨(enc eI (partD.partT jn (k3 + 1))), 3, 1⟩))) 63 (cond (b 16) (.live ⟨(enc eI ((partD.partT jn (k3 + 1)) ++ [(((k3 + 1 : Nat) : Int) : Int)])), 3, 1⟩) .free))) (updO (updO (updO (updO (updO (updO (updO noOb 1 (.live ⟨[.one, .sl 4 0 ((mkSecsK form len k2).length), .sl 5 0 (partN jn k3), .q ePnt (mkPts form), .v (.slice none 0 0), .i 0, .i 0, .i 0, .i 0, .i 0], 39, 1⟩)) 2 (.live ⟨[.v (.int .u8 form), .v (.int .u8 len), .v (.int .u8 speed), .v (.int .u16 mute), .v (.int .u16 wait), .v (.int .u8 cancel), .v (.int .u8 stay), .v (.int .u8 jn), .one], 25, 1⟩)) 3 (.live ⟨[.v (.slice none 0 0), .v (.slice none 0 0), .v (.slice none 0 0), .v (.slice none 0 0), .v (.slice none 0 0), .i 0, .i 0, .i 0, .i 0, .i 0], 39, 1⟩)) 4 (.live ⟨(enc eSec (mkSecsK form len k2)), 102, 3⟩)) 5 (.live ⟨(enc eIL (partD jn (k3 + 1)) ++ [.sl 6 0 ((partD.partT jn (k3 + 1)).length)]), 48, 1⟩)) 6 .dead) 63 (.live ⟨(enc eI ((partD.partT jn (k3 + 1)) ++ [(((k3 + 1 : Nat) : Int) : Int)])), 3, 1⟩)) [16] (funext fun id_ => by by_cases e0_ : id_ = 6 <;> by_cases e1_ : id_ = 63 <;> first | (subst e0_; rfl) | (subst e1_; rfl) | simp only [addO, updO, nbeq_ne e0_, nbeq_ne e1_, cond_false]) (fun b b' h => by simp only [h 16 (by decide)]) (fun b h => by simp only [h 16 (by decide), cond_true]) [(210, .sl 63 0 (((partD.partT jn (k3 + 1)) ++ [(((k3 + 1 : Nat) : Int) : Int)]).length)), (209, .ro 1 [.i ((k3 + 1 : Nat) : Int)]), (208, .i ((k3 + 1 : Nat) : Int)), (207, .sl 6 0 ((partD.partT jn (k3 + 1)).length)), (206, .pt 5 ((partM jn k3) * 1)), (205, .i ((partM jn k3 : Nat) : Int)), (204, .i (partN jn k3 : Int)), (203, .sl 5 0 (partN jn k3)), (202, .pt 1 2), (201, .sl 5 0 (partN jn k3)), (200, .pt 1 2), (199, .i ((partM jn k3 : Nat) : Int)), (198, .i (partN jn k3 : Int)), (197, .sl 5 0 (partN jn k3)), (196, .pt 1 2), (195, .sl 5 0 (partN jn k3)), (194, .pt 1 2)] mixed (by kernel_rfl) ?_ ?_
    ·refine ⟨?_, ?_, ?_, ?_, ?_, ?_, ?_, ?_, ?_, ?_, ?_, ?_, ?_, ?_, ?_, ?_, ?_, trivial⟩
     ·exact sy_pure (by decide) (fun b => ⟨194, rfl, blt_lt rfl, fun st hob hE => aop_fieldAddr (av := .pt 1 0) (av' := .pt 1 2) rfl rfl rfl ft39_2 sz36 (hE 6 rfl) rfl rfl (by rw [hob]; rfl)⟩)
     ·exact sy_pure (by decide) (fun b => ⟨195, rfl, blt_lt rfl, fun st hob hE => aop_ld (av := .sl 5 0 (partN jn k3)) rfl rfl rfl ag36 (hE 194 rfl) (by rw [hob]; rfl) (by rw [hob]; rfl)⟩)
     ·exact sy_pure (by decide) (fun b => ⟨196, rfl, blt_lt rfl, fun st hob hE => aop_fieldAddr (av := .pt 1 0) (av' := .pt 1 2) rfl rfl rfl ft39_2 sz36 (hE 6 rfl) rfl rfl (by rw [hob]; rfl)⟩)
     ·exact sy_pure (by decide) (fun b => ⟨197, rfl, blt_lt rfl, fun st hob hE => aop_ld (av := .sl 5 0 (partN jn k3)) rfl rfl rfl ag36 (hE 196 rfl) (by rw [hob]; rfl) (by rw [hob]; rfl)⟩)
     ·exact sy_pure (by decide) (fun b => ⟨198, rfl, blt_lt rfl, fun st hob hE => aop_len rfl rfl rfl rfl ut36 (len_sl (hE 197 rfl)) (by rw [hob]; rfl)⟩)
     ·exact sy_pure (by decide) (fun b => ⟨199, rfl, blt_lt rfl, fun st hob hE => aop_binI (u := (.int .i64 ((partM jn k3 : Nat) : Int))) rfl rfl rfl (hE 198 rfl) rfl trivial (subN1 (partN_M jn k3) (by omega)) (by rw [hob]; rfl)⟩)
     ·exact sy_pure (by decide) (fun b => ⟨200, rfl, blt_lt rfl, fun st hob hE => aop_fieldAddr (av := .pt 1 0) (av' := .pt 1 2) rfl rfl rfl ft39_2 sz36 (hE 6 rfl) rfl rfl (by rw [hob]; rfl)⟩)
     ·exact sy_pure (by decide) (fun b => ⟨201, rfl, blt_lt rfl, fun st hob hE => aop_ld (av := .sl 5 0 (partN jn k3)) rfl rfl rfl ag36 (hE 200 rfl) (by rw [hob]; rfl) (by rw [hob]; rfl)⟩)
     ·exact sy_pure (by decide) (fun b => ⟨202, rfl, blt_lt rfl, fun st hob hE => aop_fieldAddr (av := .pt 1 0) (av' := .pt 1 2) rfl rfl rfl ft39_2 sz36 (hE 6 rfl) rfl rfl (by rw [hob]; rfl)⟩)
     ·exact sy_pure (by decide) (fun b => ⟨203, rfl, blt_lt rfl, fun st hob hE => aop_ld (av := .sl 5 0 (partN jn k3)) rfl rfl rfl ag36 (hE 202 rfl) (by rw [hob]; rfl) (by rw [hob]; rfl)⟩)
     ·exact sy_pure (by decide) (fun b => ⟨204, rfl, blt_lt rfl, fun st hob hE => aop_len rfl rfl rfl rfl ut36 (len_sl (hE 203 rfl)) (by rw [hob]; rfl)⟩)
     ·exact sy_pure (by decide) (fun b => ⟨205, rfl, blt_lt rfl, fun st hob hE => aop_binI (u := (.int .i64 ((partM jn k3 : Nat) : Int))) rfl rfl rfl (hE 204 rfl) rfl trivial (subN1 (partN_M jn k3) (by omega)) (by rw [hob]; rfl)⟩)
     ·exact sy_pure (by decide) (fun b => ⟨206, rfl, blt_lt rfl, fun st hob hE => aop_ixO (k := partM jn k3) rfl rfl rfl ut36 sz48 (hE 201 rfl) (hE 205 rfl) (by rw [partN_M]; omega) (by rw [hob]; rfl)⟩)
     ·exact sy_pure (by decide) (fun b => ⟨207, rfl, blt_lt rfl, fun st hob hE => aop_ld (av := .sl 6 0 ((partD.partT jn (k3 + 1)).length)) (rest := []) rfl rfl rfl ag48 (hE 206 rfl) (ptC_last (pre := enc eIL (partD jn (k3 + 1))) (x := .sl 6 0 ((partD.partT jn (k3 + 1)).length)) (e := 48) (z := 1) (by rw [hob]; rfl) (enc_length (s := 1) (fun _ => rfl) _).symm) (by rw [hob]; rfl)⟩)
     ·exact sy_pure (by decide) (fun b => ⟨208, rfl, blt_lt rfl, fun st hob hE => aop_move (av := .i ((k3 + 1 : Nat) : Int)) (.inl rfl) rfl rfl (hE 12 rfl) (by rw [hob]; rfl)⟩)
     ·exact sy_pure (by decide) (fun b => ⟨209, rfl, blt_lt rfl, fun st hob hE => aop_lit rfl rfl rfl ut48 iz3 (by decide) (by decide) (by simp only [partsA, List.map, evA, hE 208 rfl]; rfl) rfl (by rw [hob]; rfl)⟩)
     ·exact sy_fx (by decide) ⟨rfl, (fun d_ h_ => by cases h_ <;> exact blt_lt rfl), fun b hb_ hdep_ hcl_ st hob hE => by obtain ⟨en_, ob_⟩ := st; have hob_ : ob_ = (updO (updO (updO (updO (updO (updO (updO noOb 1 (.live ⟨[.one, .sl 4 0 ((mkSecsK form len k2).length), .sl 5 0 (partN jn k3), .q ePnt (mkPts form), .v (.slice none 0 0), .i 0, .i 0, .i 0, .i 0, .i 0], 39, 1⟩)) 2 (.live ⟨[.v (.int .u8 form), .v (.int .u8 len), .v (.int .u8 speed), .v (.int .u16 mute), .v (.int .u16 wait), .v (.int .u8 cancel), .v (.int .u8 stay), .v (.int .u8 jn), .one], 25, 1⟩)) 3 (.live ⟨[.v (.slice none 0 0), .v (.slice none 0 0), .v (.slice none 0 0), .v (.slice none 0 0), .v (.slice none 0 0), .i 0, .i 0, .i 0, .i 0, .i 0], 39, 1⟩)) 4 (.live ⟨(enc eSec (mkSecsK form len k2)), 102, 3⟩)) 5 (.live ⟨(enc eIL (partD jn (k3 + 1)) ++ [.sl 6 0 ((partD.partT jn (k3 + 1)).length)]), 48, 1⟩)) 6 (.live ⟨(enc eI (partD.partT jn (k3 + 1))), 3, 1⟩)) 63 .free) := Eq.trans hob (by simp only [hb_, cond_false, cond_true]); subst hob_; exact aop_app1 (f := eI) (l := partD.partT jn (k3 + 1)) 63 (((k3 + 1 : Nat) : Int) : Int) rfl rfl rfl rfl ut48 in3 rfl (by decide) (hE 207 rfl) rfl rfl rfl rfl rfl (fun _ => rfl) (hE 209 rfl) rfl (by first | omega | (simp; done) | decide | (simp at *; omega)) (by first | omega | (simp; done) | decide | (simp at *; omega)) rfl ⟨rfl, fun id_ => by by_cases e0_ : id_ = 6 <;> by_cases e1_ : id_ = 63 <;> first | (subst e0_; rfl) | (subst e1_; rfl) | simp only [addO, updO, nbeq_ne e0_, nbeq_ne e1_, cond_false]⟩⟩
    refine opG rfl (aop_ixO (k := partM jn k3) rfl rfl rfl ut36 sz48 rfl rfl (by rw [partN_M]; omega) ?_)
    refine opG rfl (aop_store (cells' := (enc eIL (partD jn (k3 + 1)) ++ [.sl 63 0 (((partD.partT jn (k3 + 1)) ++ [(((k3 + 1 : Nat) : Int) : Int)]).length)])) rfl rfl rfl sz48 rfl rfl rfl rfl rfl (by simp [partM, enc_length (f := eIL) (s := 1) (fun _ => rfl)]) rfl (spl_last (enc_length (s := 1) (fun _ => rfl) _).symm) ?_)
    refine op0 ?_
    refine rs_ (upd (upd (upd (upd (upd (upd none_ 1 (.pt 2 0)) 2 (.pt 3 0)) 3 (.i (10 * (1 + (len % 20))))) 6 (.pt 1 0)) 7 (.q ePr (mkEnds form))) 12 (.i ((k3 + 1 : Nat) : Int))) (updO (updO (updO (updO (updO (updO (updO (updO noOb 1 (.live ⟨[.one, .sl 4 0 ((mkSecsK form len k2).length), .sl 5 0 (partN jn k3), .q ePnt (mkPts form), .v (.slice none 0 0), .i 0, .i 0, .i 0, .i 0, .i 0], 39, 1⟩)) 2 (.live ⟨[.v (.int .u8 form), .v (.int .u8 len), .v (.int .u8 speed), .v (.int .u16 mute), .v (.int .u16 wait), .v (.int .u8 cancel), .v (.int .u8 stay), .v (.int .u8 jn), .one], 25, 1⟩)) 3 (.live ⟨[.v (.slice none 0 0), .v (.slice none 0 0), .v (.slice none 0 0), .v (.slice none 0 0), .v (.slice none 0 0), .i 0, .i 0, .i 0, .i 0, .i 0], 39, 1⟩)) 4 (.live ⟨(enc eSec (mkSecsK form len k2)), 102, 3⟩)) 5 (.live ⟨(enc eIL (partD jn (k3 + 1)) ++ [.sl 6 0 ((partD.partT jn (k3 + 1)).length)]), 48, 1⟩)) 6 .dead) 63 (.live ⟨(enc eI ((partD.partT jn (k3 + 1)) ++ [(((k3 + 1 : Nat) : Int) : Int)])), 3, 1⟩)) 5 (.live ⟨(enc eIL (partD jn (k3 + 1)) ++ [.sl 63 0 (((partD.partT jn (k3 + 1)) ++ [(((k3 + 1 : Nat) : Int) : Int)]).length)]), 48, 1⟩)) (lu rfl (lu rfl (lu rfl (lu rfl (lu rfl (lu rfl ln)))))) rfl ?_
    refine regR ?_
    refine mG (.i ((k3 + 1 : Nat) : Int)) ?_
    refine opG rfl (aop_binI (u := (.int .i64 ((k3 + 1 + 1 : Nat) : Int))) rfl rfl rfl rfl rfl trivial (addN (by omega)) ?_)
    refine mG (.i ((k3 + 1 + 1 : Nat) : Int)) ?_
    refine op0 ?_
    show _ ∧ _
    have hN := partN_join hjn
    have hD := (parts_join hjn).1
    have hT := (parts_join hjn).2
    refine ⟨by omega, trivial, ?_⟩
    exact imp_ler [(1, 1), (2, 2), (3, 3), (4, 4), (5, 5), (63, 6)] (lerL [(1, 1), (2, 2), (3, 3), (4, 4), (5, 5), (63, 6)] [((1, 1), .live ⟨[.one, .sl 4 0 ((mkSecsK form len k2).length), .sl 5 0 (partN jn (k3 + 1)), .q ePnt (mkPts form), .v (.slice none 0 0), .i 0, .i 0, .i 0, .i 0, .i 0], 39, 1⟩), ((2, 2), .live ⟨[.v (.int .u8 form), .v (.int .u8 len), .v (.int .u8 speed), .v (.int .u16 mute), .v (.int .u16 wait), .v (.int .u8 cancel), .v (.int .u8 stay), .v (.int .u8 jn), .one], 25, 1⟩), ((3, 3), .live ⟨[.v (.slice none 0 0), .v (.slice none 0 0), .v (.slice none 0 0), .v (.slice none 0 0), .v (.slice none 0 0), .i 0, .i 0, .i 0, .i 0, .i 0], 39, 1⟩), ((4, 4), .live ⟨(enc eSec (mkSecsK form len k2)), 102, 3⟩), ((5, 5), .live ⟨(enc eIL (partD jn ((k3 + 1) + 1)) ++ [.sl 6 0 ((partD.partT jn ((k3 + 1) + 1)).length)]), 48, 1⟩), ((63, 6), .live ⟨(enc eI (partD.partT jn ((k3 + 1) + 1))), 3, 1⟩)] rfl (by decide) (by decide) ⟨row_map (o := ⟨[.one, .sl 4 0 ((mkSecsK form len k2).length), .sl 5 0 (partN jn k3), .q ePnt (mkPts form), .v (.slice none 0 0), .i 0, .i 0, .i 0, .i 0, .i 0], 39, 1⟩) rfl (by rw [hN]; exact (om_ (lm_cons (am_no (a := .one)) (lm_cons rfl (lm_cons rfl (lm_cons (am_no (a := .q ePnt (mkPts form))) (lm_cons (am_no (a := .v (.slice none 0 0))) (lm_cons (am_no (a := .i 0)) (lm_cons (am_no (a := .i 0)) (lm_cons (am_no (a := .i 0)) (lm_cons (am_no (a := .i 0)) (lm_cons (am_no (a := .i 0)) lm_nil)))))))))))) (oks_cons (ok_no (a := .one)) (oks_cons (.sl _ _ _ (by simp)) (oks_cons (.sl _ _ _ (by simp)) (oks_cons (ok_no (a := .q ePnt (mkPts form))) (oks_cons (ok_no (a := .v (.slice none 0 0))) (oks_cons (ok_no (a := .i 0)) (oks_cons (ok_no (a := .i 0)) (oks_cons (ok_no (a := .i 0)) (oks_cons (ok_no (a := .i 0)) (oks_cons (ok_no (a := .i 0)) oks_nil)))))))))), row_no (o := ⟨[.v (.int .u8 form), .v (.int .u8 len), .v (.int .u8 speed), .v (.int .u16 mute), .v (.int .u16 wait), .v (.int .u8 cancel), .v (.int .u8 stay), .v (.int .u8 jn), .one], 25, 1⟩) rfl rfl, row_no (o := ⟨[.v (.slice none 0 0), .v (.slice none 0 0), .v (.slice none 0 0), .v (.slice none 0 0), .v (.slice none 0 0), .i 0, .i 0, .i 0, .i 0, .i 0], 39, 1⟩) rfl rfl, row_no (o := ⟨(enc eSec (mkSecsK form len k2)), 102, 3⟩) rfl rfl, row_map (o := ⟨(enc eIL (partD jn (k3 + 1)) ++ [.sl 63 0 (((partD.partT jn (k3 + 1)) ++ [(((k3 + 1 : Nat) : Int) : Int)]).length)]), 48, 1⟩) rfl (by rw [hD, hT]; exact (om_ (lm_append lm_no (lm_cons rfl lm_nil)))) (oks_append oks_no (oks_cons (.sl _ _ _ (by simp)) oks_nil)), row_no (o := ⟨(enc eI ((partD.partT jn (k3 + 1)) ++ [(((k3 + 1 : Nat) : Int) : Int)])), 3, 1⟩) rfl (by exact congrArg (fun l_ => LObj.mk (enc eI l_) 3 1) hT), trivial⟩ (sr_same 12 (.i (((k3 + 1) + 1 : Nat) : Int)) rfl NoI.out (sr_same 7 (.q ePr (mkEnds form)) rfl NoI.out (sr_map 6 (.pt 1 0) (by first | exact Ok.sl _ _ _ (by first | decide | simp) | exact Ok.pt _ _ (by first | decide | simp)) rfl (sr_same 3 (.i (10 * (1 + (len % 20)))) rfl NoI.out (sr_map 2 (.pt 3 0) (by first | exact Ok.sl _ _ _ (by first | decide | simp) | exact Ok.pt _ _ (by first | decide | simp)) rfl (sr_map 1 (.pt 2 0) (by first | exact Ok.sl _ _ _ (by first | decide | simp) | exact Ok.pt _ _ (by first | decide | simp)) rfl sr_none))))))) (keep_of rfl)
   ·skip
    have hjn : joinB jn (k3 + 1) = false := (joinB_int jn (k3 + 1)).trans hc9
    refine regR ?_
    refine fG (.pt 1 2) ft39_2 sz36 ?_
    refine opG rfl (aop_ld (av := .sl 5 0 (partN jn k3)) rfl rfl rfl ag36 rfl rfl ?_)
    refine mG (.i ((k3 + 1 : Nat) : Int)) ?_
    refine opG rfl (aop_litO 64 rfl rfl rfl ut48 iz3 (by decide) (by decide) rfl rfl rfl rfl ?_)
    refine opG rfl (aop_lit rfl rfl rfl ut36 iz48 (by decide) (by decide) rfl rfl ?_)
    refine opG rfl (aop_append 65 rfl rfl rfl rfl ut36 in48 rfl (by decide) rfl rfl rfl rfl (by simp [enc_length (f := eIL) (s := 1) (fun _ => rfl), partN]) rfl rfl (by omega) (by omega) rfl (List.append_assoc _ _ _) ?_)
    refine fG (.pt 1 2) ft39_2 sz36 ?_
    refine opG rfl (aop_store rfl rfl rfl sz36 rfl rfl rfl rfl rfl (Nat.le_of_ble_eq_true rfl) rfl rfl ?_)
    refine op0 ?_
    refine rs_ (upd (upd (upd (upd (upd (upd none_ 1 (.pt 2 0)) 2 (.pt 3 0)) 3 (.i (10 * (1 + (len % 20))))) 6 (.pt 1 0)) 7 (.q ePr (mkEnds form))) 12 (.i ((k3 + 1 : Nat) : Int))) (updO (updO (updO (updO (updO (updO (updO (updO (updO (updO noOb 1 (.live ⟨[.one, .sl 4 0 ((mkSecsK form len k2).length), .sl 5 0 (partN jn k3), .q ePnt (mkPts form), .v (.slice none 0 0), .i 0, .i 0, .i 0, .i 0, .i 0], 39, 1⟩)) 2 (.live ⟨[.v (.int .u8 form), .v (.int .u8 len), .v (.int .u8 speed), .v (.int .u16 mute), .v (.int .u16 wait), .v (.int .u8 cancel), .v (.int .u8 stay), .v (.int .u8 jn), .one], 25, 1⟩)) 3 (.live ⟨[.v (.slice none 0 0), .v (.slice none 0 0), .v (.slice none 0 0), .v (.slice none 0 0), .v (.slice none 0 0), .i 0, .i 0, .i 0, .i 0, .i 0], 39, 1⟩)) 4 (.live ⟨(enc eSec (mkSecsK form len k2)), 102, 3⟩)) 5 (.live ⟨(enc eIL (partD jn (k3 + 1)) ++ [.sl 6 0 ((partD.partT jn (k3 + 1)).length)]), 48, 1⟩)) 6 (.live ⟨(enc eI (partD.partT jn (k3 + 1))), 3, 1⟩)) 64 (.live ⟨[.i ((k3 + 1 : Nat) : Int)], 3, 1⟩)) 5 .dead) 65 (.live ⟨(enc eIL (partD jn (k3 + 1)) ++ [.sl 6 0 ((partD.partT jn (k3 + 1)).length), .sl 64 0 1]), 48, 1⟩)) 1 (.live ⟨[.one, .sl 4 0 ((mkSecsK form len k2).length), .sl 65 0 ((partN jn k3) + 1), .q ePnt (mkPts form), .v (.slice none 0 0), .i 0, .i 0, .i 0, .i 0, .i 0], 39, 1⟩)) (lu rfl (lu rfl (lu rfl (lu rfl (lu rfl (lu rfl ln)))))) rfl ?_
    refine regR ?_
    refine mG (.i ((k3 + 1 : Nat) : Int)) ?_
    refine opG rfl (aop_binI (u := (.int .i64 ((k3 + 1 + 1 : Nat) : Int))) rfl rfl rfl rfl rfl trivial (addN (by omega)) ?_)
    refine mG (.i ((k3 + 1 + 1 : Nat) : Int)) ?_
    refine op0 ?_
    show _ ∧ _
    have hN := partN_new hjn
    have hD := partD_new hjn
    have hT := (parts_new hjn).2
    refine ⟨by omega, trivial, ?_⟩
    refine (frz_ [2, 3, 1, 4, 65, 64] [(2, ⟨[.v (.int .u8 form), .v (.int .u8 len), .v (.int .u8 speed), .v (.int .u16 mute), .v (.int .u16 wait), .v (.int .u8 cancel), .v (.int .u8 stay), .v (.int .u8 jn), .one], 25, 1⟩), (3, ⟨[.v (.slice none 0 0), .v (.slice none 0 0), .v (.slice none 0 0), .v (.slice none 0 0), .v (.slice none 0 0), .i 0, .i 0, .i 0, .i 0, .i 0], 39, 1⟩), (1, ⟨[.one, .sl 4 0 ((mkSecsK form len k2).length), .sl 65 0 ((partN jn k3) + 1), .q ePnt (mkPts form), .v (.slice none 0 0), .i 0, .i 0, .i 0, .i 0, .i 0], 39, 1⟩), (4, ⟨(enc eSec (mkSecsK form len k2)), 102, 3⟩), (65, ⟨(enc eIL (partD jn (k3 + 1)) ++ [.q eI (partD.partT jn (k3 + 1)), .sl 64 0 1]), 48, 1⟩), (64, ⟨[.i ((k3 + 1 : Nat) : Int)], 3, 1⟩)] rfl (fun _ h => h) ⟨keep_cells (cs := [.v (.int .u8 form), .v (.int .u8 len), .v (.int .u8 speed), .v (.int .u16 mute), .v (.int .u16 wait), .v (.int .u8 cancel), .v (.int .u8 stay), .v (.int .u8 jn), .one]) (by simp) rfl rfl (frzs_cons (.inl rfl) (frzs_cons (.inl rfl) (frzs_cons (.inl rfl) (frzs_cons (.inl rfl) (frzs_cons (.inl rfl) (frzs_cons (.inl rfl) (frzs_cons (.inl rfl) (frzs_cons (.inl rfl) (frzs_cons (.inl rfl) frzs_nil))))))))), keep_cells (cs := [.v (.slice none 0 0), .v (.slice none 0 0), .v (.slice none 0 0), .v (.slice none 0 0), .v (.slice none 0 0), .i 0, .i 0, .i 0, .i 0, .i 0]) (by simp) rfl rfl (frzs_cons (.inl rfl) (frzs_cons (.inl rfl) (frzs_cons (.inl rfl) (frzs_cons (.inl rfl) (frzs_cons (.inl rfl) (frzs_cons (.inl rfl) (frzs_cons (.inl rfl) (frzs_cons (.inl rfl) (frzs_cons (.inl rfl) (frzs_cons (.inl rfl) frzs_nil)))))))))), keep_cells (cs := [.one, .sl 4 0 ((mkSecsK form len k2).length), .sl 65 0 ((partN jn k3) + 1), .q ePnt (mkPts form), .v (.slice none 0 0), .i 0, .i 0, .i 0, .i 0, .i 0]) (by simp) rfl rfl (frzs_cons (.inl rfl) (frzs_cons (.inl rfl) (frzs_cons (.inl rfl) (frzs_cons (.inl rfl) (frzs_cons (.inl rfl) (frzs_cons (.inl rfl) (frzs_cons (.inl rfl) (frzs_cons (.inl rfl) (frzs_cons (.inl rfl) (frzs_cons (.inl rfl) frzs_nil)))))))))), keep_same (by simp) rfl, keep_cells (cs := (enc eIL (partD jn (k3 + 1)) ++ [.sl 6 0 ((partD.partT jn (k3 + 1)).length), .sl 64 0 1])) (by simp) rfl (by simp) (frzs_pre (frzs_cons (.inr (lend_s (id := 6) (n := (partD.partT jn (k3 + 1)).length) (o := ⟨(enc eI (partD.partT jn (k3 + 1))), 3, 1⟩) rfl (enc_len (fun _ => rfl) (by first | rfl | (simp; done))))) (frzs_cons (.inl rfl) frzs_nil))), keep_same (by simp) rfl, trivial⟩ (fz_same 12 (.i ((k3 + 1 + 1 : Nat) : Int)) rfl (fz_same 7 (.q ePr (mkEnds form)) rfl (fz_same 6 (.pt 1 0) rfl (fz_same 3 (.i (10 * (1 + (len % 20)))) rfl (fz_same 2 (.pt 3 0) rfl (fz_same 1 (.pt 2 0) rfl fz_none))))))).trans ?_
    exact imp_ler [(1, 1), (2, 2), (3, 3), (4, 4), (65, 5), (64, 6)] (lerL [(1, 1), (2, 2), (3, 3), (4, 4), (65, 5), (64, 6)] [((1, 1), .live ⟨[.one, .sl 4 0 ((mkSecsK form len k2).length), .sl 5 0 (partN jn (k3 + 1)), .q ePnt (mkPts form), .v (.slice none 0 0), .i 0, .i 0, .i 0, .i 0, .i 0], 39, 1⟩), ((2, 2), .live ⟨[.v (.int .u8 form), .v (.int .u8 len), .v (.int .u8 speed), .v (.int .u16 mute), .v (.int .u16 wait), .v (.int .u8 cancel), .v (.int .u8 stay), .v (.int .u8 jn), .one], 25, 1⟩), ((3, 3), .live ⟨[.v (.slice none 0 0), .v (.slice none 0 0), .v (.slice none 0 0), .v (.slice none 0 0), .v (.slice none 0 0), .i 0, .i 0, .i 0, .i 0, .i 0], 39, 1⟩), ((4, 4), .live ⟨(enc eSec (mkSecsK form len k2)), 102, 3⟩), ((65, 5), .live ⟨(enc eIL (partD jn ((k3 + 1) + 1)) ++ [.sl 6 0 ((partD.partT jn ((k3 + 1) + 1)).length)]), 48, 1⟩), ((64, 6), .live ⟨(enc eI (partD.partT jn ((k3 + 1) + 1))), 3, 1⟩)] rfl (by decide) (by decide) ⟨row_map (o := ⟨[.one, .sl 4 0 ((mkSecsK form len k2).length), .sl 65 0 ((partN jn k3) + 1), .q ePnt (mkPts form), .v (.slice none 0 0), .i 0, .i 0, .i 0, .i 0, .i 0], 39, 1⟩) rfl (by rw [hN]; exact (om_ (lm_cons (am_no (a := .one)) (lm_cons rfl (lm_cons rfl (lm_cons (am_no (a := .q ePnt (mkPts form))) (lm_cons (am_no (a := .v (.slice none 0 0))) (lm_cons (am_no (a := .i 0)) (lm_cons (am_no (a := .i 0)) (lm_cons (am_no (a := .i 0)) (lm_cons (am_no (a := .i 0)) (lm_cons (am_no (a := .i 0)) lm_nil)))))))))))) (oks_cons (ok_no (a := .one)) (oks_cons (.sl _ _ _ (by simp)) (oks_cons (.sl _ _ _ (by simp)) (oks_cons (ok_no (a := .q ePnt (mkPts form))) (oks_cons (ok_no (a := .v (.slice none 0 0))) (oks_cons (ok_no (a := .i 0)) (oks_cons (ok_no (a := .i 0)) (oks_cons (ok_no (a := .i 0)) (oks_cons (ok_no (a := .i 0)) (oks_cons (ok_no (a := .i 0)) oks_nil)))))))))), row_no (o := ⟨[.v (.int .u8 form), .v (.int .u8 len), .v (.int .u8 speed), .v (.int .u16 mute), .v (.int .u16 wait), .v (.int .u8 cancel), .v (.int .u8 stay), .v (.int .u8 jn), .one], 25, 1⟩) rfl rfl, row_no (o := ⟨[.v (.slice none 0 0), .v (.slice none 0 0), .v (.slice none 0 0), .v (.slice none 0 0), .v (.slice none 0 0), .i 0, .i 0, .i 0, .i 0, .i 0], 39, 1⟩) rfl rfl, row_no (o := ⟨(enc eSec (mkSecsK form len k2)), 102, 3⟩) rfl rfl, row_map (o := ⟨(enc eIL (partD jn (k3 + 1)) ++ [.q eI (partD.partT jn (k3 + 1)), .sl 64 0 1]), 48, 1⟩) rfl (by rw [hD, hT, enc_snoc, List.append_assoc]; exact (om_ (lm_append lm_no (lm_cons (am_no (a := .q eI (partD.partT jn (k3 + 1)))) (lm_cons rfl lm_nil))))) (oks_append oks_no (oks_cons (ok_no (a := .q eI (partD.partT jn (k3 + 1)))) (oks_cons (.sl _ _ _ (by simp)) oks_nil))), row_no (o := ⟨[.i ((k3 + 1 : Nat) : Int)], 3, 1⟩) rfl (by rw [hT]; rfl), trivial⟩ (sr_same 12 (.i (((k3 + 1) + 1 : Nat) : Int)) rfl NoI.out (sr_same 7 (.q ePr (mkEnds form)) rfl NoI.out (sr_map 6 (.pt 1 0) (by first | exact Ok.sl _ _ _ (by first | decide | simp) | exact Ok.pt _ _ (by first | decide | simp)) rfl (sr_same 3 (.i (10 * (1 + (len % 20)))) rfl NoI.out (sr_map 2 (.pt 3 0) (by first | exact Ok.sl _ _ _ (by first | decide | simp) | exact Ok.pt _ _ (by first | decide | simp)) rfl (sr_map 1 (.pt 2 0) (by first | exact Ok.sl _ _ _ (by first | decide | simp) | exact Ok.pt _ _ (by first | decide | simp)) rfl sr_none))))))) (keep_of rfl)
  ·skip
   have hf28 := of_decide_eq_false hc8
   have hk3 : k3 + 1 = (mkEnds form).length := by omega
   have hmb := modB (a := speed) (b := 2 * (10 * (1 + len % 20))) (by omega)
   refine awp_exit ?_
   refine seqR ?_
   refine fG (.pt 2 2) ft25_2 sz5 ?_
   refine opG rfl (aop_ld (av := .v (.int .u8 speed)) rfl rfl rfl ag5 rfl rfl ?_)
   refine opG rfl (aop_conv' rfl rfl rfl ut5 ut3 rfl (IntWalk.i64_in _ (by omega)) ?_)
   refine mG (.i (10 * (1 + (len % 20)))) ?_
   refine opG rfl (aop_binI (u := (.int .i64 (2 * (10 * (1 + (len % 20)))))) rfl rfl rfl rfl rfl trivial (mulI (by omega)) ?_)
   refine opG rfl (aop_binI (u := (.int .i64 (speed % (2 * (10 * (1 + (len % 20))))))) rfl rfl rfl rfl rfl (by show _ ≠ _; omega) (remI (by omega)) ?_)
   refine opG rfl (aop_binI (u := (.int .i64 (1 + (speed % (2 * (10 * (1 + (len % 20)))))))) rfl rfl rfl rfl rfl trivial (addI (by omega)) ?_)
   refine fG (.pt 1 5) ft39_5 sz3 ?_
   refine opG rfl (aop_store rfl rfl rfl sz3 rfl rfl rfl rfl rfl (Nat.le_of_ble_eq_true rfl) rfl rfl ?_)
   refine op0 ?_
   refine rs_ (upd (upd (upd none_ 1 (.pt 2 0)) 2 (.pt 3 0)) 6 (.pt 1 0)) (updO (updO (updO (updO (updO (updO (updO noOb 1 (.live ⟨[.one, .sl 4 0 ((mkSecsK form len k2).length), .sl 5 0 (partN jn k3), .q ePnt (mkPts form), .v (.slice none 0 0), .i 0, .i 0, .i 0, .i 0, .i 0], 39, 1⟩)) 2 (.live ⟨[.v (.int .u8 form), .v (.int .u8 len), .v (.int .u8 speed), .v (.int .u16 mute), .v (.int .u16 wait), .v (.int .u8 cancel), .v (.int .u8 stay), .v (.int .u8 jn), .one], 25, 1⟩)) 3 (.live ⟨[.v (.slice none 0 0), .v (.slice none 0 0), .v (.slice none 0 0), .v (.slice none 0 0), .v (.slice none 0 0), .i 0, .i 0, .i 0, .i 0, .i 0], 39, 1⟩)) 4 (.live ⟨(enc eSec (mkSecsK form len k2)), 102, 3⟩)) 5 (.live ⟨(enc eIL (partD jn (k3 + 1)) ++ [.sl 6 0 ((partD.partT jn (k3 + 1)).length)]), 48, 1⟩)) 6 (.live ⟨(enc eI (partD.partT jn (k3 + 1))), 3, 1⟩)) 1 (.live ⟨[.one, .sl 4 0 ((mkSecsK form len k2).length), .sl 5 0 (partN jn k3), .q ePnt (mkPts form), .v (.slice none 0 0), .i (1 + (speed % (2 * (10 * (1 + (len % 20)))))), .i 0, .i 0, .i 0, .i 0], 39, 1⟩)) (lu rfl (lu rfl (lu rfl ln))) rfl ?_
   refine awp_seq ?_
   refine awp_drawY (m := 26) (fun b => (updO (updO (updO (updO (updO (updO (updO noOb 1 (.live ⟨[.one, .sl 4 0 ((mkSecsK form len k2).length), .sl 5 0 (partN jn k3), .q ePnt (mkPts form), .v (.slice none 0 0), .i 0, .i 0, .i 0, .i 0, .i 0], 39, 1⟩)) 2 (.live ⟨[.v (.int .u8 form), .v (.int .u8 len), .v (.int .u8 speed), .v (.int .u16 mute), .v (.int .u16 wait), .v (.int .u8 cancel), .v (.int .u8 stay), .v (.int .u8 jn), .one], 25, 1⟩)) 3 (.live ⟨[.v (.slice none 0 0), .v (.slice none 0 0), .v (.slice none 0 0), .v (.slice none 0 0), .v (.slice none 0 0), .i 0, .i 0, .i 0, .i 0, .i 0], 39, 1⟩)) 4 (.live ⟨(enc eSec (mkSecsK form len k2)), 102, 3⟩)) 5 (.live ⟨(enc eIL (partD jn (k3 + 1)) ++ [.sl 6 0 ((partD.partT jn (k3 + 1)).length)]), 48, 1⟩)) 6 (.live ⟨(enc eI (partD.partT jn (k3 + 1))), 3, 1⟩)) 1 (.live ⟨[.one, .sl 4 0 ((mkSecsK form len k2).length), .sl 5 0 (partN jn k3), .q ePnt (mkPts form), .v (.slice none 0 0), .i (1 + (speed % (2 * (10 * (1 + (len % 20)))))), (cond (b 19) (.i (1 + (mute % 1000))) (.i 0)), (cond (b 21) (.i (1 + (wait % 1000))) (.i 0)), (cond (b 23) (.i (1 + cancel)) (.i 0)), (cond (b 25) (.i (stay % 4)) (.i 0))], 39, 1⟩))) (updO (updO (updO (updO (updO (updO (updO noOb 1 (.live ⟨[.one, .sl 4 0 ((mkSecsK form len k2).length), .sl 5 0 (partN jn k3), .q ePnt (mkPts form), .v (.slice none 0 0), .i 0, .i 0, .i 0, .i 0, .i 0], 39, 1⟩)) 2 (.live ⟨[.v (.int .u8 form), .v (.int .u8 len), .v (.int .u8 speed), .v (.int .u16 mute), .v (.int .u16 wait), .v (.int .u8 cancel), .v (.int .u8 stay), .v (.int .u8 jn), .one], 25, 1⟩)) 3 (.live ⟨[.v (.slice none 0 0), .v (.slice none 0 0), .v (.slice none 0 0), .v (.slice none 0 0), .v (.slice none 0 0), .i 0, .i 0, .i 0, .i 0, .i 0], 39, 1⟩)) 4 (.live ⟨(enc eSec (mkSecsK form len k2)), 102, 3⟩)) 5 (.live ⟨(enc eIL (partD jn (k3 + 1)) ++ [.sl 6 0 ((partD.partT jn (k3 + 1)).length)]), 48, 1⟩)) 6 (.live ⟨(enc eI (partD.partT jn (k3 + 1))), 3, 1⟩)) 1 (.live ⟨[.one, .sl 4 0 ((mkSecsK form len k2).length), .sl 5 0 (partN jn k3), .q ePnt (mkPts form), .v (.slice none 0 0), .i (1 + (speed % (2 * (10 * (1 + (len % 20)))))), .i (1 + (mute % 1000)), .i (1 + (wait % 1000)), .i (1 + cancel), .i (stay % 4)], 39, 1⟩)) [19, 21, 23, 25] rfl (fun b b' h => by simp only [h 19 (by decide), h 21 (by decide), h 23 (by decide), h 25 (by decide)]) (fun b h => by simp only [h 19 (by decide), h 21 (by decide), h 23 (by decide), h 25 (by decide), cond_true]) [(248, .pt 1 9), (247, .pt 1 8), (246, .pt 1 7), (245, .pt 1 6), (244, .i (stay % 4)), (243, .v (.int .u8 (stay % 4))), (242, .v (.int .u8 stay)), (241, .pt 2 6), (240, .i (1 + cancel)), (239, .i cancel), (238, .v (.int .u8 cancel)), (237, .pt 2 5), (236, .i (1 + (wait % 1000))), (235, .i (wait % 1000)), (234, .v (.int .u16 (wait % 1000))), (233, .v (.int .u16 wait)), (232, .pt 2 4), (231, .i (1 + (mute % 1000))), (230, .i (mute % 1000)), (229, .v (.int .u16 (mute % 1000))), (228, .v (.int .u16 mute)), (227, .pt 2 3)] mixed (by kernel_rfl) ?_ ?_
   ·refine ⟨?_, ?_, ?_, ?_, ?_, ?_, ?_, ?_, ?_, ?_, ?_, ?_, ?_, ?_, ?_, ?_, ?_, ?_, ?_, ?_, ?_, ?_, ?_, ?_, ?_, ?_, trivial⟩
    ·exact sy_pure (by decide) (fun b => ⟨227, rfl, blt_lt rfl, fun st hob hE => aop_fieldAddr (av := .pt 2 0) (av' := .pt 2 3) rfl rfl rfl ft25_3 sz22 (hE 1 rfl) rfl rfl (by rw [hob]; rfl)⟩)
    ·exact sy_pure (by decide) (fun b => ⟨228, rfl, blt_lt rfl, fun st hob hE => aop_ld (av := .v (.int .u16 mute)) rfl rfl rfl ag22 (hE 227 rfl) (by rw [hob]; rfl) (by rw [hob]; rfl)⟩)
    ·exact sy_pure (by decide) (fun b => ⟨229, rfl, blt_lt rfl, fun st hob hE => aop_binI (u := (.int .u16 (mute % 1000))) rfl rfl rfl (hE 228 rfl) rfl (by show _ ≠ _; decide) (remI (by omega)) (by rw [hob]; rfl)⟩)
    ·exact sy_pure (by decide) (fun b => ⟨230, rfl, blt_lt rfl, fun st hob hE => aop_conv' rfl rfl rfl ut22 ut2 (hE 229 rfl) (IntWalk.i64_in _ (by omega)) (by rw [hob]; rfl)⟩)
    ·exact sy_pure (by decide) (fun b => ⟨231, rfl, blt_lt rfl, fun st hob hE => aop_binI (u := (.int .i64 (1 + (mute % 1000)))) rfl rfl rfl rfl (hE 230 rfl) trivial (addI (by omega)) (by rw [hob]; rfl)⟩)
    ·exact sy_pure (by decide) (fun b => ⟨232, rfl, blt_lt rfl, fun st hob hE => aop_fieldAddr (av := .pt 2 0) (av' := .pt 2 4) rfl rfl rfl ft25_4 sz22 (hE 1 rfl) rfl rfl (by rw [hob]; rfl)⟩)
    ·exact sy_pure (by decide) (fun b => ⟨233, rfl, blt_lt rfl, fun st hob hE => aop_ld (av := .v (.int .u16 wait)) rfl rfl rfl ag22 (hE 232 rfl) (by rw [hob]; rfl) (by rw [hob]; rfl)⟩)
    ·exact sy_pure (by decide) (fun b => ⟨234, rfl, blt_lt rfl, fun st hob hE => aop_binI (u := (.int .u16 (wait % 1000))) rfl rfl rfl (hE 233 rfl) rfl (by show _ ≠ _; decide) (remI (by omega)) (by rw [hob]; rfl)⟩)
    ·exact sy_pure (by decide) (fun b => ⟨235, rfl, blt_lt rfl, fun st hob hE => aop_conv' rfl rfl rfl ut22 ut2 (hE 234 rfl) (IntWalk.i64_in _ (by omega)) (by rw [hob]; rfl)⟩)
    ·exact sy_pure (by decide) (fun b => ⟨236, rfl, blt_lt rfl, fun st hob hE => aop_binI (u := (.int .i64 (1 + (wait % 1000)))) rfl rfl rfl rfl (hE 235 rfl) trivial (addI (by omega)) (by rw [hob]; rfl)⟩)
    ·exact sy_pure (by decide) (fun b => ⟨237, rfl, blt_lt rfl, fun st hob hE => aop_fieldAddr (av := .pt 2 0) (av' := .pt 2 5) rfl rfl rfl ft25_5 sz5 (hE 1 rfl) rfl rfl (by rw [hob]; rfl)⟩)
    ·exact sy_pure (by decide) (fun b => ⟨238, rfl, blt_lt rfl, fun st hob hE => aop_ld (av := .v (.int .u8 cancel)) rfl rfl rfl ag5 (hE 237 rfl) (by rw [hob]; rfl) (by rw [hob]; rfl)⟩)
    ·exact sy_pure (by decide) (fun b => ⟨239, rfl, blt_lt rfl, fun st hob hE => aop_conv' rfl rfl rfl ut5 ut2 (hE 238 rfl) (IntWalk.i64_in _ (by omega)) (by rw [hob]; rfl)⟩)
    ·exact sy_pure (by decide) (fun b => ⟨240, rfl, blt_lt rfl, fun st hob hE => aop_binI (u := (.int .i64 (1 + cancel))) rfl rfl rfl rfl (hE 239 rfl) trivial (addI (by omega)) (by rw [hob]; rfl)⟩)
    ·exact sy_pure (by decide) (fun b => ⟨241, rfl, blt_lt rfl, fun st hob hE => aop_fieldAddr (av := .pt 2 0) (av' := .pt 2 6) rfl rfl rfl ft25_6 sz5 (hE 1 rfl) rfl rfl (by rw [hob]; rfl)⟩)
    ·exact sy_pure (by decide) (fun b => ⟨242, rfl, blt_lt rfl, fun st hob hE => aop_ld (av := .v (.int .u8 stay)) rfl rfl rfl ag5 (hE 241 rfl) (by rw [hob]; rfl) (by rw [hob]; rfl)⟩)
    ·exact sy_pure (by decide) (fun b => ⟨243, rfl, blt_lt rfl, fun st hob hE => aop_binI (u := (.int .u8 (stay % 4))) rfl rfl rfl (hE 242 rfl) rfl (by show _ ≠ _; decide) (remI (by omega)) (by rw [hob]; rfl)⟩)
    ·exact sy_pure (by decide) (fun b => ⟨244, rfl, blt_lt rfl, fun st hob hE => aop_conv' rfl rfl rfl ut5 ut2 (hE 243 rfl) (IntWalk.i64_in _ (by omega)) (by rw [hob]; rfl)⟩)
    ·exact sy_pure (by decide) (fun b => ⟨245, rfl, blt_lt rfl, fun st hob hE => aop_fieldAddr (av := .pt 1 0) (av' := .pt 1 6) rfl rfl rfl ft39_6 sz2 (hE 6 rfl) rfl rfl (by rw [hob]; rfl)⟩)
    ·exact sy_fx (by decide) ⟨rfl, rfl, fun b hb st hob hE => by obtain ⟨en_, ob_⟩ := st; have hob_ : ob_ = _ := hob; subst hob_; exact aop_store (av := .i (1 + (mute % 1000))) (cs := [.i (1 + (mute % 1000))]) rfl rfl rfl sz2 (hE 245 rfl) rfl (hE 231 rfl) rfl rfl (Nat.le_of_ble_eq_true rfl) rfl rfl ⟨rfl, updO_pt rfl (fun j hj => by have hb1 := nbeq_ne hj; simp only [updO, hb1, cond_false])⟩⟩
    ·exact sy_pure (by decide) (fun b => ⟨246, rfl, blt_lt rfl, fun st hob hE => aop_fieldAddr (av := .pt 1 0) (av' := .pt 1 7) rfl rfl rfl ft39_7 sz2 (hE 6 rfl) rfl rfl (by rw [hob]; rfl)⟩)
    ·exact sy_fx (by decide) ⟨rfl, rfl, fun b hb st hob hE => by obtain ⟨en_, ob_⟩ := st; have hob_ : ob_ = _ := hob; subst hob_; exact aop_store (av := .i (1 + (wait % 1000))) (cs := [.i (1 + (wait % 1000))]) rfl rfl rfl sz2 (hE 246 rfl) rfl (hE 236 rfl) rfl rfl (Nat.le_of_ble_eq_true rfl) rfl rfl ⟨rfl, updO_pt rfl (fun j hj => by have hb1 := nbeq_ne hj; simp only [updO, hb1, cond_false])⟩⟩
    ·exact sy_pure (by decide) (fun b => ⟨247, rfl, blt_lt rfl, fun st hob hE => aop_fieldAddr (av := .pt 1 0) (av' := .pt 1 8) rfl rfl rfl ft39_8 sz2 (hE 6 rfl) rfl rfl (by rw [hob]; rfl)⟩)
    ·exact sy_fx (by decide) ⟨rfl, rfl, fun b hb st hob hE => by obtain ⟨en_, ob_⟩ := st; have hob_ : ob_ = _ := hob; subst hob_; exact aop_store (av := .i (1 + cancel)) (cs := [.i (1 + cancel)]) rfl rfl rfl sz2 (hE 247 rfl) rfl (hE 240 rfl) rfl rfl (Nat.le_of_ble_eq_true rfl) rfl rfl ⟨rfl, updO_pt rfl (fun j hj => by have hb1 := nbeq_ne hj; simp only [updO, hb1, cond_false])⟩⟩
    ·exact sy_pure (by decide) (fun b => ⟨248, rfl, blt_lt rfl, fun st hob hE => aop_fieldAddr (av := .pt 1 0) (av' := .pt 1 9) rfl rfl rfl ft39_9 sz2 (hE 6 rfl) rfl rfl (by rw [hob]; rfl)⟩)
    ·exact sy_fx (by decide) ⟨rfl, rfl, fun b hb st hob hE => by obtain ⟨en_, ob_⟩ := st; have hob_ : ob_ = _ := hob; subst hob_; exact aop_store (av := .i (stay % 4)) (cs := [.i (stay % 4)]) rfl rfl rfl sz2 (hE 248 rfl) rfl (hE 244 rfl) rfl rfl (Nat.le_of_ble_eq_true rfl) rfl rfl ⟨rfl, updO_pt rfl (fun j hj => by have hb1 := nbeq_ne hj; simp only [updO, hb1, cond_false])⟩⟩
   refine op0 ?_
   refine seqR ?_
   refine opG rfl (aop_ldB (cells' := [.one, .sl 4 0 ((mkSecsK form len k2).length), .sl 5 0 (partN jn k3), .q ePnt (mkPts form), .v (.slice none 0 0), .i (1 + (speed % (2 * (10 * (1 + (len % 20)))))), .i (1 + (mute % 1000)), .i (1 + (wait % 1000)), .i (1 + cancel), .i (stay % 4)]) rfl rfl rfl ag39 sz39 rfl rfl rfl rfl ?_)
   refine opG rfl (aop_store rfl rfl rfl sz39 rfl rfl rfl rfl rfl (Nat.le_of_ble_eq_true rfl) rfl rfl ?_)
   refine op0 ?_
   refine awp_imp _ ((frz_ [3] [(3, ⟨[.one, .q eSec (mkSecsK form len k2), .ro (partN jn k3) (enc eIL (partD jn (k3 + 1)) ++ [.q eI (partD.partT jn (k3 + 1))]), .q ePnt (mkPts form), .v (.slice none 0 0), .i (1 + (speed % (2 * (10 * (1 + (len % 20)))))), .i (1 + (mute % 1000)), .i (1 + (wait % 1000)), .i (1 + cancel), .i (stay % 4)], 39, 1⟩)] rfl (fun _ h => h) ⟨keep_cells (cs := [.one, .sl 4 0 ((mkSecsK form len k2).length), .sl 5 0 (partN jn k3), .q ePnt (mkPts form), .v (.slice none 0 0), .i (1 + (speed % (2 * (10 * (1 + (len % 20)))))), .i (1 + (mute % 1000)), .i (1 + (wait % 1000)), .i (1 + cancel), .i (stay % 4)]) (by simp) rfl rfl (frzs_cons (.inl rfl) (frzs_cons (.inr (lend_s (id := 4) (n := (mkSecsK form len k2).length) (o := ⟨(enc eSec (mkSecsK form len k2)), 102, 3⟩) rfl (enc_len (fun _ => rfl) (by first | rfl | (simp; done))))) (frzs_cons (.inr (lend_last (id := 5) (j := 6) (pre := enc eIL (partD jn (k3 + 1))) (cs := (enc eI (partD.partT jn (k3 + 1)))) rfl rfl (enc_len (fun _ => rfl) rfl) (by simp [enc_length (f := eIL) (s := 1) (fun _ => rfl), partN]))) (frzs_cons (.inl rfl) (frzs_cons (.inl rfl) (frzs_cons (.inl rfl) (frzs_cons (.inl rfl) (frzs_cons (.inl rfl) (frzs_cons (.inl rfl) (frzs_cons (.inl rfl) frzs_nil)))))))))), trivial⟩ (fz_same 2 (.pt 3 0) rfl fz_none))) ?_
   refine awp_ret ?_
   exact fretC (p := 2) rfl rfl ag39 sz39 rfl rfl (Nat.le_of_ble_eq_true rfl) rfl (by rw [mkSecs_end hk2, parts_len hk3, parts_enc hk3]; rfl)
theorem ag27 : aggT Try.prog 27 = some false := by kernel_rfl
theorem bd25 : bodied Try.prog 25 = true := by kernel_rfl
theorem ft39_4 : fieldT Try.prog 39 4 = some (36, 4) := by kernel_rfl
theorem sz27 : (Try.prog.info? 27).map (·.size) = some 1 := by kernel_rfl
theorem ag102 : aggT Try.prog 102 = some true := by kernel_rfl
theorem ag115 : aggT Try.prog 115 = some false := by kernel_rfl
theorem bd72 : bodied Try.prog 72 = true := by kernel_rfl
theorem bd80 : bodied Try.prog 80 = true := by kernel_rfl
theorem bd85 : bodied Try.prog 85 = true := by kernel_rfl
theorem bd86 : bodied Try.prog 86 = true := by kernel_rfl
theorem bd87 : bodied Try.prog 87 = true := by kernel_rfl
theorem bd88 : bodied Try.prog 88 = true := by kernel_rfl
theorem bd89 : bodied Try.prog 89 = true := by kernel_rfl
theorem bd90 : bodied Try.prog 90 = true := by kernel_rfl
theorem bd91 : bodied Try.prog 91 = true := by kernel_rfl
theorem bd92 : bodied Try.prog 92 = true := by kernel_rfl
theorem bd93 : bodied Try.prog 93 = true := by kernel_rfl
theorem bd94 : bodied Try.prog 94 = true := by kernel_rfl
theorem bd95 : bodied Try.prog 95 = true := by kernel_rfl
theorem ft121_0 : fieldT Try.prog 121 0 = some (39, 0) := by kernel_rfl
theorem iz115 : (Try.prog.info? 115).map (fun i => (i.zero, i.size)) = some (some (.slice none 0 0), 1) := by kernel_rfl
theorem sz115 : (Try.prog.info? 115).map (·.size) = some 1 := by kernel_rfl
theorem ut159 : Try.prog.underlying 159 = some (.slice 115) := by kernel_rfl
theorem ut78 : Try.prog.underlying 78 = some (.pointer 121) := by kernel_rfl
theorem ze102 : (Try.prog.info? 102).bind (·.zero) = some (.agg #[(.int .i64 0), (.int .i64 0), (.int .i64 0)]) := by kernel_rfl
theorem g_section (secs : List Sec) (s : Int) (hs : secs.length ≤ 65536) : Fn Try.prog 92 [.rp [.one, .ro secs.length (enc eSec secs), .one, .one, .one, .one, .one, .one, .one, .one], .v (.int .i64 s)] (.tup [.agg [.v (.int .i64 ((secV secs s).len)), .v (.int .i64 ((secV secs s).a)), .v (.int .i64 ((secV secs s).b))], .v (.bool (!noSec secs s))]) := by
 refine fnC_of_body (N := 31) Try.func92 rfl rfl (by simp) (fun w0 X hL_ => ?_)
 refine seqR ?_
 refine opG rfl (aop_alloc 51 rfl rfl rfl rfl ze102 rfl ?_)
 refine mG (.b false) ?_
 refine op0 ?_
 refine awp_seq ?_
 refine seqR ?_
 refine mG (.rp [.one, .q eSec secs, .one, .one, .one, .one, .one, .one, .one, .one]) ?_
 refine opG rfl (aop_ptNil rfl rfl rfl ut78 rfl rfl rfl (.inl ⟨rfl, rfl⟩) ?_)
 refine mG (.b false) ?_
 refine opY rfl rfl rfl rfl (aop_move (av := .i s) (.inl rfl) rfl rfl rfl ?_)
 refine opY rfl rfl rfl rfl (aop_binI (u := (.bool (decide (s < 0)))) rfl rfl rfl rfl rfl trivial rfl ?_)
 refine opG rfl (aop_pick (b := false) (av := .b (decide (s < 0))) rfl rfl rfl rfl rfl ?_)
 refine mG (.b (decide (s < 0))) ?_
 refine aops_grp 9 21 (.b ((decide (s < 0)) || (decide (s ≥ (secs.length : Int))))) ?_ ?_
 ·refine (Bool.eq_false_or_eq_true (decide (s < 0))).elim (fun hg1 => ?_) (fun hg1 => ?_)
  ·skip
   have hf2 := of_decide_eq_true hg1
   refine nG hg1 ?_
   refine nG hg1 ?_
   refine nG hg1 ?_
   refine nG hg1 ?_
   refine nG hg1 ?_
   refine nG hg1 ?_
   refine nG hg1 ?_
   refine nG hg1 ?_
   refine opG rfl (aop_pick (b := (decide (s < 0))) (av := .b true) rfl rfl rfl rfl ((congrArg (fun b_ => cond b_ _ _) hg1).trans rfl) ?_)
   refine op0 ?_
   exact imp_env (lee_both 21 _ _ (by rw [hg1] <;> rfl) (lee_out 20 _ rfl (lee_out 19 _ rfl (lee_out 18 _ rfl (lee_out 17 _ rfl (lee_out 16 _ rfl (lee_out 15 _ rfl (lee_out 14 _ rfl (lee_out 13 _ rfl (lee_same _))))))))))
  ·skip
   have hf3 := of_decide_eq_false hg1
   refine opY rfl rfl rfl (by show AV.v (.bool (decide (s < 0))) = _; rw [hg1]) (aop_move (av := .i s) (.inl rfl) rfl rfl rfl ?_)
   refine opY rfl rfl rfl (by show AV.v (.bool (decide (s < 0))) = _; rw [hg1]) (aop_move (av := .rp [.one, .q eSec secs, .one, .one, .one, .one, .one, .one, .one, .one]) (.inl rfl) rfl rfl rfl ?_)
   refine opY rfl rfl rfl (by show AV.v (.bool (decide (s < 0))) = _; rw [hg1]) (aop_nilCheck rfl rfl rfl rfl rfl ?_)
   refine opY rfl rfl rfl (by show AV.v (.bool (decide (s < 0))) = _; rw [hg1]) (aop_fieldAddr (av := .rp [.one, .q eSec secs, .one, .one, .one, .one, .one, .one, .one, .one]) (av' := .rp [.one, .q eSec secs, .one, .one, .one, .one, .one, .one, .one, .one]) rfl rfl rfl ft121_0 sz39 rfl rfl rfl ?_)
   refine opY rfl rfl rfl (by show AV.v (.bool (decide (s < 0))) = _; rw [hg1]) (aop_fieldAddr (av := .rp [.one, .q eSec secs, .one, .one, .one, .one, .one, .one, .one, .one]) (av' := .rp [.q eSec secs, .one, .one, .one, .one, .one, .one, .one, .one]) rfl rfl rfl ft39_1 sz35 rfl rfl rfl ?_)
   refine opY rfl rfl rfl (by show AV.v (.bool (decide (s < 0))) = _; rw [hg1]) (aop_ld (av := .q eSec secs) rfl rfl rfl ag35 rfl rfl ?_)
   refine opY rfl rfl rfl (by show AV.v (.bool (decide (s < 0))) = _; rw [hg1]) (aop_len rfl rfl rfl rfl ut35 (len_ro rfl) ?_)
   refine opY rfl rfl rfl (by show AV.v (.bool (decide (s < 0))) = _; rw [hg1]) (aop_binI (u := (.bool (decide (s ≥ (secs.length : Int))))) rfl rfl rfl rfl rfl trivial rfl ?_)
   refine opG rfl (aop_pick (b := (decide (s < 0))) (av := .b (decide (s ≥ (secs.length : Int)))) rfl rfl rfl rfl ((congrArg (fun b_ => cond b_ _ _) hg1).trans rfl) ?_)
   refine op0 ?_
   exact imp_env (lee_both 21 _ _ (by rw [hg1] <;> rfl) (lee_out 20 _ rfl (lee_out 19 _ rfl (lee_out 18 _ rfl (lee_out 17 _ rfl (lee_out 16 _ rfl (lee_out 15 _ rfl (lee_out 14 _ rfl (lee_out 13 _ rfl (lee_same _))))))))))
 refine op0 ?_
 refine rs_ (upd (upd (upd (upd (upd none_ 0 (.rp [.one, .q eSec secs, .one, .one, .one, .one, .one, .one, .one, .one])) 1 (.i s)) 4 (.pt 51 0)) 5 (.b false)) 21 (.b ((decide (s < 0)) || (decide (s ≥ (secs.length : Int)))))) (updO noOb 51 (.live ⟨[.i 0, .i 0, .i 0], 102, 1⟩)) (lu rfl (lu rfl (lu rfl (lu rfl (lu rfl ln))))) rfl ?_
 refine awp_cond ((decide (s < 0)) || (decide (s ≥ (secs.length : Int)))) rfl rfl (fun hc0 => ?_) (fun hc0 => ?_)
 ·skip
  have hn : noSec secs s = true := hc0
  refine seqR ?_
  refine opG rfl (aop_build rfl rfl rfl pl102 rfl ?_)
  refine opG rfl (aop_store rfl rfl rfl sz102 rfl rfl rfl rfl rfl (Nat.le_of_ble_eq_true rfl) rfl rfl ?_)
  refine mG (.b false) ?_
  refine op0 ?_
  refine awp_imp _ ((frz_ [51] [(51, ⟨[.i 0, .i 0, .i 0], 102, 1⟩)] rfl (fun _ h => h) ⟨keep_cells (cs := [.i 0, .i 0, .i 0]) (by simp) rfl rfl (frzs_cons (.inl rfl) (frzs_cons (.inl rfl) (frzs_cons (.inl rfl) frzs_nil))), trivial⟩ (fz_same 5 (.b false) rfl (fz_same 4 (.pt 51 0) rfl fz_none)))) ?_
  refine awp_ret ?_
  exact fretC2 (p := 4) (q := 5) rfl rfl ag102 sz102 rfl rfl (Nat.le_of_ble_eq_true rfl) rfl rfl rfl (by rw [secV_no hn, hn]; rfl)
 ·skip
  obtain ⟨hf4a, hf4b⟩ := or_f hc0
  have hf5 := of_decide_eq_false hf4a
  have hf6 := of_decide_eq_false hf4b
  have hn : noSec secs s = false := hc0
  have hb := noSec_false hn
  refine awp_skip ?_
  refine seqR ?_
  refine mG (.rp [.one, .q eSec secs, .one, .one, .one, .one, .one, .one, .one, .one]) ?_
  refine opG rfl (aop_nilCheck rfl rfl rfl rfl rfl ?_)
  refine opG rfl (aop_fieldAddr (av := .rp [.one, .q eSec secs, .one, .one, .one, .one, .one, .one, .one, .one]) (av' := .rp [.one, .q eSec secs, .one, .one, .one, .one, .one, .one, .one, .one]) rfl rfl rfl ft121_0 sz39 rfl rfl rfl ?_)
  refine opG rfl (aop_fieldAddr (av := .rp [.one, .q eSec secs, .one, .one, .one, .one, .one, .one, .one, .one]) (av' := .rp [.q eSec secs, .one, .one, .one, .one, .one, .one, .one, .one]) rfl rfl rfl ft39_1 sz35 rfl rfl rfl ?_)
  refine opG rfl (aop_ld (av := .q eSec secs) rfl rfl rfl ag35 rfl rfl ?_)
  refine mG (.i s) ?_
  refine opG rfl (aop_ixI dS rfl rfl rfl ut35 sz102 rfl rfl (fun _ => rfl) rfl (by omega) (by first | omega | (simp; done) | decide | (simp at *; omega)) ?_)
  refine opG rfl (aop_ldB (cells' := [.i ((secs.getD s.toNat dS).len), .i ((secs.getD s.toNat dS).a), .i ((secs.getD s.toNat dS).b)]) rfl rfl rfl ag102 sz102 rfl rfl rfl rfl ?_)
  refine opG rfl (aop_store rfl rfl rfl sz102 rfl rfl rfl rfl rfl (Nat.le_of_ble_eq_true rfl) rfl rfl ?_)
  refine mG (.b true) ?_
  refine op0 ?_
  refine rs_ (upd (upd none_ 4 (.pt 51 0)) 5 (.b true)) (updO (updO noOb 51 (.live ⟨[.i 0, .i 0, .i 0], 102, 1⟩)) 51 (.live ⟨[.i ((secs.getD s.toNat dS).len), .i ((secs.getD s.toNat dS).a), .i ((secs.getD s.toNat dS).b)], 102, 1⟩)) (lu rfl (lu rfl ln)) rfl ?_
  refine awp_imp _ ((frz_ [51] [(51, ⟨[.i ((secs.getD s.toNat dS).len), .i ((secs.getD s.toNat dS).a), .i ((secs.getD s.toNat dS).b)], 102, 1⟩)] rfl (fun _ h => h) ⟨keep_cells (cs := [.i ((secs.getD s.toNat dS).len), .i ((secs.getD s.toNat dS).a), .i ((secs.getD s.toNat dS).b)]) (by simp) rfl rfl (frzs_cons (.inl rfl) (frzs_cons (.inl rfl) (frzs_cons (.inl rfl) frzs_nil))), trivial⟩ (fz_same 5 (.b true) rfl (fz_same 4 (.pt 51 0) rfl fz_none)))) ?_
  refine awp_ret ?_
  exact fretC2 (p := 4) (q := 5) rfl rfl ag102 sz102 rfl rfl (Nat.le_of_ble_eq_true rfl) rfl rfl rfl (by rw [secV_yes hn, hn]; rfl)
theorem g_node (secs : List Sec) (s e : Int) (hs : secs.length ≤ 65536) : Fn Try.prog 85 [.rp [.one, .ro secs.length (enc eSec secs), .one, .one, .one, .one, .one, .one, .one, .one], .agg [.v (.int .i64 s), .v (.int .i64 e)]] (.tup [.v (.int .i64 (nodeA secs s e)), .v (.bool (!noNode secs s e))]) := by
 refine fnE_of_body (N := 33) Try.func85 rfl rfl (resOf2 rfl) (by simp) (fun w0 X hL_ => ?_)
 refine seqR ?_
 refine opG rfl (aop_box 51 rfl rfl rfl rfl rfl rfl rfl ?_)
 refine mG (.i 0) ?_
 refine mG (.b false) ?_
 refine op0 ?_
 refine seqR ?_
 refine mG (.rp [.one, .q eSec secs, .one, .one, .one, .one, .one, .one, .one, .one]) ?_
 refine fG (.pt 51 0) ft114_0 sz3 ?_
 refine opG rfl (aop_ld (av := .i s) rfl rfl rfl ag3 rfl rfl ?_)
 refine opG rfl (call_ (g_section secs s (by first | omega | (simp; done) | decide | (simp at *; omega))) rfl rfl rfl rfl rfl bd92 rfl ?_)
 refine mG (.tup [.agg [.i ((secV secs s).len), .i ((secV secs s).a), .i ((secV secs s).b)], .b (!noSec secs s)]) ?_
 refine opG rfl (aop_extract rfl rfl rfl rfl rfl ?_)
 refine opG rfl (aop_extract rfl rfl rfl rfl rfl ?_)
 refine opG rfl (aop_alloc 52 rfl rfl rfl rfl ze102 rfl ?_)
 refine opG rfl (aop_store rfl rfl rfl sz102 rfl rfl rfl rfl rfl (Nat.le_of_ble_eq_true rfl) rfl rfl ?_)
 refine mG (.b (!noSec secs s)) ?_
 refine op0 ?_
 refine rs_ (upd (upd (upd (upd (upd none_ 3 (.pt 51 0)) 4 (.i 0)) 5 (.b false)) 6 (.pt 52 0)) 7 (.b (!noSec secs s))) (updO (updO (updO noOb 51 (.live ⟨[.i s, .i e], 114, 1⟩)) 52 (.live ⟨[.i 0, .i 0, .i 0], 102, 1⟩)) 52 (.live ⟨[.i ((secV secs s).len), .i ((secV secs s).a), .i ((secV secs s).b)], 102, 1⟩)) (lu rfl (lu rfl (lu rfl (lu rfl (lu rfl ln))))) rfl ?_
 refine awp_seq ?_
 refine awp_block ?_
 refine seqR ?_
 refine mG (.b (!noSec secs s)) ?_
 refine mG (.b (!noSec secs s)) ?_
 refine aops_grp 4 21 (.b ((!noSec secs s) && (e == 0))) ?_ ?_
 ·refine (Bool.eq_false_or_eq_true (!noSec secs s)).elim (fun hg1 => ?_) (fun hg1 => ?_)
  ·skip
   refine opY rfl rfl rfl (by show AV.v (.bool (!noSec secs s)) = _; rw [hg1]) (aop_fieldAddr (av := .pt 51 0) (av' := .pt 51 1) rfl rfl rfl ft114_1 sz3 rfl rfl rfl ?_)
   refine opY rfl rfl rfl (by show AV.v (.bool (!noSec secs s)) = _; rw [hg1]) (aop_ld (av := .i e) rfl rfl rfl ag3 rfl rfl ?_)
   refine opY rfl rfl rfl (by show AV.v (.bool (!noSec secs s)) = _; rw [hg1]) (aop_binI (u := (.bool (e == 0))) rfl rfl rfl rfl rfl trivial rfl ?_)
   refine opG rfl (aop_pick (b := (!noSec secs s)) (av := .b (e == 0)) rfl rfl rfl rfl ((congrArg (fun b_ => cond b_ _ _) hg1).trans rfl) ?_)
   refine op0 ?_
   exact imp_env (lee_both 21 _ _ (by rw [hg1] <;> rfl) (lee_out 20 _ rfl (lee_out 19 _ rfl (lee_out 18 _ rfl (lee_same _)))))
  ·skip
   refine nG hg1 ?_
   refine nG hg1 ?_
   refine nG hg1 ?_
   refine opG rfl (aop_pick (b := (!noSec secs s)) (av := .b false) rfl rfl rfl rfl ((congrArg (fun b_ => cond b_ _ _) hg1).trans rfl) ?_)
   refine op0 ?_
   exact imp_env (lee_both 21 _ _ (by rw [hg1] <;> rfl) (lee_out 20 _ rfl (lee_out 19 _ rfl (lee_out 18 _ rfl (lee_same _)))))
 refine mG (.b ((!noSec secs s) && (e == 0))) ?_
 refine op0 ?_
 refine awp_cond ((!noSec secs s) && (e == 0)) rfl rfl (fun hc0 => ?_) (fun hc0 => ?_)
 ·skip
  obtain ⟨hf2a, hf2b⟩ := and_t hc0
  have hf3 := (beq_iff_eq).1 hf2b
  have hq : noSec secs s = false ∧ e = 0 := by simpa using hc0
  have hn := node_0 hq.1 hq.2
  refine seqR ?_
  refine fG (.pt 52 1) ft102_1 sz3 ?_
  refine opG rfl (aop_ld (av := .i ((secV secs s).a)) rfl rfl rfl ag3 rfl rfl ?_)
  refine mG (.i ((secV secs s).a)) ?_
  refine mG (.b true) ?_
  refine op0 ?_
  refine rs_ (upd (upd none_ 4 (.i ((secV secs s).a))) 5 (.b true)) (updO (updO (updO noOb 51 (.live ⟨[.i s, .i e], 114, 1⟩)) 52 (.live ⟨[.i 0, .i 0, .i 0], 102, 1⟩)) 52 (.live ⟨[.i ((secV secs s).len), .i ((secV secs s).a), .i ((secV secs s).b)], 102, 1⟩)) (lu rfl (lu rfl ln)) rfl ?_
  refine awp_ret ?_
  exact fret (av := .tup [.v (.int .i64 ((secV secs s).a)), .v (.bool true)]) rfl rfl (by rw [hn.1, hn.2]; rfl)
 ·skip
  have hq : ¬ (noSec secs s = false ∧ e = 0) := by simpa using hc0
  refine seqR ?_
  refine mG (.b (!noSec secs s)) ?_
  refine mG (.b (!noSec secs s)) ?_
  refine aops_grp 4 30 (.b ((!noSec secs s) && (e == 1))) ?_ ?_
  ·refine (Bool.eq_false_or_eq_true (!noSec secs s)).elim (fun hg4 => ?_) (fun hg4 => ?_)
   ·skip
    refine opY rfl rfl rfl (by show AV.v (.bool (!noSec secs s)) = _; rw [hg4]) (aop_fieldAddr (av := .pt 51 0) (av' := .pt 51 1) rfl rfl rfl ft114_1 sz3 rfl rfl rfl ?_)
    refine opY rfl rfl rfl (by show AV.v (.bool (!noSec secs s)) = _; rw [hg4]) (aop_ld (av := .i e) rfl rfl rfl ag3 rfl rfl ?_)
    refine opY rfl rfl rfl (by show AV.v (.bool (!noSec secs s)) = _; rw [hg4]) (aop_binI (u := (.bool (e == 1))) rfl rfl rfl rfl rfl trivial rfl ?_)
    refine opG rfl (aop_pick (b := (!noSec secs s)) (av := .b (e == 1)) rfl rfl rfl rfl ((congrArg (fun b_ => cond b_ _ _) hg4).trans rfl) ?_)
    refine op0 ?_
    exact imp_env (lee_both 30 _ _ (by rw [hg4] <;> rfl) (lee_out 29 _ rfl (lee_out 28 _ rfl (lee_out 27 _ rfl (lee_same _)))))
   ·skip
    refine nG hg4 ?_
    refine nG hg4 ?_
    refine nG hg4 ?_
    refine opG rfl (aop_pick (b := (!noSec secs s)) (av := .b false) rfl rfl rfl rfl ((congrArg (fun b_ => cond b_ _ _) hg4).trans rfl) ?_)
    refine op0 ?_
    exact imp_env (lee_both 30 _ _ (by rw [hg4] <;> rfl) (lee_out 29 _ rfl (lee_out 28 _ rfl (lee_out 27 _ rfl (lee_same _)))))
  refine mG (.b ((!noSec secs s) && (e == 1))) ?_
  refine op0 ?_
  refine rs_ (upd (upd (upd (upd none_ 4 (.i 0)) 5 (.b false)) 6 (.pt 52 0)) 24 (.b ((!noSec secs s) && (e == 1)))) (updO (updO (updO noOb 51 (.live ⟨[.i s, .i e], 114, 1⟩)) 52 (.live ⟨[.i 0, .i 0, .i 0], 102, 1⟩)) 52 (.live ⟨[.i ((secV secs s).len), .i ((secV secs s).a), .i ((secV secs s).b)], 102, 1⟩)) (lu rfl (lu rfl (lu rfl (lu rfl ln)))) rfl ?_
  refine awp_cond ((!noSec secs s) && (e == 1)) rfl rfl (fun hc1 => ?_) (fun hc1 => ?_)
  ·skip
   obtain ⟨hf5a, hf5b⟩ := and_t hc1
   have hf6 := (beq_iff_eq).1 hf5b
   have hq1 : noSec secs s = false ∧ e = 1 := by simpa using hc1
   have hn := node_1 hq1.1 hq1.2
   refine seqR ?_
   refine fG (.pt 52 2) ft102_2 sz3 ?_
   refine opG rfl (aop_ld (av := .i ((secV secs s).b)) rfl rfl rfl ag3 rfl rfl ?_)
   refine mG (.i ((secV secs s).b)) ?_
   refine mG (.b true) ?_
   refine op0 ?_
   refine rs_ (upd (upd none_ 4 (.i ((secV secs s).b))) 5 (.b true)) (updO (updO (updO noOb 51 (.live ⟨[.i s, .i e], 114, 1⟩)) 52 (.live ⟨[.i 0, .i 0, .i 0], 102, 1⟩)) 52 (.live ⟨[.i ((secV secs s).len), .i ((secV secs s).a), .i ((secV secs s).b)], 102, 1⟩)) (lu rfl (lu rfl ln)) rfl ?_
   refine awp_ret ?_
   exact fret (av := .tup [.v (.int .i64 ((secV secs s).b)), .v (.bool true)]) rfl rfl (by rw [hn.1, hn.2]; rfl)
  ·skip
   have hq1 : ¬ (noSec secs s = false ∧ e = 1) := by simpa using hc1
   have hn := node_no (secs := secs) (s := s) (e := e) (by cases h : noSec secs s with | true => exact .inl rfl | false => exact .inr ⟨fun x => hq ⟨h, x⟩, fun x => hq1 ⟨h, x⟩⟩)
   refine awp_skip ?_
   refine seqR ?_
   refine mG (.i 0) ?_
   refine mG (.b false) ?_
   refine op0 ?_
   refine awp_ret ?_
   exact fret (av := .tup [.v (.int .i64 0), .v (.bool false)]) rfl rfl (by rw [hn.1, hn.2]; rfl)
theorem g_Point1 (x n : Int)  : Fn Try.prog 94 [.agg [.v (.int .i64 x), .one, .one, .one], .rp [.v (.int .i64 n)]] (.v (.bool (decide (x = n)))) := by
 refine fnE_of_body (N := 8) Try.func94 rfl rfl (resOf1 rfl) (by simp) (fun w0 X hL_ => ?_)
 refine seqR ?_
 refine opG rfl (aop_box 51 rfl rfl rfl rfl rfl rfl rfl ?_)
 refine mG (.b false) ?_
 refine op0 ?_
 refine seqR ?_
 refine fG (.pt 51 0) ft100_0 sz3 ?_
 refine opG rfl (aop_ld (av := .i x) rfl rfl rfl ag3 rfl rfl ?_)
 refine opG rfl (aop_ld (av := .i n) rfl rfl rfl ag3 rfl rfl ?_)
 refine bG ((.bool (x == n))) ?_
 refine mG (.b (x == n)) ?_
 refine op0 ?_
 refine rs_ (upd none_ 3 (.b (x == n))) (updO noOb 51 (.live ⟨[.i x, .one, .one, .one], 100, 1⟩)) (lu rfl ln) rfl ?_
 refine awp_ret ?_
 exact fret (av := .v (.bool (x == n))) rfl rfl (by rfl)
theorem ixPt (pts : List Pnt) (n : Int) (hp : pts.length ≤ 65536) : Fn Try.prog 93 [.ro pts.length (enc ePnt pts), .fn 94 [.rp [.v (.int .i64 n)]]] (.v (.int .i64 (pointI pts n))) := by
 refine fnE_of_body (N := 19) Try.func93 rfl rfl (resOf1 rfl) (by simp) (fun w0 X hL_ => ?_)
 refine seqR ?_
 refine mG (.i 0) ?_
 refine op0 ?_
 refine awp_seq ?_
 refine seqR ?_
 refine mG (.q ePnt pts) ?_
 refine opG rfl (aop_len rfl rfl rfl rfl ut37 (len_ro rfl) ?_)
 refine mG (.i 0) ?_
 refine op0 ?_
 refine rs_ (upd (upd (upd (upd (upd none_ 0 (.q ePnt pts)) 1 (.fn 94 [.rp [.i n]])) 4 (.i 0)) 7 (.i (pts.length : Int))) 8 (.i 0)) noOb (lu rfl (lu rfl (lu rfl (lu rfl (lu rfl ln))))) rfl ?_
 refine awp_block ?_
 refine awp_countI (fun k => ⟨(upd (upd (upd (upd (upd none_ 0 (.q ePnt pts)) 1 (.fn 94 [.rp [.i n]])) 4 (.i 0)) 7 (.i (pts.length : Int))) 8 (.i (k : Int))), noOb⟩) (fun k => (pts.take k).any (fun p => decide (p.node = n)) = false) (pts.length) ?_ (by simp) (fun k hk_k hinv => ?_)
 ·skip
  exact imp_ler [] (ler0 (sS rfl (sS rfl (sS rfl (sS rfl (sS rfl sr_none)))))) (keep_of rfl)
 refine seqR ?_
 refine bG ((.bool (decide ((k : Int) < (pts.length : Int))))) ?_
 refine op0 ?_
 refine awp_seq ?_
 refine awp_cond (decide ((k : Int) < (pts.length : Int))) rfl rfl (fun hc0 => ?_) (fun hc0 => ?_)
 ·skip
  have hf1 := of_decide_eq_true hc0
  refine awp_skip ?_
  refine awp_seq ?_
  refine awp_block ?_
  refine seqR ?_
  refine mG (.i (k : Int)) ?_
  refine mG (.i (k : Int)) ?_
  refine op0 ?_
  refine seqR ?_
  refine mG (.fn 94 [.rp [.i n]]) ?_
  refine mG (.q ePnt pts) ?_
  refine mG (.i (k : Int)) ?_
  refine opG rfl (aop_ixE dP rfl rfl rfl ut37 sz100 rfl rfl (fun _ => rfl) rfl (by first | omega | (simp; done) | decide | (simp at *; omega)) ?_)
  refine opG rfl (aop_ldB (cells' := [.i ((pts.getD k dP).node), .i ((pts.getD k dP).stem), .i ((pts.getD k dP).left), .i ((pts.getD k dP).right)]) rfl rfl rfl ag100 sz100 rfl rfl rfl rfl ?_)
  refine opG rfl (callW_ (g_Point1 ((pts.getD k dP).node) n) rfl rfl rfl rfl rfl bd94 (lends_cons (lend_agg (lends_cons (lend_n (av := .i ((pts.getD k dP).node))) (lends_cons (.one _ rfl) (lends_cons (.one _ rfl) (lends_cons (.one _ rfl) lends_nil))))) (lends_cons (lend_n (av := .rp [.i n])) lends_nil)) ?_)
  refine op0 ?_
  refine rs_ (upd (upd (upd (upd (upd (upd (upd none_ 0 (.q ePnt pts)) 1 (.fn 94 [.rp [.i n]])) 4 (.i 0)) 5 (.i (k : Int))) 7 (.i (pts.length : Int))) 8 (.i (k : Int))) 16 (.b (decide (((pts.getD k dP).node) = n)))) noOb (lu rfl (lu rfl (lu rfl (lu rfl (lu rfl (lu rfl (lu rfl ln))))))) rfl ?_
  refine awp_cond (decide (((pts.getD k dP).node) = n)) rfl rfl (fun hc1 => ?_) (fun hc1 => ?_)
  ·skip
   refine seqR ?_
   refine mG (.i (k : Int)) ?_
   refine mG (.i (k : Int)) ?_
   refine op0 ?_
   refine awp_ret ?_
   exact fret (av := .v (.int .i64 (k : Int))) rfl rfl (by unfold pointI; rw [idxB_stop dP (by omega) hinv hc1] <;> rfl)
  ·skip
   refine awp_skip ?_
   refine regR ?_
   refine opG rfl (aop_binI (u := (.int .i64 ((k + 1 : Nat) : Int))) rfl rfl rfl rfl rfl trivial (addN (by omega)) ?_)
   refine mG (.i ((k + 1 : Nat) : Int)) ?_
   refine op0 ?_
   show _ ∧ _
   refine ⟨by omega, (any_step dP (by omega) hinv hc1), ?_⟩
   exact imp_ler [] (ler0 (sS rfl (sS rfl (sS rfl (sS rfl (sS rfl sr_none)))))) (keep_of rfl)
 ·skip
  have hf2 := of_decide_eq_false hc0
  refine awp_exit ?_
  refine seqR ?_
  refine mG (.i (-1)) ?_
  refine op0 ?_
  refine awp_ret ?_
  exact fret (av := .v (.int .i64 (-1))) rfl rfl (by unfold pointI; rw [idxB_end (by omega) hinv] <;> rfl)
theorem g_Point (pts : List Pnt) (n : Int) (hp : pts.length ≤ 65536) : Fn Try.prog 86 [.rp [.one, .one, .one, .ro pts.length (enc ePnt pts), .one, .one, .one, .one, .one, .one], .v (.int .i64 n)] (.v (.int .i64 (pointI pts n))) := by
 refine fnE_of_body (N := 14) Try.func86 rfl rfl (resOf1 rfl) (by simp) (fun w0 X hL_ => ?_)
 refine seqR ?_
 refine opG rfl (aop_box 51 rfl rfl rfl rfl rfl rfl rfl ?_)
 refine mG (.i 0) ?_
 refine op0 ?_
 refine awp_seq ?_
 refine seqR ?_
 refine mG (.rp [.one, .one, .one, .q ePnt pts, .one, .one, .one, .one, .one, .one]) ?_
 refine opG rfl (aop_ptNil rfl rfl rfl ut78 rfl rfl rfl (.inl ⟨rfl, rfl⟩) ?_)
 refine op0 ?_
 refine rs_ (upd (upd (upd (upd none_ 0 (.rp [.one, .one, .one, .q ePnt pts, .one, .one, .one, .one, .one, .one])) 3 (.pt 51 0)) 4 (.i 0)) 6 (.b false)) (updO noOb 51 (.live ⟨[.i n], 3, 1⟩)) (lu rfl (lu rfl (lu rfl (lu rfl ln)))) rfl ?_
 refine awp_cond false rfl rfl (fun h => by cases h) (fun _ => ?_)
 refine awp_skip ?_
 refine seqR ?_
 refine mG (.rp [.one, .one, .one, .q ePnt pts, .one, .one, .one, .one, .one, .one]) ?_
 refine opG rfl (aop_nilCheck rfl rfl rfl rfl rfl ?_)
 refine opG rfl (aop_fieldAddr (av := .rp [.one, .one, .one, .q ePnt pts, .one, .one, .one, .one, .one, .one]) (av' := .rp [.one, .one, .one, .q ePnt pts, .one, .one, .one, .one, .one, .one]) rfl rfl rfl ft121_0 sz39 rfl rfl rfl ?_)
 refine opG rfl (aop_fieldAddr (av := .rp [.one, .one, .one, .q ePnt pts, .one, .one, .one, .one, .one, .one]) (av' := .rp [.q ePnt pts, .one, .one, .one, .one, .one, .one]) rfl rfl rfl ft39_3 sz37 rfl rfl rfl ?_)
 refine opG rfl (aop_ld (av := .q ePnt pts) rfl rfl rfl ag37 rfl rfl ?_)
 refine opG rfl (aop_makeFunc (caps := [.tmp 3]) rfl rfl rfl rfl ?_)
 refine opG rfl (callL_ (ixPt pts n hp) rfl rfl rfl rfl rfl bd93 (lends_cons (lend_n (av := .q ePnt pts)) (lends_cons (lend_fn (lends_cons (lend_pt rfl (lends_cons (lend_n (av := .i n)) lends_nil)) lends_nil)) lends_nil)) ?_)
 refine mG (.i (pointI pts n)) ?_
 refine op0 ?_
 refine rs_ (upd none_ 4 (.i (pointI pts n))) (updO noOb 51 (.live ⟨[.i n], 3, 1⟩)) (lu rfl ln) rfl ?_
 refine awp_ret ?_
 exact fret (av := .v (.int .i64 (pointI pts n))) rfl rfl rfl
theorem g_Ends (secs : List Sec) (n : Int) (hs : secs.length ≤ 65536) : FnO Try.prog 88 [.rp [.one, .ro secs.length (enc eSec secs), .one, .one, .one, .one, .one, .one, .one, .one], .v (.int .i64 n)] (.sl 0 0 ((endsL secs n).length)) [⟨(enc eEn (endsL secs n)), 114, 2⟩] := by
 refine fnE_of_body (N := 41) Try.func88 rfl rfl (resOf1 rfl) (by simp) (fun w0 X hL_ => ?_)
 refine seqR ?_
 refine mG (.v (.slice none 0 0)) ?_
 refine op0 ?_
 refine seqR ?_
 refine mG (.v (.slice none 0 0)) ?_
 refine op0 ?_
 refine seqR ?_
 refine mG (.i 0) ?_
 refine op0 ?_
 refine awp_block ?_
 refine awp_countI (fun k => ⟨(upd (upd (upd (upd (upd none_ 0 (.rp [.one, .q eSec secs, .one, .one, .one, .one, .one, .one, .one, .one])) 1 (.i n)) 4 (.v (.slice none 0 0))) 5 (.sl 1 0 ((endsK secs n k).length))) 6 (.i (k : Int))), (updO noOb 1 (.live ⟨(enc eEn (endsK secs n k)), 114, 2⟩))⟩) (fun k => k ≤ secs.length) (secs.length + 1) ?_ (Nat.zero_le _) (fun k hk_k hinv => ?_)
 ·skip
  refine (imp_adopt 5 51 114 2 rfl rfl).trans ?_
  exact imp_ler [(51, 1)] (lerI 51 1 (o := ⟨[], 114, 2⟩) rfl rfl (sS rfl (sM rfl (sS rfl (sS rfl (sS rfl sr_none)))))) (keep_of rfl)
 have hle := endsK_len secs n k
 refine awp_seq ?_
 refine awp_block ?_
 refine seqR ?_
 refine mG (.rp [.one, .q eSec secs, .one, .one, .one, .one, .one, .one, .one, .one]) ?_
 refine mG (.i (k : Int)) ?_
 refine opG rfl (call_ (g_section secs (k : Int) (by first | omega | (simp; done) | decide | (simp at *; omega))) rfl rfl rfl rfl rfl bd92 rfl ?_)
 refine mG (.tup [.agg [.i ((secV secs (k : Int)).len), .i ((secV secs (k : Int)).a), .i ((secV secs (k : Int)).b)], .b (!noSec secs (k : Int))]) ?_
 refine opG rfl (aop_extract rfl rfl rfl rfl rfl ?_)
 refine opG rfl (aop_extract rfl rfl rfl rfl rfl ?_)
 refine opG rfl (aop_alloc 52 rfl rfl rfl rfl ze102 rfl ?_)
 refine opG rfl (aop_store rfl rfl rfl sz102 rfl rfl rfl rfl rfl (Nat.le_of_ble_eq_true rfl) rfl rfl ?_)
 refine mG (.b (!noSec secs (k : Int))) ?_
 refine op0 ?_
 refine rs_ (upd (upd (upd (upd (upd (upd (upd none_ 0 (.rp [.one, .q eSec secs, .one, .one, .one, .one, .one, .one, .one, .one])) 1 (.i n)) 4 (.v (.slice none 0 0))) 5 (.sl 1 0 ((endsK secs n k).length))) 6 (.i (k : Int))) 7 (.pt 52 0)) 8 (.b (!noSec secs (k : Int)))) (updO (updO (updO noOb 1 (.live ⟨(enc eEn (endsK secs n k)), 114, 2⟩)) 52 (.live ⟨[.i 0, .i 0, .i 0], 102, 1⟩)) 52 (.live ⟨[.i ((secV secs (k : Int)).len), .i ((secV secs (k : Int)).a), .i ((secV secs (k : Int)).b)], 102, 1⟩)) (lu rfl (lu rfl (lu rfl (lu rfl (lu rfl (lu rfl (lu rfl ln))))))) rfl ?_
 refine awp_seq ?_
 refine seqR ?_
 refine mG (.b (!noSec secs (k : Int))) ?_
 refine opG rfl (aop_not rfl rfl rfl rfl ?_)
 refine op0 ?_
 refine awp_cond (!(!noSec secs (k : Int))) rfl rfl (fun hc0 => ?_) (fun hc0 => ?_)
 ·skip
  have hf1 := not_t hc0
  have hkn : k = secs.length := by rw [noSec_nat] at hc0; simp at hc0; omega
  refine seqR ?_
  refine mG (.sl 1 0 ((endsK secs n k).length)) ?_
  refine mG (.sl 1 0 ((endsK secs n k).length)) ?_
  refine op0 ?_
  refine rs_ (upd (upd (upd (upd (upd (upd (upd none_ 0 (.rp [.one, .q eSec secs, .one, .one, .one, .one, .one, .one, .one, .one])) 1 (.i n)) 4 (.sl 1 0 ((endsK secs n k).length))) 5 (.sl 1 0 ((endsK secs n k).length))) 6 (.i (k : Int))) 7 (.pt 52 0)) 8 (.b (!noSec secs (k : Int)))) (updO (updO (updO noOb 1 (.live ⟨(enc eEn (endsK secs n k)), 114, 2⟩)) 52 (.live ⟨[.i 0, .i 0, .i 0], 102, 1⟩)) 52 (.live ⟨[.i ((secV secs (k : Int)).len), .i ((secV secs (k : Int)).a), .i ((secV secs (k : Int)).b)], 102, 1⟩)) (lu rfl (lu rfl (lu rfl (lu rfl (lu rfl (lu rfl (lu rfl ln))))))) rfl ?_
  refine awp_ret ?_
  exact fretO 1 rfl rfl rfl (by rw [hkn]; rfl) (by rw [hkn]; rfl)
 ·skip
  have hf2 := not_f hc0
  have hkl : k < secs.length := by rw [noSec_nat] at hc0; simp at hc0; omega
  have hsv := secV_nat (secs := secs) hkl
  refine awp_skip ?_
  refine seqR ?_
  refine fG (.pt 52 1) ft102_1 sz3 ?_
  refine opG rfl (aop_ld (av := .i ((secV secs (k : Int)).a)) rfl rfl rfl ag3 rfl rfl ?_)
  refine fG (.pt 52 2) ft102_2 sz3 ?_
  refine opG rfl (aop_ld (av := .i ((secV secs (k : Int)).b)) rfl rfl rfl ag3 rfl rfl ?_)
  refine opG rfl (aop_build rfl rfl rfl pl98 rfl ?_)
  refine mG (.i 0) ?_
  refine op0 ?_
  refine rs_ (upd (upd (upd (upd (upd (upd (upd (upd (upd none_ 0 (.rp [.one, .q eSec secs, .one, .one, .one, .one, .one, .one, .one, .one])) 1 (.i n)) 4 (.v (.slice none 0 0))) 5 (.sl 1 0 ((endsK secs n k).length))) 6 (.i (k : Int))) 7 (.pt 52 0)) 8 (.b (!noSec secs (k : Int)))) 26 (.agg [.i ((secV secs (k : Int)).a), .i ((secV secs (k : Int)).b)])) 27 (.i 0)) (updO (updO (updO noOb 1 (.live ⟨(enc eEn (endsK secs n k)), 114, 2⟩)) 52 (.live ⟨[.i 0, .i 0, .i 0], 102, 1⟩)) 52 (.live ⟨[.i ((secV secs (k : Int)).len), .i ((secV secs (k : Int)).a), .i ((secV secs (k : Int)).b)], 102, 1⟩)) (lu rfl (lu rfl (lu rfl (lu rfl (lu rfl (lu rfl (lu rfl (lu rfl (lu rfl ln))))))))) rfl ?_
  refine awp_block ?_
  refine awp_countI (fun j => ⟨(upd (upd (upd (upd (upd (upd (upd (upd none_ 0 (.rp [.one, .q eSec secs, .one, .one, .one, .one, .one, .one, .one, .one])) 1 (.i n)) 4 (.v (.slice none 0 0))) 5 (.sl 1 0 ((endsJ secs n k j).length))) 6 (.i (k : Int))) 8 (.b (!noSec secs (k : Int)))) 26 (.agg [.i ((secV secs (k : Int)).a), .i ((secV secs (k : Int)).b)])) 27 (.i (j : Int))), (updO noOb 1 (.live ⟨(enc eEn (endsJ secs n k j)), 114, 2⟩))⟩) (fun j => j ≤ 2) (2) ?_ (by decide) (fun j hk_j hinv => ?_)
  ·skip
   have hz := endsJ_zero secs n k
   exact imp_ler [(1, 1)] (lerI 1 1 rfl (by exact congrArg (fun l_ => LObj.mk (enc eEn l_) 114 2) hz) (sS rfl (sS rfl (sS rfl (sS rfl (sM (by exact congrArg (AV.sl 1 0) (congrArg List.length hz.symm)) (sS rfl (sS rfl (sS rfl sr_none))))))))) (keep_of rfl)
  have hlj := endsJ_len secs n k j
  refine seqR ?_
  refine bG ((.bool (decide ((j : Int) < 2)))) ?_
  refine op0 ?_
  refine awp_seq ?_
  refine awp_cond (decide ((j : Int) < 2)) rfl rfl (fun hc1 => ?_) (fun hc1 => ?_)
  ·skip
   have hf3 := of_decide_eq_true hc1
   have hj2 : j < 2 := by omega
   refine awp_skip ?_
   refine awp_seq ?_
   refine awp_block ?_
   refine seqR ?_
   refine mG (.i (j : Int)) ?_
   refine opG rfl (aop_index (cells := [.i ((secV secs (k : Int)).a), .i ((secV secs (k : Int)).b)]) (i := (j : Int)) (av := .i (endAt secs k j)) rfl rfl rfl ut98 ag3 sz3 rfl rfl (by omega) (by omega) (pair_at hkl hj2) ?_)
   refine mG (.i (j : Int)) ?_
   refine mG (.i (endAt secs k j)) ?_
   refine op0 ?_
   refine rs_ (upd (upd (upd (upd (upd (upd (upd (upd (upd (upd none_ 0 (.rp [.one, .q eSec secs, .one, .one, .one, .one, .one, .one, .one, .one])) 1 (.i n)) 4 (.v (.slice none 0 0))) 5 (.sl 1 0 ((endsJ secs n k j).length))) 6 (.i (k : Int))) 8 (.b (!noSec secs (k : Int)))) 9 (.i (j : Int))) 10 (.i (endAt secs k j))) 26 (.agg [.i ((secV secs (k : Int)).a), .i ((secV secs (k : Int)).b)])) 27 (.i (j : Int))) (updO noOb 1 (.live ⟨(enc eEn (endsJ secs n k j)), 114, 2⟩)) (lu rfl (lu rfl (lu rfl (lu rfl (lu rfl (lu rfl (lu rfl (lu rfl (lu rfl (lu rfl ln)))))))))) rfl ?_
   refine seqR ?_
   refine mG (.i (endAt secs k j)) ?_
   refine mG (.i n) ?_
   refine bG ((.bool ((endAt secs k j) == n))) ?_
   refine op0 ?_
   refine awp_cond ((endAt secs k j) == n) rfl rfl (fun hc2 => ?_) (fun hc2 => ?_)
   ·skip
    have hf4 := (beq_iff_eq).1 hc2
    refine regR ?_
    refine mG (.sl 1 0 ((endsJ secs n k j).length)) ?_
    refine mG (.i (k : Int)) ?_
    refine mG (.i (j : Int)) ?_
    refine opG rfl (aop_build rfl rfl rfl pl114 rfl ?_)
    refine opG rfl (aop_lit rfl rfl rfl ut115 iz114 (by decide) (by decide) rfl rfl ?_)
    refine opG rfl (aop_app1 (f := eEn) (l := endsJ secs n k j) 53 (⟨(k : Int), (j : Int)⟩ : En) rfl rfl rfl rfl ut115 in114 rfl (by decide) rfl rfl rfl rfl rfl rfl (fun _ => rfl) rfl rfl (by first | omega | (simp; done) | decide | (simp at *; omega)) (by first | omega | (simp; done) | decide | (simp at *; omega)) rfl ?_)
    refine mG (.sl 53 0 (((endsJ secs n k j) ++ [(⟨(k : Int), (j : Int)⟩ : En)]).length)) ?_
    refine op0 ?_
    refine rs_ (upd (upd (upd (upd (upd (upd (upd (upd (upd (upd none_ 0 (.rp [.one, .q eSec secs, .one, .one, .one, .one, .one, .one, .one, .one])) 1 (.i n)) 4 (.v (.slice none 0 0))) 5 (.sl 53 0 (((endsJ secs n k j) ++ [(⟨(k : Int), (j : Int)⟩ : En)]).length))) 6 (.i (k : Int))) 8 (.b (!noSec secs (k : Int)))) 9 (.i (j : Int))) 10 (.i (endAt secs k j))) 26 (.agg [.i ((secV secs (k : Int)).a), .i ((secV secs (k : Int)).b)])) 27 (.i (j : Int))) (updO (updO (updO noOb 1 (.live ⟨(enc eEn (endsJ secs n k j)), 114, 2⟩)) 1 .dead) 53 (.live ⟨(enc eEn ((endsJ secs n k j) ++ [(⟨(k : Int), (j : Int)⟩ : En)])), 114, 2⟩)) (lu rfl (lu rfl (lu rfl (lu rfl (lu rfl (lu rfl (lu rfl (lu rfl (lu rfl (lu rfl ln)))))))))) rfl ?_
    refine regR ?_
    refine opG rfl (aop_binI (u := (.int .i64 ((j + 1 : Nat) : Int))) rfl rfl rfl rfl rfl trivial (addN (by omega)) ?_)
    refine mG (.i ((j + 1 : Nat) : Int)) ?_
    refine op0 ?_
    show _ ∧ _
    have hs_ := endsJ_on hj2 (by simpa using hc2)
    refine ⟨by omega, (by omega), ?_⟩
    exact imp_ler [(53, 1)] (lerI 53 1 rfl (by exact congrArg (fun l_ => LObj.mk (enc eEn l_) 114 2) hs_) (sS rfl (sS rfl (sS rfl (sS rfl (sM (by exact congrArg (AV.sl 1 0) (congrArg List.length hs_.symm)) (sS rfl (sS rfl (sS rfl sr_none))))))))) (keep_of rfl)
   ·skip
    have hf5 := (beq_eq_false_iff_ne).1 hc2
    refine awp_skip ?_
    refine regR ?_
    refine opG rfl (aop_binI (u := (.int .i64 ((j + 1 : Nat) : Int))) rfl rfl rfl rfl rfl trivial (addN (by omega)) ?_)
    refine mG (.i ((j + 1 : Nat) : Int)) ?_
    refine op0 ?_
    show _ ∧ _
    have hs_ := endsJ_off hj2 (by simpa using hc2)
    refine ⟨by omega, (by omega), ?_⟩
    exact imp_ler [(1, 1)] (lerI 1 1 rfl (by exact congrArg (fun l_ => LObj.mk (enc eEn l_) 114 2) hs_) (sS rfl (sS rfl (sS rfl (sS rfl (sM (by exact congrArg (AV.sl 1 0) (congrArg List.length hs_.symm)) (sS rfl (sS rfl (sS rfl sr_none))))))))) (keep_of rfl)
  ·skip
   have hf6 := of_decide_eq_false hc1
   refine awp_exit ?_
   refine regR ?_
   refine mG (.i (k : Int)) ?_
   refine opG rfl (aop_binI (u := (.int .i64 ((k + 1 : Nat) : Int))) rfl rfl rfl rfl rfl trivial (addN (by omega)) ?_)
   refine mG (.i ((k + 1 : Nat) : Int)) ?_
   refine op0 ?_
   show _ ∧ _
   have hs_ : endsJ secs n k j = endsK secs n (k + 1) := by rw [show j = 2 by omega]; exact endsJ_two secs n k
   refine ⟨by omega, (by omega), ?_⟩
   exact imp_ler [(1, 1)] (lerI 1 1 rfl (by exact congrArg (fun l_ => LObj.mk (enc eEn l_) 114 2) hs_.symm) (sS rfl (sM (by exact congrArg (AV.sl 1 0) (congrArg List.length hs_)) (sS rfl (sS rfl (sS rfl sr_none)))))) (keep_of rfl)
theorem g_at (secs : List Sec) (s n : Int) (hs : secs.length ≤ 65536) : Fn Try.prog 91 [.rp [.one, .ro secs.length (enc eSec secs), .one, .one, .one, .one, .one, .one, .one, .one], .v (.int .i64 s), .v (.int .i64 n)] (.ro ((oneE secs s n).length) (enc eEn (oneE secs s n))) := by
 refine fnE_of_body (N := 24) Try.func91 rfl rfl (resOf1 rfl) (by simp) (fun w0 X hL_ => ?_)
 refine seqR ?_
 refine mG (.v (.slice none 0 0)) ?_
 refine op0 ?_
 refine awp_seq ?_
 refine seqR ?_
 refine mG (.rp [.one, .q eSec secs, .one, .one, .one, .one, .one, .one, .one, .one]) ?_
 refine mG (.i n) ?_
 refine opG rfl (callO_ 51 (g_Ends secs n (by first | omega | (simp; done) | decide | (simp at *; omega))) rfl rfl rfl rfl rfl bd88 (lends_cons (lend_n (av := .rp [.one, .q eSec secs, .one, .one, .one, .one, .one, .one, .one, .one])) (lends_cons (lend_n (av := .i n)) lends_nil)) (.sl _ _ _ trivial) (news1 news0) (free1 rfl) rfl rfl ?_)
 refine opG rfl (aop_len rfl rfl rfl rfl ut115 (len_sl rfl) ?_)
 refine mG (.i 0) ?_
 refine op0 ?_
 refine rs_ (upd (upd (upd (upd (upd none_ 1 (.i s)) 6 (.v (.slice none 0 0))) 11 (.sl 51 0 ((endsL secs n).length))) 12 (.i ((endsL secs n).length : Int))) 13 (.i 0)) (updO noOb 51 (.live ⟨(enc eEn (endsL secs n)), 114, 2⟩)) (lu rfl (lu rfl (lu rfl (lu rfl (lu rfl ln))))) rfl ?_
 refine awp_block ?_
 refine awp_countI (fun k => ⟨(upd (upd (upd (upd (upd none_ 1 (.i s)) 6 (.v (.slice none 0 0))) 11 (.sl 1 0 ((endsL secs n).length))) 12 (.i ((endsL secs n).length : Int))) 13 (.i (k : Int))), (updO noOb 1 (.live ⟨(enc eEn (endsL secs n)), 114, 2⟩))⟩) (fun k => ((endsL secs n).take k).any (fun e => decide (e.sec = s)) = false) ((endsL secs n).length) ?_ (by simp) (fun k hk_k hinv => ?_)
 ·skip
  exact imp_ler [(51, 1)] (lerI 51 1 rfl rfl (sS rfl (sS rfl (sM rfl (sS rfl (sS rfl sr_none)))))) (keep_of rfl)
 refine seqR ?_
 refine bG ((.bool (decide ((k : Int) < ((endsL secs n).length : Int))))) ?_
 refine op0 ?_
 refine awp_seq ?_
 refine awp_cond (decide ((k : Int) < ((endsL secs n).length : Int))) rfl rfl (fun hc0 => ?_) (fun hc0 => ?_)
 ·skip
  have hf1 := of_decide_eq_true hc0
  have hle := endsL_len secs n
  refine awp_skip ?_
  refine awp_seq ?_
  refine awp_block ?_
  refine seqR ?_
  refine opG rfl (aop_ixO (k := k) rfl rfl rfl ut115 sz114 rfl rfl (by first | omega | (simp; done) | decide | (simp at *; omega)) ?_)
  refine opG rfl (aop_ldOA (f := eEn) dE rfl rfl rfl ag114 sz114 rfl rfl rfl (fun _ => rfl) (by first | omega | (simp; done) | decide | (simp at *; omega)) rfl ?_)
  refine opG rfl (aop_alloc 52 rfl rfl rfl rfl ze114 rfl ?_)
  refine opG rfl (aop_store rfl rfl rfl sz114 rfl rfl rfl rfl rfl (Nat.le_of_ble_eq_true rfl) rfl rfl ?_)
  refine op0 ?_
  refine rs_ (upd (upd (upd (upd (upd (upd none_ 1 (.i s)) 6 (.v (.slice none 0 0))) 8 (.pt 52 0)) 11 (.sl 1 0 ((endsL secs n).length))) 12 (.i ((endsL secs n).length : Int))) 13 (.i (k : Int))) (updO (updO (updO noOb 1 (.live ⟨(enc eEn (endsL secs n)), 114, 2⟩)) 52 (.live ⟨[.i 0, .i 0], 114, 1⟩)) 52 (.live ⟨[.i (((endsL secs n).getD k dE).sec), .i (((endsL secs n).getD k dE).en)], 114, 1⟩)) (lu rfl (lu rfl (lu rfl (lu rfl (lu rfl (lu rfl ln)))))) rfl ?_
  refine seqR ?_
  refine fG (.pt 52 0) ft114_0 sz3 ?_
  refine opG rfl (aop_ld (av := .i (((endsL secs n).getD k dE).sec)) rfl rfl rfl ag3 rfl rfl ?_)
  refine mG (.i s) ?_
  refine bG ((.bool ((((endsL secs n).getD k dE).sec) == s))) ?_
  refine op0 ?_
  refine rs_ (upd (upd (upd (upd (upd (upd (upd none_ 1 (.i s)) 6 (.v (.slice none 0 0))) 8 (.pt 52 0)) 11 (.sl 1 0 ((endsL secs n).length))) 12 (.i ((endsL secs n).length : Int))) 13 (.i (k : Int))) 20 (.b ((((endsL secs n).getD k dE).sec) == s))) (updO (updO (updO noOb 1 (.live ⟨(enc eEn (endsL secs n)), 114, 2⟩)) 52 (.live ⟨[.i 0, .i 0], 114, 1⟩)) 52 (.live ⟨[.i (((endsL secs n).getD k dE).sec), .i (((endsL secs n).getD k dE).en)], 114, 1⟩)) (lu rfl (lu rfl (lu rfl (lu rfl (lu rfl (lu rfl (lu rfl ln))))))) rfl ?_
  refine awp_cond ((((endsL secs n).getD k dE).sec) == s) rfl rfl (fun hc1 => ?_) (fun hc1 => ?_)
  ·skip
   have hf2 := (beq_iff_eq).1 hc1
   refine seqR ?_
   refine opG rfl (aop_ldB (cells' := [.i (((endsL secs n).getD k dE).sec), .i (((endsL secs n).getD k dE).en)]) rfl rfl rfl ag114 sz114 rfl rfl rfl rfl ?_)
   refine opG rfl (aop_lit rfl rfl rfl ut115 iz114 (by decide) (by decide) rfl rfl ?_)
   refine mG (.ro 1 [.i (((endsL secs n).getD k dE).sec), .i (((endsL secs n).getD k dE).en)]) ?_
   refine op0 ?_
   refine awp_ret ?_
   exact fret (av := .ro 1 [.v (.int .i64 (((endsL secs n).getD k dE).sec)), .v (.int .i64 (((endsL secs n).getD k dE).en))]) rfl rfl (by unfold oneE; rw [firstE_stop (by omega) hinv (by simpa using hc1)] <;> rfl)
  ·skip
   have hf3 := (beq_eq_false_iff_ne).1 hc1
   refine awp_skip ?_
   refine regR ?_
   refine opG rfl (aop_binI (u := (.int .i64 ((k + 1 : Nat) : Int))) rfl rfl rfl rfl rfl trivial (addN (by omega)) ?_)
   refine mG (.i ((k + 1 : Nat) : Int)) ?_
   refine op0 ?_
   show _ ∧ _
   refine ⟨by omega, (any_step dE (by omega) hinv (by simpa using hc1)), ?_⟩
   exact imp_ler [(1, 1)] (lerI 1 1 rfl rfl (sS rfl (sS rfl (sM rfl (sS rfl (sS rfl sr_none)))))) (keep_of rfl)
 ·skip
  have hf4 := of_decide_eq_false hc0
  refine awp_exit ?_
  refine seqR ?_
  refine mG (.v (.slice none 0 0)) ?_
  refine op0 ?_
  refine awp_imp _ (imp_frozen rfl (fun _ h => h) (lee_lend 6 (.ro 0 []) .nil lee_lend0)) ?_
  refine awp_ret ?_
  exact fret (av := .ro 0 []) rfl rfl (by unfold oneE; rw [firstE_none (by omega) hinv] <;> rfl)
theorem g_Around1 (x y s e : Int)  : Fn Try.prog 89 [.agg [.v (.int .i64 x), .v (.int .i64 y)], .rp [.v (.int .i64 s), .v (.int .i64 e)]] (.v (.bool (decide (x = s ∧ y = e)))) := by
 refine fnE_of_body (N := 7) Try.func89 rfl rfl (resOf1 rfl) (by simp) (fun w0 X hL_ => ?_)
 refine seqR ?_
 refine opG rfl (aop_box 51 rfl rfl rfl rfl rfl rfl rfl ?_)
 refine mG (.b false) ?_
 refine op0 ?_
 refine seqR ?_
 refine opG rfl (aop_ldB (cells' := [.i x, .i y]) rfl rfl rfl ag114 sz114 rfl rfl rfl rfl ?_)
 refine opG rfl (aop_ldB (cells' := [.i s, .i e]) rfl rfl rfl ag114 sz114 rfl rfl rfl rfl ?_)
 refine opG rfl (aop_eqS2 (r := (decide (x = s ∧ y = e))) rfl rfl rfl rfl rfl es114 ut3 ut3 ag3 ag3 (.inl ⟨rfl, rfl⟩) ?_)
 refine mG (.b (decide (x = s ∧ y = e))) ?_
 refine op0 ?_
 refine rs_ (upd none_ 3 (.b (decide (x = s ∧ y = e)))) (updO noOb 51 (.live ⟨[.i x, .i y], 114, 1⟩)) (lu rfl ln) rfl ?_
 refine awp_ret ?_
 exact fret (av := .v (.bool (decide (x = s ∧ y = e)))) rfl rfl rfl
theorem ixE_o (l : List En) (s e : Int) (hl : l.length ≤ 4294967296)  : Fn Try.prog 80 [.ro l.length (enc eEn l), .fn 89 [.rp [.v (.int .i64 s), .v (.int .i64 e)]]] (.v (.int .i64 (idxB (fun x : En => decide (x.sec = s ∧ x.en = e)) l))) := by
 refine fnE_of_body (N := 19) Try.func80 rfl rfl (resOf1 rfl) (by simp) (fun w0 X hL_ => ?_)
 refine seqR ?_
 refine mG (.i 0) ?_
 refine op0 ?_
 refine awp_seq ?_
 refine seqR ?_
 refine mG (.q eEn l) ?_
 refine opG rfl (aop_len rfl rfl rfl rfl ut115 (len_ro rfl) ?_)
 refine mG (.i 0) ?_
 refine op0 ?_
 refine rs_ (upd (upd (upd (upd (upd none_ 0 (.q eEn l)) 1 (.fn 89 [.rp [.i s, .i e]])) 4 (.i 0)) 7 (.i (l.length : Int))) 8 (.i 0)) noOb (lu rfl (lu rfl (lu rfl (lu rfl (lu rfl ln))))) rfl ?_
 refine awp_block ?_
 refine awp_countI (fun k => ⟨(upd (upd (upd (upd (upd none_ 0 (.q eEn l)) 1 (.fn 89 [.rp [.i s, .i e]])) 4 (.i 0)) 7 (.i (l.length : Int))) 8 (.i (k : Int))), noOb⟩) (fun k => (l.take k).any (fun x : En => decide (x.sec = s ∧ x.en = e)) = false) (l.length) ?_ (by simp) (fun k hk_k hinv => ?_)
 ·skip
  exact imp_ler [] (ler0 (sS rfl (sS rfl (sS rfl (sS rfl (sS rfl sr_none)))))) (keep_of rfl)
 refine seqR ?_
 refine bG ((.bool (decide ((k : Int) < (l.length : Int))))) ?_
 refine op0 ?_
 refine awp_seq ?_
 refine awp_cond (decide ((k : Int) < (l.length : Int))) rfl rfl (fun hc0 => ?_) (fun hc0 => ?_)
 ·skip
  have hf1 := of_decide_eq_true hc0
  refine awp_skip ?_
  refine awp_seq ?_
  refine awp_block ?_
  refine seqR ?_
  refine mG (.i (k : Int)) ?_
  refine mG (.i (k : Int)) ?_
  refine op0 ?_
  refine seqR ?_
  refine mG (.fn 89 [.rp [.i s, .i e]]) ?_
  refine mG (.q eEn l) ?_
  refine mG (.i (k : Int)) ?_
  refine opG rfl (aop_ixE dE rfl rfl rfl ut115 sz114 rfl rfl (fun _ => rfl) rfl (by first | omega | (simp; done) | decide | (simp at *; omega)) ?_)
  refine opG rfl (aop_ldB (cells' := [.i ((l.getD k dE).sec), .i ((l.getD k dE).en)]) rfl rfl rfl ag114 sz114 rfl rfl rfl rfl ?_)
  refine opG rfl (call_ (g_Around1 ((l.getD k dE).sec) ((l.getD k dE).en) s e) rfl rfl rfl rfl rfl bd89 rfl ?_)
  refine op0 ?_
  refine rs_ (upd (upd (upd (upd (upd (upd (upd none_ 0 (.q eEn l)) 1 (.fn 89 [.rp [.i s, .i e]])) 4 (.i 0)) 5 (.i (k : Int))) 7 (.i (l.length : Int))) 8 (.i (k : Int))) 16 (.b (decide (((l.getD k dE).sec) = s ∧ ((l.getD k dE).en) = e)))) noOb (lu rfl (lu rfl (lu rfl (lu rfl (lu rfl (lu rfl (lu rfl ln))))))) rfl ?_
  refine awp_cond (decide (((l.getD k dE).sec) = s ∧ ((l.getD k dE).en) = e)) rfl rfl (fun hc1 => ?_) (fun hc1 => ?_)
  ·skip
   refine seqR ?_
   refine mG (.i (k : Int)) ?_
   refine mG (.i (k : Int)) ?_
   refine op0 ?_
   refine awp_ret ?_
   exact fret (av := .v (.int .i64 (k : Int))) rfl rfl (by rw [idxB_stop (f := fun x : En => decide (x.sec = s ∧ x.en = e)) dE (by omega) hinv hc1] <;> rfl)
  ·skip
   refine awp_skip ?_
   refine regR ?_
   refine opG rfl (aop_binI (u := (.int .i64 ((k + 1 : Nat) : Int))) rfl rfl rfl rfl rfl trivial (addN (by omega)) ?_)
   refine mG (.i ((k + 1 : Nat) : Int)) ?_
   refine op0 ?_
   show _ ∧ _
   refine ⟨by omega, (any_step dE (by omega) hinv hc1), ?_⟩
   exact imp_ler [] (ler0 (sS rfl (sS rfl (sS rfl (sS rfl (sS rfl sr_none)))))) (keep_of rfl)
 ·skip
  have hf2 := of_decide_eq_false hc0
  refine awp_exit ?_
  refine seqR ?_
  refine mG (.i (-1)) ?_
  refine op0 ?_
  refine awp_ret ?_
  exact fret (av := .v (.int .i64 (-1))) rfl rfl (by rw [idxB_end (f := fun x : En => decide (x.sec = s ∧ x.en = e)) (by omega) hinv] <;> rfl)
theorem delE (l : List En) (s e : Int) (hl : l.length ≤ 4294967296)  : FnGO Try.prog 87 [⟨(enc eEn l), 114, 2⟩] [.sl 0 0 l.length, .fn 89 [.rp [.v (.int .i64 s), .v (.int .i64 e)]]] (.sl 0 0 ((restG (fun x : En => decide (x.sec = s ∧ x.en = e)) l).length)) [.live ⟨(enc eEn (restG (fun x : En => decide (x.sec = s ∧ x.en = e)) l ++ List.replicate (l.length - (restG (fun x : En => decide (x.sec = s ∧ x.en = e)) l).length) dE)), 114, 2⟩] := by
 refine fnG_of_body (N := 42) 1 rfl Try.func87 rfl rfl (resOf1 rfl) (by simp) (fun w0 G C hL_ hLG_ => ?_)
 refine seqR ?_
 refine mG (.v (.slice none 0 0)) ?_
 refine op0 ?_
 refine seqR ?_
 refine mG (.sl 0 0 l.length) ?_
 refine mG (.fn 89 [.rp [.i s, .i e]]) ?_
 refine opG rfl (callL_ (ixE_o l s e (by first | omega | (simp; done) | decide | (simp at *; omega))) rfl rfl rfl rfl rfl bd80 (lends_cons (lend_s (id := 0) (n := l.length) (o := ⟨(enc eEn l), 114, 2⟩) rfl (enc_len (fun _ => rfl) (by first | rfl | (simp; done)))) (lends_cons (lend_n (av := .fn 89 [.rp [.i s, .i e]])) lends_nil)) ?_)
 refine mG (.i (idxB (fun x : En => decide (x.sec = s ∧ x.en = e)) l)) ?_
 refine op0 ?_
 refine rs_ (upd (upd (upd (upd none_ 0 (.sl 0 0 l.length)) 1 (.fn 89 [.rp [.i s, .i e]])) 4 (.v (.slice none 0 0))) 5 (.i (idxB (fun x : En => decide (x.sec = s ∧ x.en = e)) l))) (updO noOb 0 (.live ⟨(enc eEn l), 114, 2⟩)) (lu rfl (lu rfl (lu rfl (lu rfl ln)))) rfl ?_
 refine awp_seq ?_
 refine seqR ?_
 refine mG (.i (idxB (fun x : En => decide (x.sec = s ∧ x.en = e)) l)) ?_
 refine bG ((.bool ((idxB (fun x : En => decide (x.sec = s ∧ x.en = e)) l) == (-1)))) ?_
 refine op0 ?_
 refine awp_cond ((idxB (fun x : En => decide (x.sec = s ∧ x.en = e)) l) == (-1)) rfl rfl (fun hc0 => ?_) (fun hc0 => ?_)
 ·skip
  have hf1 := (beq_iff_eq).1 hc0
  have hm0 := restG_none (fun x : En => decide (x.sec = s ∧ x.en = e)) (any_none (fun x : En => decide (x.sec = s ∧ x.en = e)) dE hf1)
  refine seqR ?_
  refine mG (.sl 0 0 l.length) ?_
  refine mG (.sl 0 0 l.length) ?_
  refine op0 ?_
  refine rs_ (upd (upd (upd (upd none_ 0 (.sl 0 0 l.length)) 1 (.fn 89 [.rp [.i s, .i e]])) 4 (.sl 0 0 l.length)) 5 (.i (idxB (fun x : En => decide (x.sec = s ∧ x.en = e)) l))) (updO noOb 0 (.live ⟨(enc eEn l), 114, 2⟩)) (lu rfl (lu rfl (lu rfl (lu rfl ln)))) rfl ?_
  refine awp_imp ⟨(upd none_ 4 (.sl 0 0 ((restG (fun x : En => decide (x.sec = s ∧ x.en = e)) l).length))), (updO noOb 0 (.live ⟨(enc eEn (restG (fun x : En => decide (x.sec = s ∧ x.en = e)) l ++ List.replicate (l.length - (restG (fun x : En => decide (x.sec = s ∧ x.en = e)) l).length) dE)), 114, 2⟩))⟩ ?_ ?_
  ·skip
   exact imp_ler [(0, 0)] (lerL [(0, 0)] [((0, 0), .live ⟨(enc eEn (restG (fun x : En => decide (x.sec = s ∧ x.en = e)) l ++ List.replicate (l.length - (restG (fun x : En => decide (x.sec = s ∧ x.en = e)) l).length) dE)), 114, 2⟩)] rfl (by decide) (by decide) ⟨row_no (o := ⟨(enc eEn l), 114, 2⟩) rfl (by exact congrArg (fun l_ => LObj.mk (enc eEn l_) 114 2) (by rw [hm0]; simp)), trivial⟩ (sr_map 4 (.sl 0 0 ((restG (fun x : En => decide (x.sec = s ∧ x.en = e)) l).length)) (by first | exact Ok.sl _ _ _ (by first | decide | simp) | exact Ok.pt _ _ (by first | decide | simp)) (by exact congrArg (AV.sl 0 0) (by rw [hm0])) sr_none)) (keep_of rfl)
  refine awp_ret ?_
  exact fretG rfl rfl rfl rfl
 ·skip
  have hf2 := (beq_eq_false_iff_ne).1 hc0
  obtain ⟨i0, hi, hlt, hpre, hdel⟩ := idxB_found dE (show ¬ idxB (fun x : En => decide (x.sec = s ∧ x.en = e)) l = -1 from fun e => hf2 e)
  refine awp_skip ?_
  refine awp_seq ?_
  refine seqR ?_
  refine mG (.i (idxB (fun x : En => decide (x.sec = s ∧ x.en = e)) l)) ?_
  refine opG rfl (aop_binI (u := (.int .i64 ((idxB (fun x : En => decide (x.sec = s ∧ x.en = e)) l) + 1))) rfl rfl rfl rfl rfl trivial (addI (by omega)) ?_)
  refine mG (.i ((idxB (fun x : En => decide (x.sec = s ∧ x.en = e)) l) + 1)) ?_
  refine op0 ?_
  refine rs_ (upd (upd (upd (upd (upd none_ 0 (.sl 0 0 l.length)) 1 (.fn 89 [.rp [.i s, .i e]])) 4 (.v (.slice none 0 0))) 5 (.i (idxB (fun x : En => decide (x.sec = s ∧ x.en = e)) l))) 6 (.i ((idxB (fun x : En => decide (x.sec = s ∧ x.en = e)) l) + 1))) (updO noOb 0 (.live ⟨(enc eEn l), 114, 2⟩)) (lu rfl (lu rfl (lu rfl (lu rfl (lu rfl ln))))) rfl ?_
  refine awp_block ?_
  refine awp_countI (fun k => ⟨(upd (upd (upd (upd (upd none_ 0 (.sl 0 0 l.length)) 1 (.fn 89 [.rp [.i s, .i e]])) 4 (.v (.slice none 0 0))) 5 (.i (((delG (fun x : En => decide (x.sec = s ∧ x.en = e)) l (i0 + 1 + k)).2 : Nat) : Int))) 6 (.i ((i0 + 1 + k : Nat) : Int))), (updO noOb 0 (.live ⟨(enc eEn ((delG (fun x : En => decide (x.sec = s ∧ x.en = e)) l (i0 + 1 + k)).1)), 114, 2⟩))⟩) (fun k => True) ((l.length - (i0 + 1))) ?_ trivial (fun k hk_k hinv => ?_)
  ·skip
   have hf0 := delG_first (fun x : En => decide (x.sec = s ∧ x.en = e)) dE hlt hpre hdel
   exact imp_ler [(0, 0)] (lerL [(0, 0)] [((0, 0), .live ⟨(enc eEn ((delG (fun x : En => decide (x.sec = s ∧ x.en = e)) l (i0 + 1 + 0)).1)), 114, 2⟩)] rfl (by decide) (by decide) ⟨row_no (o := ⟨(enc eEn l), 114, 2⟩) rfl (by exact congrArg (fun l_ => LObj.mk (enc eEn l_) 114 2) (show (delG (fun x : En => decide (x.sec = s ∧ x.en = e)) l (i0 + 1 + 0)).1 = l by rw [show i0 + 1 + 0 = i0 + 1 from rfl, hf0])), trivial⟩ (sr_same 6 (.i ((i0 + 1 + 0 : Nat) : Int)) (by exact congrArg (fun n_ : Int => AV.v (.int .i64 n_)) (show idxB (fun x : En => decide (x.sec = s ∧ x.en = e)) l + 1 = ((i0 + 1 + 0 : Nat) : Int) by omega)) NoI.out (sr_same 5 (.i (((delG (fun x : En => decide (x.sec = s ∧ x.en = e)) l (i0 + 1 + 0)).2 : Nat) : Int)) (by exact congrArg (fun n_ : Int => AV.v (.int .i64 n_)) (show idxB (fun x : En => decide (x.sec = s ∧ x.en = e)) l = (((delG (fun x : En => decide (x.sec = s ∧ x.en = e)) l (i0 + 1 + 0)).2 : Nat) : Int) by rw [show i0 + 1 + 0 = i0 + 1 from rfl, hf0]; exact hi)) NoI.out (sr_same 4 (.v (.slice none 0 0)) rfl NoI.out (sr_same 1 (.fn 89 [.rp [.i s, .i e]]) rfl NoI.out (sr_map 0 (.sl 0 0 l.length) (by first | exact Ok.sl _ _ _ (by first | decide | simp) | exact Ok.pt _ _ (by first | decide | simp)) rfl sr_none)))))) (keep_of rfl)
  obtain ⟨hv1, hv2, hv3, hv4, hv5⟩ := delG_inv (fun x : En => decide (x.sec = s ∧ x.en = e)) l (i0 + 1 + k) (by omega)
  have hv6 := delG_lt (fun x : En => decide (x.sec = s ∧ x.en = e)) dE hlt hpre hdel k (by omega)
  refine awp_seq ?_
  refine seqR ?_
  refine mG (.i ((i0 + 1 + k : Nat) : Int)) ?_
  refine mG (.sl 0 0 l.length) ?_
  refine opG rfl (aop_len rfl rfl rfl rfl ut115 (len_sl rfl) ?_)
  refine bG ((.bool (decide (((i0 + 1 + k : Nat) : Int) < (l.length : Int))))) ?_
  refine op0 ?_
  refine rs_ (upd (upd (upd (upd (upd (upd none_ 0 (.sl 0 0 l.length)) 1 (.fn 89 [.rp [.i s, .i e]])) 4 (.v (.slice none 0 0))) 5 (.i (((delG (fun x : En => decide (x.sec = s ∧ x.en = e)) l (i0 + 1 + k)).2 : Nat) : Int))) 6 (.i ((i0 + 1 + k : Nat) : Int))) 19 (.b (decide (((i0 + 1 + k : Nat) : Int) < (l.length : Int))))) (updO noOb 0 (.live ⟨(enc eEn ((delG (fun x : En => decide (x.sec = s ∧ x.en = e)) l (i0 + 1 + k)).1)), 114, 2⟩)) (lu rfl (lu rfl (lu rfl (lu rfl (lu rfl (lu rfl ln)))))) rfl ?_
  refine awp_cond (decide (((i0 + 1 + k : Nat) : Int) < (l.length : Int))) rfl rfl (fun hc1 => ?_) (fun hc1 => ?_)
  ·skip
   have hf3 := of_decide_eq_true hc1
   refine awp_skip ?_
   refine awp_seq ?_
   refine awp_block ?_
   refine seqR ?_
   refine mG (.sl 0 0 l.length) ?_
   refine mG (.i ((i0 + 1 + k : Nat) : Int)) ?_
   refine opG rfl (aop_ixO (k := i0 + 1 + k) rfl rfl rfl ut115 sz114 rfl rfl (by first | omega | (simp; done) | decide | (simp at *; omega)) ?_)
   refine opG rfl (aop_ldOA (f := eEn) dE rfl rfl rfl ag114 sz114 rfl rfl rfl (fun _ => rfl) (by first | omega | (simp; done) | decide | (simp at *; omega)) rfl ?_)
   refine opG rfl (aop_alloc 51 rfl rfl rfl rfl ze114 rfl ?_)
   refine opG rfl (aop_store rfl rfl rfl sz114 rfl rfl rfl rfl rfl (Nat.le_of_ble_eq_true rfl) rfl rfl ?_)
   refine op0 ?_
   refine rs_ (upd (upd (upd (upd (upd (upd none_ 0 (.sl 0 0 l.length)) 1 (.fn 89 [.rp [.i s, .i e]])) 4 (.v (.slice none 0 0))) 5 (.i (((delG (fun x : En => decide (x.sec = s ∧ x.en = e)) l (i0 + 1 + k)).2 : Nat) : Int))) 6 (.i ((i0 + 1 + k : Nat) : Int))) 7 (.pt 51 0)) (updO (updO (updO noOb 0 (.live ⟨(enc eEn ((delG (fun x : En => decide (x.sec = s ∧ x.en = e)) l (i0 + 1 + k)).1)), 114, 2⟩)) 51 (.live ⟨[.i 0, .i 0], 114, 1⟩)) 51 (.live ⟨[.i ((((delG (fun x : En => decide (x.sec = s ∧ x.en = e)) l (i0 + 1 + k)).1).getD (i0 + 1 + k) dE).sec), .i ((((delG (fun x : En => decide (x.sec = s ∧ x.en = e)) l (i0 + 1 + k)).1).getD (i0 + 1 + k) dE).en)], 114, 1⟩)) (lu rfl (lu rfl (lu rfl (lu rfl (lu rfl (lu rfl ln)))))) rfl ?_
   refine seqR ?_
   refine mG (.fn 89 [.rp [.i s, .i e]]) ?_
   refine opG rfl (aop_ldB (cells' := [.i ((((delG (fun x : En => decide (x.sec = s ∧ x.en = e)) l (i0 + 1 + k)).1).getD (i0 + 1 + k) dE).sec), .i ((((delG (fun x : En => decide (x.sec = s ∧ x.en = e)) l (i0 + 1 + k)).1).getD (i0 + 1 + k) dE).en)]) rfl rfl rfl ag114 sz114 rfl rfl rfl rfl ?_)
   refine opG rfl (call_ (g_Around1 ((((delG (fun x : En => decide (x.sec = s ∧ x.en = e)) l (i0 + 1 + k)).1).getD (i0 + 1 + k) dE).sec) ((((delG (fun x : En => decide (x.sec = s ∧ x.en = e)) l (i0 + 1 + k)).1).getD (i0 + 1 + k) dE).en) s e) rfl rfl rfl rfl rfl bd89 rfl ?_)
   refine opG rfl (aop_not rfl rfl rfl rfl ?_)
   refine op0 ?_
   refine rs_ (upd (upd (upd (upd (upd (upd (upd none_ 0 (.sl 0 0 l.length)) 1 (.fn 89 [.rp [.i s, .i e]])) 4 (.v (.slice none 0 0))) 5 (.i (((delG (fun x : En => decide (x.sec = s ∧ x.en = e)) l (i0 + 1 + k)).2 : Nat) : Int))) 6 (.i ((i0 + 1 + k : Nat) : Int))) 7 (.pt 51 0)) 29 (.b (!(decide (((((delG (fun x : En => decide (x.sec = s ∧ x.en = e)) l (i0 + 1 + k)).1).getD (i0 + 1 + k) dE).sec) = s ∧ ((((delG (fun x : En => decide (x.sec = s ∧ x.en = e)) l (i0 + 1 + k)).1).getD (i0 + 1 + k) dE).en) = e))))) (updO (updO (updO noOb 0 (.live ⟨(enc eEn ((delG (fun x : En => decide (x.sec = s ∧ x.en = e)) l (i0 + 1 + k)).1)), 114, 2⟩)) 51 (.live ⟨[.i 0, .i 0], 114, 1⟩)) 51 (.live ⟨[.i ((((delG (fun x : En => decide (x.sec = s ∧ x.en = e)) l (i0 + 1 + k)).1).getD (i0 + 1 + k) dE).sec), .i ((((delG (fun x : En => decide (x.sec = s ∧ x.en = e)) l (i0 + 1 + k)).1).getD (i0 + 1 + k) dE).en)], 114, 1⟩)) (lu rfl (lu rfl (lu rfl (lu rfl (lu rfl (lu rfl (lu rfl ln))))))) rfl ?_
   refine awp_cond (!(decide (((((delG (fun x : En => decide (x.sec = s ∧ x.en = e)) l (i0 + 1 + k)).1).getD (i0 + 1 + k) dE).sec) = s ∧ ((((delG (fun x : En => decide (x.sec = s ∧ x.en = e)) l (i0 + 1 + k)).1).getD (i0 + 1 + k) dE).en) = e))) rfl rfl (fun hc2 => ?_) (fun hc2 => ?_)
   ·skip
    have hf4 := not_t hc2
    refine seqR ?_
    refine mG (.sl 0 0 l.length) ?_
    refine mG (.i (((delG (fun x : En => decide (x.sec = s ∧ x.en = e)) l (i0 + 1 + k)).2 : Nat) : Int)) ?_
    refine opG rfl (aop_ldB (cells' := [.i ((((delG (fun x : En => decide (x.sec = s ∧ x.en = e)) l (i0 + 1 + k)).1).getD (i0 + 1 + k) dE).sec), .i ((((delG (fun x : En => decide (x.sec = s ∧ x.en = e)) l (i0 + 1 + k)).1).getD (i0 + 1 + k) dE).en)]) rfl rfl rfl ag114 sz114 rfl rfl rfl rfl ?_)
    refine opG rfl (aop_ixO (k := (delG (fun x : En => decide (x.sec = s ∧ x.en = e)) l (i0 + 1 + k)).2) rfl rfl rfl ut115 sz114 rfl rfl (by first | omega | (simp; done) | decide | (simp at *; omega)) ?_)
    refine opG rfl (aop_storeE (f := eEn) (l := (delG (fun x : En => decide (x.sec = s ∧ x.en = e)) l (i0 + 1 + k)).1) (l' := ((delG (fun x : En => decide (x.sec = s ∧ x.en = e)) l (i0 + 1 + k)).1).set ((delG (fun x : En => decide (x.sec = s ∧ x.en = e)) l (i0 + 1 + k)).2) (⟨(((delG (fun x : En => decide (x.sec = s ∧ x.en = e)) l (i0 + 1 + k)).1).getD (i0 + 1 + k) dE).sec, (((delG (fun x : En => decide (x.sec = s ∧ x.en = e)) l (i0 + 1 + k)).1).getD (i0 + 1 + k) dE).en⟩ : En)) (⟨(((delG (fun x : En => decide (x.sec = s ∧ x.en = e)) l (i0 + 1 + k)).1).getD (i0 + 1 + k) dE).sec, (((delG (fun x : En => decide (x.sec = s ∧ x.en = e)) l (i0 + 1 + k)).1).getD (i0 + 1 + k) dE).en⟩ : En) rfl rfl rfl sz114 rfl rfl rfl rfl rfl (fun _ => rfl) (by first | omega | (simp; done) | decide | (simp at *; omega)) rfl rfl ?_)
    refine op0 ?_
    refine rs_ (upd (upd (upd (upd (upd (upd none_ 0 (.sl 0 0 l.length)) 1 (.fn 89 [.rp [.i s, .i e]])) 4 (.v (.slice none 0 0))) 5 (.i (((delG (fun x : En => decide (x.sec = s ∧ x.en = e)) l (i0 + 1 + k)).2 : Nat) : Int))) 6 (.i ((i0 + 1 + k : Nat) : Int))) 7 (.pt 51 0)) (updO (updO (updO (updO noOb 0 (.live ⟨(enc eEn ((delG (fun x : En => decide (x.sec = s ∧ x.en = e)) l (i0 + 1 + k)).1)), 114, 2⟩)) 51 (.live ⟨[.i 0, .i 0], 114, 1⟩)) 51 (.live ⟨[.i ((((delG (fun x : En => decide (x.sec = s ∧ x.en = e)) l (i0 + 1 + k)).1).getD (i0 + 1 + k) dE).sec), .i ((((delG (fun x : En => decide (x.sec = s ∧ x.en = e)) l (i0 + 1 + k)).1).getD (i0 + 1 + k) dE).en)], 114, 1⟩)) 0 (.live ⟨(enc eEn (((delG (fun x : En => decide (x.sec = s ∧ x.en = e)) l (i0 + 1 + k)).1).set ((delG (fun x : En => decide (x.sec = s ∧ x.en = e)) l (i0 + 1 + k)).2) (⟨(((delG (fun x : En => decide (x.sec = s ∧ x.en = e)) l (i0 + 1 + k)).1).getD (i0 + 1 + k) dE).sec, (((delG (fun x : En => decide (x.sec = s ∧ x.en = e)) l (i0 + 1 + k)).1).getD (i0 + 1 + k) dE).en⟩ : En))), 114, 2⟩)) (lu rfl (lu rfl (lu rfl (lu rfl (lu rfl (lu rfl ln)))))) rfl ?_
    refine regR ?_
    refine mG (.i (((delG (fun x : En => decide (x.sec = s ∧ x.en = e)) l (i0 + 1 + k)).2 : Nat) : Int)) ?_
    refine opG rfl (aop_binI (u := (.int .i64 (((delG (fun x : En => decide (x.sec = s ∧ x.en = e)) l (i0 + 1 + k)).2 + 1 : Nat) : Int))) rfl rfl rfl rfl rfl trivial (addN (by omega)) ?_)
    refine mG (.i (((delG (fun x : En => decide (x.sec = s ∧ x.en = e)) l (i0 + 1 + k)).2 + 1 : Nat) : Int)) ?_
    refine op0 ?_
    refine regR ?_
    refine mG (.i ((i0 + 1 + k : Nat) : Int)) ?_
    refine opG rfl (aop_binI (u := (.int .i64 ((i0 + 1 + k + 1 : Nat) : Int))) rfl rfl rfl rfl rfl trivial (addN (by omega)) ?_)
    refine mG (.i ((i0 + 1 + k + 1 : Nat) : Int)) ?_
    refine op0 ?_
    show _ ∧ _
    have hs := delG_keep (fun x : En => decide (x.sec = s ∧ x.en = e)) dE (l := l) (j := i0 + 1 + k) (by omega) ((Bool.not_eq_true' _).mp hc2)
    refine ⟨by omega, trivial, ?_⟩
    exact imp_ler [(0, 0)] (lerL [(0, 0)] [((0, 0), .live ⟨(enc eEn ((delG (fun x : En => decide (x.sec = s ∧ x.en = e)) l (i0 + 1 + (k + 1))).1)), 114, 2⟩)] rfl (by decide) (by decide) ⟨row_no (o := ⟨(enc eEn (((delG (fun x : En => decide (x.sec = s ∧ x.en = e)) l (i0 + 1 + k)).1).set ((delG (fun x : En => decide (x.sec = s ∧ x.en = e)) l (i0 + 1 + k)).2) (⟨(((delG (fun x : En => decide (x.sec = s ∧ x.en = e)) l (i0 + 1 + k)).1).getD (i0 + 1 + k) dE).sec, (((delG (fun x : En => decide (x.sec = s ∧ x.en = e)) l (i0 + 1 + k)).1).getD (i0 + 1 + k) dE).en⟩ : En))), 114, 2⟩) rfl (by exact congrArg (fun l_ => LObj.mk (enc eEn l_) 114 2) (congrArg Prod.fst hs)), trivial⟩ (sr_same 6 (.i ((i0 + 1 + (k + 1) : Nat) : Int)) rfl NoI.out (sr_same 5 (.i (((delG (fun x : En => decide (x.sec = s ∧ x.en = e)) l (i0 + 1 + (k + 1))).2 : Nat) : Int)) (by exact congrArg (fun n_ : Int => AV.v (.int .i64 n_)) (congrArg (fun q : List En × Nat => ((q.2 : Nat) : Int)) hs.symm)) NoI.out (sr_same 4 (.v (.slice none 0 0)) rfl NoI.out (sr_same 1 (.fn 89 [.rp [.i s, .i e]]) rfl NoI.out (sr_map 0 (.sl 0 0 l.length) (by first | exact Ok.sl _ _ _ (by first | decide | simp) | exact Ok.pt _ _ (by first | decide | simp)) rfl sr_none)))))) (keep_of rfl)
   ·skip
    have hf5 := not_f hc2
    refine awp_skip ?_
    refine regR ?_
    refine mG (.i ((i0 + 1 + k : Nat) : Int)) ?_
    refine opG rfl (aop_binI (u := (.int .i64 ((i0 + 1 + k + 1 : Nat) : Int))) rfl rfl rfl rfl rfl trivial (addN (by omega)) ?_)
    refine mG (.i ((i0 + 1 + k + 1 : Nat) : Int)) ?_
    refine op0 ?_
    show _ ∧ _
    have hs := delG_drop (fun x : En => decide (x.sec = s ∧ x.en = e)) dE (l := l) (j := i0 + 1 + k) (by omega) ((Bool.not_eq_false' _).mp hc2)
    refine ⟨by omega, trivial, ?_⟩
    exact imp_ler [(0, 0)] (lerL [(0, 0)] [((0, 0), .live ⟨(enc eEn ((delG (fun x : En => decide (x.sec = s ∧ x.en = e)) l (i0 + 1 + (k + 1))).1)), 114, 2⟩)] rfl (by decide) (by decide) ⟨row_no (o := ⟨(enc eEn ((delG (fun x : En => decide (x.sec = s ∧ x.en = e)) l (i0 + 1 + k)).1)), 114, 2⟩) rfl (by exact congrArg (fun l_ => LObj.mk (enc eEn l_) 114 2) (congrArg Prod.fst hs)), trivial⟩ (sr_same 6 (.i ((i0 + 1 + (k + 1) : Nat) : Int)) rfl NoI.out (sr_same 5 (.i (((delG (fun x : En => decide (x.sec = s ∧ x.en = e)) l (i0 + 1 + (k + 1))).2 : Nat) : Int)) (by exact congrArg (fun n_ : Int => AV.v (.int .i64 n_)) (congrArg (fun q : List En × Nat => ((q.2 : Nat) : Int)) hs.symm)) NoI.out (sr_same 4 (.v (.slice none 0 0)) rfl NoI.out (sr_same 1 (.fn 89 [.rp [.i s, .i e]]) rfl NoI.out (sr_map 0 (.sl 0 0 l.length) (by first | exact Ok.sl _ _ _ (by first | decide | simp) | exact Ok.pt _ _ (by first | decide | simp)) rfl sr_none)))))) (keep_of rfl)
  ·skip
   have hf6 := of_decide_eq_false hc1
   refine awp_exit ?_
   refine seqR ?_
   refine mG (.sl 0 0 l.length) ?_
   refine mG (.i (((delG (fun x : En => decide (x.sec = s ∧ x.en = e)) l (i0 + 1 + k)).2 : Nat) : Int)) ?_
   refine opG rfl (aop_sliceFrom (l := (delG (fun x : En => decide (x.sec = s ∧ x.en = e)) l (i0 + 1 + k)).2) (ob := ⟨(enc eEn ((delG (fun x : En => decide (x.sec = s ∧ x.en = e)) l (i0 + 1 + k)).1)), 114, 2⟩) rfl rfl rfl ut115 sz114 rfl rfl rfl ⟨_, rfl⟩ (by first | omega | (simp; done) | decide | (simp at *; omega)) ?_)
   refine opG rfl (aop_clear (n := l.length - ((delG (fun x : En => decide (x.sec = s ∧ x.en = e)) l (i0 + 1 + k)).2)) (ob := ⟨(enc eEn ((delG (fun x : En => decide (x.sec = s ∧ x.en = e)) l (i0 + 1 + k)).1)), 114, 2⟩) rfl rfl rfl rfl ut115 (run_zero_ ze114) rfl rfl rfl (by first | omega | (simp; done) | decide | (simp at *; omega)) (clear_fit (fun _ => rfl) (by omega)) (clear_rowG (e := eEn) (v := dE) (s := 2) (i := (delG (fun x : En => decide (x.sec = s ∧ x.en = e)) l (i0 + 1 + k)).2) (n := l.length - (delG (fun x : En => decide (x.sec = s ∧ x.en = e)) l (i0 + 1 + k)).2) (fun _ => rfl) (zeros_enc (z := #[.int .i64 0, .int .i64 0]) rfl (by decide)) (by omega)) ?_)
   refine op0 ?_
   refine rs_ (upd (upd (upd none_ 0 (.sl 0 0 l.length)) 4 (.v (.slice none 0 0))) 5 (.i (((delG (fun x : En => decide (x.sec = s ∧ x.en = e)) l (i0 + 1 + k)).2 : Nat) : Int))) (updO (updO noOb 0 (.live ⟨(enc eEn ((delG (fun x : En => decide (x.sec = s ∧ x.en = e)) l (i0 + 1 + k)).1)), 114, 2⟩)) 0 (.live ⟨(enc eEn ((delG (fun x : En => decide (x.sec = s ∧ x.en = e)) l (i0 + 1 + k)).1.take (delG (fun x : En => decide (x.sec = s ∧ x.en = e)) l (i0 + 1 + k)).2 ++ List.replicate (l.length - (delG (fun x : En => decide (x.sec = s ∧ x.en = e)) l (i0 + 1 + k)).2) dE)), 114, 2⟩)) (lu rfl (lu rfl (lu rfl ln))) rfl ?_
   refine seqR ?_
   refine mG (.sl 0 0 l.length) ?_
   refine mG (.i (((delG (fun x : En => decide (x.sec = s ∧ x.en = e)) l (i0 + 1 + k)).2 : Nat) : Int)) ?_
   refine opG rfl (aop_sliceOwn (hgh := (delG (fun x : En => decide (x.sec = s ∧ x.en = e)) l (i0 + 1 + k)).2) rfl rfl rfl ut115 sz114 rfl ⟨_, rfl⟩ (by first | omega | (simp; done) | decide | (simp at *; omega)) ?_)
   refine mG (.sl 0 0 ((delG (fun x : En => decide (x.sec = s ∧ x.en = e)) l (i0 + 1 + k)).2)) ?_
   refine op0 ?_
   refine rs_ (upd none_ 4 (.sl 0 0 ((delG (fun x : En => decide (x.sec = s ∧ x.en = e)) l (i0 + 1 + k)).2))) (updO (updO noOb 0 (.live ⟨(enc eEn ((delG (fun x : En => decide (x.sec = s ∧ x.en = e)) l (i0 + 1 + k)).1)), 114, 2⟩)) 0 (.live ⟨(enc eEn ((delG (fun x : En => decide (x.sec = s ∧ x.en = e)) l (i0 + 1 + k)).1.take (delG (fun x : En => decide (x.sec = s ∧ x.en = e)) l (i0 + 1 + k)).2 ++ List.replicate (l.length - (delG (fun x : En => decide (x.sec = s ∧ x.en = e)) l (i0 + 1 + k)).2) dE)), 114, 2⟩)) (lu rfl ln) rfl ?_
   have hjk : i0 + 1 + k = l.length := by omega
   rw [hjk, List.take_of_length_le (Nat.le_refl _)] at hv4 hv5
   refine awp_imp ⟨(upd none_ 4 (.sl 0 0 ((restG (fun x : En => decide (x.sec = s ∧ x.en = e)) l).length))), (updO noOb 0 (.live ⟨(enc eEn (restG (fun x : En => decide (x.sec = s ∧ x.en = e)) l ++ List.replicate (l.length - (restG (fun x : En => decide (x.sec = s ∧ x.en = e)) l).length) dE)), 114, 2⟩))⟩ ?_ ?_
   ·skip
    exact imp_ler [(0, 0)] (lerL [(0, 0)] [((0, 0), .live ⟨(enc eEn (restG (fun x : En => decide (x.sec = s ∧ x.en = e)) l ++ List.replicate (l.length - (restG (fun x : En => decide (x.sec = s ∧ x.en = e)) l).length) dE)), 114, 2⟩)] rfl (by decide) (by decide) ⟨row_no (o := ⟨(enc eEn ((delG (fun x : En => decide (x.sec = s ∧ x.en = e)) l (i0 + 1 + k)).1.take (delG (fun x : En => decide (x.sec = s ∧ x.en = e)) l (i0 + 1 + k)).2 ++ List.replicate (l.length - (delG (fun x : En => decide (x.sec = s ∧ x.en = e)) l (i0 + 1 + k)).2) dE)), 114, 2⟩) rfl (by exact congrArg (fun l_ => LObj.mk (enc eEn l_) 114 2) (by rw [hjk, hv4, hv5])), trivial⟩ (sr_map 4 (.sl 0 0 ((restG (fun x : En => decide (x.sec = s ∧ x.en = e)) l).length)) (by first | exact Ok.sl _ _ _ (by first | decide | simp) | exact Ok.pt _ _ (by first | decide | simp)) (by exact congrArg (AV.sl 0 0) (by rw [hjk, hv5])) sr_none)) (keep_of rfl)
   refine awp_ret ?_
   exact fretG rfl rfl rfl rfl
theorem growE (n : Nat) (hn : n ≤ 4294967296) : FnO Try.prog 95 [.v (.slice none 0 0), .v (.int .i64 (n : Int))] (.sl 0 0 0) [⟨[], 114, 2⟩] := by
 refine fnE_of_body (N := 27) Try.func95 rfl rfl (resOf1 rfl) (by simp) (fun w0 X hL_ => ?_)
 refine seqR ?_
 refine mG (.v (.slice none 0 0)) ?_
 refine op0 ?_
 refine awp_seq ?_
 refine seqR ?_
 refine mG (.i (n : Int)) ?_
 refine bG ((.bool (decide ((n : Int) < 0)))) ?_
 refine op0 ?_
 refine awp_cond (decide ((n : Int) < 0)) rfl rfl (fun hc0 => ?_) (fun hc0 => ?_)
 ·skip
  have hf1 := of_decide_eq_true hc0
  exfalso; omega
 ·skip
  have hf2 := of_decide_eq_false hc0
  refine awp_skip ?_
  refine awp_seq ?_
  refine seqR ?_
  refine mG (.i (n : Int)) ?_
  refine mG (.v (.slice none 0 0)) ?_
  refine opG rfl (aop_capNil rfl rfl rfl rfl ut115 rfl ?_)
  refine mG (.v (.slice none 0 0)) ?_
  refine opG rfl (aop_len rfl rfl rfl rfl ut115 (len_nil rfl) ?_)
  refine bG ((.int .i64 0)) ?_
  refine opG rfl (aop_binI (u := (.int .i64 (n : Int))) rfl rfl rfl rfl rfl trivial (subZ (by omega)) ?_)
  refine mG (.i (n : Int)) ?_
  refine op0 ?_
  refine rs_ (upd (upd (upd none_ 0 (.v (.slice none 0 0))) 1 (.i (n : Int))) 4 (.v (.slice none 0 0))) noOb (lu rfl (lu rfl (lu rfl ln))) rfl ?_
  refine seqR ?_
  refine mG (.i (n : Int)) ?_
  refine bG ((.bool (decide ((n : Int) > 0)))) ?_
  refine op0 ?_
  refine awp_cond (decide ((n : Int) > 0)) rfl rfl (fun hc1 => ?_) (fun hc1 => ?_)
  ·skip
   have hf3 := of_decide_eq_true hc1
   refine regR ?_
   refine mG (.v (.slice none 0 0)) ?_
   refine mG (.v (.slice none 0 0)) ?_
   refine opG rfl (aop_capNil rfl rfl rfl rfl ut115 rfl ?_)
   refine opG rfl (aop_sliceNil rfl rfl rfl ut115 sz114 rfl rfl ⟨_, rfl⟩ ?_)
   refine mG (.i (n : Int)) ?_
   refine opG rfl (aop_appZ (n := n) 51 rfl rfl rfl rfl ut115 ut3 in114 rfl (by decide) rfl rfl (by omega) (by omega) (by omega) rfl ?_)
   refine mG (.v (.slice none 0 0)) ?_
   refine opG rfl (aop_len rfl rfl rfl rfl ut115 (len_nil rfl) ?_)
   refine opG rfl (aop_sliceOwn (hgh := 0) rfl rfl rfl ut115 sz114 rfl ⟨_, rfl⟩ (by first | omega | (simp; done) | decide | (simp at *; omega)) ?_)
   refine mG (.sl 51 0 0) ?_
   refine op0 ?_
   refine rs_ (upd (upd none_ 0 (.sl 51 0 0)) 4 (.v (.slice none 0 0))) (updO noOb 51 (.live ⟨[], 114, 2⟩)) (lu rfl (lu rfl ln)) rfl ?_
   refine seqR ?_
   refine mG (.sl 51 0 0) ?_
   refine mG (.sl 51 0 0) ?_
   refine op0 ?_
   refine awp_ret ?_
   exact fretO 51 rfl rfl rfl rfl rfl
  ·skip
   have hf4 := of_decide_eq_false hc1
   refine awp_skip ?_
   refine seqR ?_
   refine mG (.v (.slice none 0 0)) ?_
   refine mG (.v (.slice none 0 0)) ?_
   refine op0 ?_
   refine rs_ (upd none_ 4 (.v (.slice none 0 0))) noOb (lu rfl ln) rfl ?_
   refine awp_imp _ (imp_adopt 4 52 114 2 rfl rfl) ?_
   refine awp_ret ?_
   exact fretO 52 rfl rfl rfl rfl rfl
theorem concE (ls : List (List En)) (hl : ls.length ≤ 16) (hx : ∀ x, x ∈ ls → x.length ≤ 65536) : Fn Try.prog 90 [.ro ls.length (enc eEL ls)] (.ro ls.flatten.length (enc eEn ls.flatten)) := by
 refine fnE_of_body (N := 36) Try.func90 rfl rfl (resOf1 rfl) (by simp) (fun w0 X hL_ => ?_)
 refine seqR ?_
 refine mG (.v (.slice none 0 0)) ?_
 refine op0 ?_
 refine seqR ?_
 refine mG (.i 0) ?_
 refine op0 ?_
 refine awp_seq ?_
 refine seqR ?_
 refine mG (.q eEL ls) ?_
 refine opG rfl (aop_len rfl rfl rfl rfl ut159 (len_ro rfl) ?_)
 refine mG (.i 0) ?_
 refine op0 ?_
 refine rs_ (upd (upd (upd (upd (upd (upd none_ 0 (.q eEL ls)) 2 (.v (.slice none 0 0))) 3 (.i 0)) 9 (.q eEL ls)) 10 (.i (ls.length : Int))) 11 (.i 0)) noOb (lu rfl (lu rfl (lu rfl (lu rfl (lu rfl (lu rfl ln)))))) rfl ?_
 refine awp_block ?_
 refine awp_countI (fun k => ⟨(upd (upd (upd (upd (upd (upd none_ 0 (.q eEL ls)) 2 (.v (.slice none 0 0))) 3 (.i ((catK ls k).length : Int))) 9 (.q eEL ls)) 10 (.i (ls.length : Int))) 11 (.i (k : Int))), noOb⟩) (fun k => True) (ls.length) ?_ trivial (fun k hk_k hinv => ?_)
 ·skip
  exact imp_ler [] (ler0 (sS rfl (sS rfl (sS rfl (sS rfl (sS rfl (sS rfl sr_none))))))) (keep_of rfl)
 have hcl := catK_len hx k
 refine seqR ?_
 refine bG ((.bool (decide ((k : Int) < (ls.length : Int))))) ?_
 refine op0 ?_
 refine awp_seq ?_
 refine awp_cond (decide ((k : Int) < (ls.length : Int))) rfl rfl (fun hc0 => ?_) (fun hc0 => ?_)
 ·skip
  have hf1 := of_decide_eq_true hc0
  have hkl : k < ls.length := by omega
  have hxk := hx _ (getD_mem [] hkl)
  refine awp_skip ?_
  refine awp_seq ?_
  refine awp_block ?_
  refine seqR ?_
  refine opG rfl (aop_ixE [] rfl rfl rfl ut159 sz115 rfl rfl (fun _ => rfl) rfl (by first | omega | (simp; done) | decide | (simp at *; omega)) ?_)
  refine opG rfl (aop_ld (av := .q eEn (ls.getD k [])) rfl rfl rfl ag115 rfl rfl ?_)
  refine mG (.q eEn (ls.getD k [])) ?_
  refine op0 ?_
  refine rs_ (upd (upd (upd (upd (upd (upd (upd none_ 0 (.q eEL ls)) 2 (.v (.slice none 0 0))) 3 (.i ((catK ls k).length : Int))) 5 (.q eEn (ls.getD k []))) 9 (.q eEL ls)) 10 (.i (ls.length : Int))) 11 (.i (k : Int))) noOb (lu rfl (lu rfl (lu rfl (lu rfl (lu rfl (lu rfl (lu rfl ln))))))) rfl ?_
  refine seqR ?_
  refine mG (.i ((catK ls k).length : Int)) ?_
  refine mG (.q eEn (ls.getD k [])) ?_
  refine opG rfl (aop_len rfl rfl rfl rfl ut115 (len_ro rfl) ?_)
  refine opG rfl (aop_binI (u := (.int .i64 (((catK ls k).length : Int) + ((ls.getD k []).length : Int)))) rfl rfl rfl rfl rfl trivial (addI (by omega)) ?_)
  refine mG (.i (((catK ls k).length : Int) + ((ls.getD k []).length : Int))) ?_
  refine op0 ?_
  refine rs_ (upd (upd (upd (upd (upd (upd (upd none_ 0 (.q eEL ls)) 2 (.v (.slice none 0 0))) 3 (.i (((catK ls k).length : Int) + ((ls.getD k []).length : Int)))) 5 (.q eEn (ls.getD k []))) 9 (.q eEL ls)) 10 (.i (ls.length : Int))) 11 (.i (k : Int))) noOb (lu rfl (lu rfl (lu rfl (lu rfl (lu rfl (lu rfl (lu rfl ln))))))) rfl ?_
  refine seqR ?_
  refine mG (.i (((catK ls k).length : Int) + ((ls.getD k []).length : Int))) ?_
  refine bG ((.bool (decide ((((catK ls k).length : Int) + ((ls.getD k []).length : Int)) < 0)))) ?_
  refine op0 ?_
  refine awp_cond (decide ((((catK ls k).length : Int) + ((ls.getD k []).length : Int)) < 0)) rfl rfl (fun hc1 => ?_) (fun hc1 => ?_)
  ·skip
   have hf2 := of_decide_eq_true hc1
   exfalso; omega
  ·skip
   have hf3 := of_decide_eq_false hc1
   refine awp_skip ?_
   refine regR ?_
   refine opG rfl (aop_binI (u := (.int .i64 ((k + 1 : Nat) : Int))) rfl rfl rfl rfl rfl trivial (addN (by omega)) ?_)
   refine mG (.i ((k + 1 : Nat) : Int)) ?_
   refine op0 ?_
   show _ ∧ _
   have hs_ := catK_step (d := []) hkl
   refine ⟨by omega, trivial, ?_⟩
   exact imp_ler [] (ler0 (sS rfl (sS rfl (sS rfl (sS (by exact congrArg (fun n_ : Int => AV.v (.int .i64 n_)) (by rw [hs_, List.length_append]; omega)) (sS rfl (sS rfl sr_none))))))) (keep_of rfl)
 ·skip
  have hf4 := of_decide_eq_false hc0
  refine awp_exit ?_
  refine seqR ?_
  refine mG (.i ((catK ls k).length : Int)) ?_
  refine opG rfl (callO_ 51 (growE ((catK ls k).length) (by first | omega | (simp; done) | decide | (simp at *; omega))) rfl rfl rfl rfl rfl bd95 (lends_cons (lend_n (av := .v (.slice none 0 0))) (lends_cons (lend_n (av := .i ((catK ls k).length : Int))) lends_nil)) (.sl _ _ _ trivial) (news1 news0) (free1 rfl) rfl rfl ?_)
  refine mG (.sl 51 0 0) ?_
  refine op0 ?_
  refine rs_ (upd (upd (upd none_ 0 (.q eEL ls)) 2 (.v (.slice none 0 0))) 6 (.sl 51 0 0)) (updO noOb 51 (.live ⟨[], 114, 2⟩)) (lu rfl (lu rfl (lu rfl ln))) rfl ?_
  refine awp_seq ?_
  refine seqR ?_
  refine mG (.q eEL ls) ?_
  refine opG rfl (aop_len rfl rfl rfl rfl ut159 (len_ro rfl) ?_)
  refine mG (.i 0) ?_
  refine op0 ?_
  refine awp_block ?_
  refine awp_countI (fun j => ⟨(upd (upd (upd (upd (upd none_ 2 (.v (.slice none 0 0))) 6 (.sl 1 0 ((catK ls j).length))) 25 (.q eEL ls)) 26 (.i (ls.length : Int))) 27 (.i (j : Int))), (updO noOb 1 (.live ⟨(enc eEn (catK ls j)), 114, 2⟩))⟩) (fun j => True) (ls.length) ?_ trivial (fun j hk_j hinv => ?_)
  ·skip
   exact imp_ler [(51, 1)] (lerI 51 1 rfl rfl (sS rfl (sS rfl (sS rfl (sM rfl (sS rfl sr_none)))))) (keep_of rfl)
  have hcl2 := catK_len hx j
  refine seqR ?_
  refine bG ((.bool (decide ((j : Int) < (ls.length : Int))))) ?_
  refine op0 ?_
  refine awp_seq ?_
  refine awp_cond (decide ((j : Int) < (ls.length : Int))) rfl rfl (fun hc2 => ?_) (fun hc2 => ?_)
  ·skip
   have hf5 := of_decide_eq_true hc2
   have hjl : j < ls.length := by omega
   have hxj := hx _ (getD_mem [] hjl)
   refine awp_skip ?_
   refine awp_seq ?_
   refine awp_block ?_
   refine seqR ?_
   refine opG rfl (aop_ixE [] rfl rfl rfl ut159 sz115 rfl rfl (fun _ => rfl) rfl (by first | omega | (simp; done) | decide | (simp at *; omega)) ?_)
   refine opG rfl (aop_ld (av := .q eEn (ls.getD j [])) rfl rfl rfl ag115 rfl rfl ?_)
   refine mG (.q eEn (ls.getD j [])) ?_
   refine op0 ?_
   refine rs_ (upd (upd (upd (upd (upd (upd none_ 2 (.v (.slice none 0 0))) 6 (.sl 1 0 ((catK ls j).length))) 8 (.q eEn (ls.getD j []))) 25 (.q eEL ls)) 26 (.i (ls.length : Int))) 27 (.i (j : Int))) (updO noOb 1 (.live ⟨(enc eEn (catK ls j)), 114, 2⟩)) (lu rfl (lu rfl (lu rfl (lu rfl (lu rfl (lu rfl ln)))))) rfl ?_
   refine regR ?_
   refine mG (.sl 1 0 ((catK ls j).length)) ?_
   refine mG (.q eEn (ls.getD j [])) ?_
   refine opG rfl (aop_appE (f := eEn) (l := catK ls j) (l2 := ls.getD j []) 52 rfl rfl rfl rfl ut115 in114 rfl (by decide) rfl rfl rfl rfl rfl rfl (fun _ => rfl) rfl rfl rfl (by first | omega | (simp; done) | decide | (simp at *; omega)) (by first | omega | (simp; done) | decide | (simp at *; omega)) rfl ?_)
   refine mG (.sl 52 0 (((catK ls j) ++ (ls.getD j [])).length)) ?_
   refine op0 ?_
   refine rs_ (upd (upd (upd (upd (upd (upd none_ 2 (.v (.slice none 0 0))) 6 (.sl 52 0 (((catK ls j) ++ (ls.getD j [])).length))) 8 (.q eEn (ls.getD j []))) 25 (.q eEL ls)) 26 (.i (ls.length : Int))) 27 (.i (j : Int))) (updO (updO (updO noOb 1 (.live ⟨(enc eEn (catK ls j)), 114, 2⟩)) 1 .dead) 52 (.live ⟨(enc eEn ((catK ls j) ++ (ls.getD j []))), 114, 2⟩)) (lu rfl (lu rfl (lu rfl (lu rfl (lu rfl (lu rfl ln)))))) rfl ?_
   refine regR ?_
   refine opG rfl (aop_binI (u := (.int .i64 ((j + 1 : Nat) : Int))) rfl rfl rfl rfl rfl trivial (addN (by omega)) ?_)
   refine mG (.i ((j + 1 : Nat) : Int)) ?_
   refine op0 ?_
   show _ ∧ _
   have hs_ := catK_step (d := []) hjl
   refine ⟨by omega, trivial, ?_⟩
   exact imp_ler [(52, 1)] (lerI 52 1 rfl (by exact congrArg (fun l_ => LObj.mk (enc eEn l_) 114 2) hs_) (sS rfl (sS rfl (sS rfl (sM (by exact congrArg (AV.sl 1 0) (congrArg List.length hs_.symm)) (sS rfl sr_none)))))) (keep_of rfl)
  ·skip
   have hf6 := of_decide_eq_false hc2
   refine awp_exit ?_
   refine seqR ?_
   refine mG (.sl 1 0 ((catK ls j).length)) ?_
   refine mG (.sl 1 0 ((catK ls j).length)) ?_
   refine op0 ?_
   have he : catK ls j = ls.flatten := by unfold catK; rw [List.take_of_length_le (by omega)]
   refine awp_imp _ (imp_frozen rfl (fun _ h => h) (lee_lend 2 (.q eEn (catK ls j)) (lend_s (id := 1) (n := (catK ls j).length) (o := ⟨(enc eEn (catK ls j)), 114, 2⟩) rfl (enc_len (fun _ => rfl) (by first | rfl | (simp; done)))) lee_lend0)) ?_
   refine awp_ret ?_
   exact fret (av := .ro ((catK ls j).length) (enc eEn (catK ls j))) rfl rfl (by rw [he])
theorem g_Around (secs : List Sec) (pts : List Pnt) (s e : Int) (hs : secs.length ≤ 65536) (hp : pts.length ≤ 65536) : Fn Try.prog 79 [.rp [.one, .ro secs.length (enc eSec secs), .one, .ro pts.length (enc ePnt pts), .one, .one, .one, .one, .one, .one], .agg [.v (.int .i64 s), .v (.int .i64 e)]] (.ro ((aroundL secs pts s e).length) (enc eEn (aroundL secs pts s e))) := by
 refine fnE_of_body (N := 70) Try.func79 rfl rfl (resOf1 rfl) (by simp) (fun w0 X hL_ => ?_)
 refine seqR ?_
 refine opG rfl (aop_box 51 rfl rfl rfl rfl rfl rfl rfl ?_)
 refine mG (.v (.slice none 0 0)) ?_
 refine op0 ?_
 refine seqR ?_
 refine mG (.rp [.one, .q eSec secs, .one, .q ePnt pts, .one, .one, .one, .one, .one, .one]) ?_
 refine opG rfl (aop_ldB (cells' := [.i s, .i e]) rfl rfl rfl ag114 sz114 rfl rfl rfl rfl ?_)
 refine opG rfl (callW_ (g_node secs s e (by first | omega | (simp; done) | decide | (simp at *; omega))) rfl rfl rfl rfl rfl bd85 (lends_cons (lend_rpw (lends_cons (lend_n (av := .one)) (lends_cons (lend_n (av := .q eSec secs)) (lends_cons (lend_n (av := .one)) (lends_cons (.one _ rfl) (lends_cons (lend_n (av := .one)) (lends_cons (lend_n (av := .one)) (lends_cons (lend_n (av := .one)) (lends_cons (lend_n (av := .one)) (lends_cons (lend_n (av := .one)) (lends_cons (lend_n (av := .one)) lends_nil))))))))))) (lends_cons (lend_n (av := .agg [.i s, .i e])) lends_nil)) ?_)
 refine mG (.tup [.i (nodeA secs s e), .b (!noNode secs s e)]) ?_
 refine opG rfl (aop_extract rfl rfl rfl rfl rfl ?_)
 refine opG rfl (aop_extract rfl rfl rfl rfl rfl ?_)
 refine mG (.i (nodeA secs s e)) ?_
 refine mG (.b (!noNode secs s e)) ?_
 refine op0 ?_
 refine rs_ (upd (upd (upd (upd (upd none_ 0 (.rp [.one, .q eSec secs, .one, .q ePnt pts, .one, .one, .one, .one, .one, .one])) 3 (.pt 51 0)) 4 (.v (.slice none 0 0))) 5 (.i (nodeA secs s e))) 6 (.b (!noNode secs s e))) (updO noOb 51 (.live ⟨[.i s, .i e], 114, 1⟩)) (lu rfl (lu rfl (lu rfl (lu rfl (lu rfl ln))))) rfl ?_
 refine awp_seq ?_
 refine seqR ?_
 refine mG (.b (!noNode secs s e)) ?_
 refine opG rfl (aop_not rfl rfl rfl rfl ?_)
 refine op0 ?_
 refine awp_cond (!(!noNode secs s e)) rfl rfl (fun hc0 => ?_) (fun hc0 => ?_)
 ·skip
  have hf1 := not_t hc0
  have hn : noNode secs s e = true := by simpa using hc0
  refine seqR ?_
  refine mG (.v (.slice none 0 0)) ?_
  refine op0 ?_
  refine awp_imp _ (imp_frozen rfl (fun _ h => h) (lee_lend 4 (.ro 0 []) .nil lee_lend0)) ?_
  refine awp_ret ?_
  exact fret (av := .ro 0 []) rfl rfl (by rw [around_no hn]; rfl)
 ·skip
  have hf2 := not_f hc0
  have hn : noNode secs s e = false := by simpa using hc0
  have hr_ := pointI_range pts (nodeA secs s e)
  refine awp_skip ?_
  refine seqR ?_
  refine mG (.rp [.one, .q eSec secs, .one, .q ePnt pts, .one, .one, .one, .one, .one, .one]) ?_
  refine mG (.i (nodeA secs s e)) ?_
  refine opG rfl (callW_ (g_Point pts (nodeA secs s e) (by first | omega | (simp; done) | decide | (simp at *; omega))) rfl rfl rfl rfl rfl bd86 (lends_cons (lend_rpw (lends_cons (lend_n (av := .one)) (lends_cons (.one _ rfl) (lends_cons (lend_n (av := .one)) (lends_cons (lend_n (av := .q ePnt pts)) (lends_cons (lend_n (av := .one)) (lends_cons (lend_n (av := .one)) (lends_cons (lend_n (av := .one)) (lends_cons (lend_n (av := .one)) (lends_cons (lend_n (av := .one)) (lends_cons (lend_n (av := .one)) lends_nil))))))))))) (lends_cons (lend_n (av := .i (nodeA secs s e))) lends_nil)) ?_)
  refine mG (.i (pointI pts (nodeA secs s e))) ?_
  refine op0 ?_
  refine rs_ (upd (upd (upd (upd (upd none_ 0 (.rp [.one, .q eSec secs, .one, .q ePnt pts, .one, .one, .one, .one, .one, .one])) 3 (.pt 51 0)) 4 (.v (.slice none 0 0))) 5 (.i (nodeA secs s e))) 7 (.i (pointI pts (nodeA secs s e)))) (updO noOb 51 (.live ⟨[.i s, .i e], 114, 1⟩)) (lu rfl (lu rfl (lu rfl (lu rfl (lu rfl ln))))) rfl ?_
  refine awp_seq ?_
  refine seqR ?_
  refine mG (.i (pointI pts (nodeA secs s e))) ?_
  refine bG ((.bool (decide ((pointI pts (nodeA secs s e)) < 0)))) ?_
  refine op0 ?_
  refine awp_cond (decide ((pointI pts (nodeA secs s e)) < 0)) rfl rfl (fun hc1 => ?_) (fun hc1 => ?_)
  ·skip
   have hf3 := of_decide_eq_true hc1
   have hi : ¬ 0 ≤ pointI pts (nodeA secs s e) := by omega
   have hle0 := endsL_len secs (nodeA secs s e)
   refine seqR ?_
   refine mG (.rp [.one, .q eSec secs, .one, .q ePnt pts, .one, .one, .one, .one, .one, .one]) ?_
   refine mG (.i (nodeA secs s e)) ?_
   refine opG rfl (callO_ 52 (g_Ends secs (nodeA secs s e) (by first | omega | (simp; done) | decide | (simp at *; omega))) rfl rfl rfl rfl rfl bd88 (lends_cons (lend_rpw (lends_cons (lend_n (av := .one)) (lends_cons (lend_n (av := .q eSec secs)) (lends_cons (lend_n (av := .one)) (lends_cons (.one _ rfl) (lends_cons (lend_n (av := .one)) (lends_cons (lend_n (av := .one)) (lends_cons (lend_n (av := .one)) (lends_cons (lend_n (av := .one)) (lends_cons (lend_n (av := .one)) (lends_cons (lend_n (av := .one)) lends_nil))))))))))) (lends_cons (lend_n (av := .i (nodeA secs s e))) lends_nil)) (.sl _ _ _ trivial) (news1 news0) (free1 rfl) rfl rfl ?_)
   refine opG rfl (aop_makeFunc (caps := [.tmp 3]) rfl rfl rfl rfl ?_)
   refine opG rfl (callG_ true [52] [] (delE (endsL secs (nodeA secs s e)) s e (by first | omega | (simp; done) | decide | (simp at *; omega))) rfl rfl rfl rfl rfl bd87 (by decide) ⟨giv_no (o := ⟨(enc eEn (endsL secs (nodeA secs s e))), 114, 2⟩) rfl rfl, trivial⟩ ⟨(arg_own (.sl _ _ _ (by simp)) rfl), (arg_lent (lend_fn (lends_cons (lend_pt rfl (lends_cons (lend_n (av := .i s)) (lends_cons (lend_n (av := .i e)) lends_nil))) lends_nil))), trivial⟩ rfl trivial (fun _ => ⟨.sl _ _ _ trivial, ⟨(fun c hc => ((inferInstance : FlatL (enc eEn (restG (fun x : En => decide (x.sec = s ∧ x.en = e)) (endsL secs (nodeA secs s e)) ++ List.replicate ((endsL secs (nodeA secs s e)).length - (restG (fun x : En => decide (x.sec = s ∧ x.en = e)) (endsL secs (nodeA secs s e))).length) dE))).out c hc).mono (fun _ h => h.elim) id), trivial⟩⟩) rfl (place_cons (ost_no (cs := (enc eEn (restG (fun x : En => decide (x.sec = s ∧ x.en = e)) (endsL secs (nodeA secs s e)) ++ List.replicate ((endsL secs (nodeA secs s e)).length - (restG (fun x : En => decide (x.sec = s ∧ x.en = e)) (endsL secs (nodeA secs s e))).length) dE)))) place_nil) ?_)
   refine mG (.sl 52 0 ((restG (fun x : En => decide (x.sec = s ∧ x.en = e)) (endsL secs (nodeA secs s e))).length)) ?_
   refine op0 ?_
   refine rs_ (upd (upd (upd (upd (upd (upd none_ 0 (.rp [.one, .q eSec secs, .one, .q ePnt pts, .one, .one, .one, .one, .one, .one])) 3 (.pt 51 0)) 4 (.v (.slice none 0 0))) 5 (.i (nodeA secs s e))) 7 (.i (pointI pts (nodeA secs s e)))) 8 (.sl 52 0 ((restG (fun x : En => decide (x.sec = s ∧ x.en = e)) (endsL secs (nodeA secs s e))).length))) (updO (updO (updO noOb 51 (.live ⟨[.i s, .i e], 114, 1⟩)) 52 (.live ⟨(enc eEn (endsL secs (nodeA secs s e))), 114, 2⟩)) 52 (.live ⟨(enc eEn (restG (fun x : En => decide (x.sec = s ∧ x.en = e)) (endsL secs (nodeA secs s e)) ++ List.replicate ((endsL secs (nodeA secs s e)).length - (restG (fun x : En => decide (x.sec = s ∧ x.en = e)) (endsL secs (nodeA secs s e))).length) dE)), 114, 2⟩)) (lu rfl (lu rfl (lu rfl (lu rfl (lu rfl (lu rfl ln)))))) rfl ?_
   refine awp_seq ?_
   refine seqR ?_
   refine mG (.sl 52 0 ((restG (fun x : En => decide (x.sec = s ∧ x.en = e)) (endsL secs (nodeA secs s e))).length)) ?_
   refine opG rfl (aop_len rfl rfl rfl rfl ut115 (len_sl rfl) ?_)
   refine bG ((.bool (((restG (fun x : En => decide (x.sec = s ∧ x.en = e)) (endsL secs (nodeA secs s e))).length : Int) != 1))) ?_
   refine op0 ?_
   refine awp_cond (((restG (fun x : En => decide (x.sec = s ∧ x.en = e)) (endsL secs (nodeA secs s e))).length : Int) != 1) rfl rfl (fun hc2 => ?_) (fun hc2 => ?_)
   ·skip
    have hf4 := (bne_iff_ne).1 hc2
    have hlen : ¬ (otherE secs (nodeA secs s e) s e).length = 1 := by rw [otherE_rest]; simp at hc2; omega
    refine seqR ?_
    refine mG (.v (.slice none 0 0)) ?_
    refine op0 ?_
    refine rs_ (upd (upd (upd (upd (upd (upd none_ 0 (.rp [.one, .q eSec secs, .one, .q ePnt pts, .one, .one, .one, .one, .one, .one])) 3 (.pt 51 0)) 4 (.v (.slice none 0 0))) 5 (.i (nodeA secs s e))) 7 (.i (pointI pts (nodeA secs s e)))) 8 (.sl 52 0 ((restG (fun x : En => decide (x.sec = s ∧ x.en = e)) (endsL secs (nodeA secs s e))).length))) (updO (updO (updO noOb 51 (.live ⟨[.i s, .i e], 114, 1⟩)) 52 (.live ⟨(enc eEn (endsL secs (nodeA secs s e))), 114, 2⟩)) 52 (.live ⟨(enc eEn (restG (fun x : En => decide (x.sec = s ∧ x.en = e)) (endsL secs (nodeA secs s e)) ++ List.replicate ((endsL secs (nodeA secs s e)).length - (restG (fun x : En => decide (x.sec = s ∧ x.en = e)) (endsL secs (nodeA secs s e))).length) dE)), 114, 2⟩)) (lu rfl (lu rfl (lu rfl (lu rfl (lu rfl (lu rfl ln)))))) rfl ?_
    refine awp_imp _ (imp_frozen rfl (fun _ h => h) (lee_lend 4 (.ro 0 []) .nil lee_lend0)) ?_
    refine awp_ret ?_
    exact fret (av := .ro 0 []) rfl rfl (by rw [around_many hn hi hlen]; rfl)
   ·skip
    have hf5 := (bne_eq_false_iff_eq).1 hc2
    have hlen : (otherE secs (nodeA secs s e) s e).length = 1 := by rw [otherE_rest]; simp at hc2; omega
    refine awp_skip ?_
    refine seqR ?_
    refine mG (.sl 52 0 ((restG (fun x : En => decide (x.sec = s ∧ x.en = e)) (endsL secs (nodeA secs s e))).length)) ?_
    refine mG (.sl 52 0 ((restG (fun x : En => decide (x.sec = s ∧ x.en = e)) (endsL secs (nodeA secs s e))).length)) ?_
    refine op0 ?_
    refine rs_ (upd (upd (upd (upd (upd none_ 0 (.rp [.one, .q eSec secs, .one, .q ePnt pts, .one, .one, .one, .one, .one, .one])) 3 (.pt 51 0)) 4 (.sl 52 0 ((restG (fun x : En => decide (x.sec = s ∧ x.en = e)) (endsL secs (nodeA secs s e))).length))) 5 (.i (nodeA secs s e))) 7 (.i (pointI pts (nodeA secs s e)))) (updO (updO (updO noOb 51 (.live ⟨[.i s, .i e], 114, 1⟩)) 52 (.live ⟨(enc eEn (endsL secs (nodeA secs s e))), 114, 2⟩)) 52 (.live ⟨(enc eEn (restG (fun x : En => decide (x.sec = s ∧ x.en = e)) (endsL secs (nodeA secs s e)) ++ List.replicate ((endsL secs (nodeA secs s e)).length - (restG (fun x : En => decide (x.sec = s ∧ x.en = e)) (endsL secs (nodeA secs s e))).length) dE)), 114, 2⟩)) (lu rfl (lu rfl (lu rfl (lu rfl (lu rfl ln))))) rfl ?_
    refine awp_imp _ (imp_frozen rfl (fun _ h => h) (lee_lend 4 (.q eEn (restG (fun x : En => decide (x.sec = s ∧ x.en = e)) (endsL secs (nodeA secs s e)))) (lend_p (id := 52) (n := (restG (fun x : En => decide (x.sec = s ∧ x.en = e)) (endsL secs (nodeA secs s e))).length) (o := ⟨(enc eEn (restG (fun x : En => decide (x.sec = s ∧ x.en = e)) (endsL secs (nodeA secs s e)) ++ List.replicate ((endsL secs (nodeA secs s e)).length - (restG (fun x : En => decide (x.sec = s ∧ x.en = e)) (endsL secs (nodeA secs s e))).length) dE)), 114, 2⟩) (f := eEn) (l := restG (fun x : En => decide (x.sec = s ∧ x.en = e)) (endsL secs (nodeA secs s e))) (rest := List.replicate ((endsL secs (nodeA secs s e)).length - (restG (fun x : En => decide (x.sec = s ∧ x.en = e)) (endsL secs (nodeA secs s e))).length) dE) rfl rfl rfl (fun _ => rfl)) lee_lend0)) ?_
    refine awp_ret ?_
    exact fret (av := .ro ((restG (fun x : En => decide (x.sec = s ∧ x.en = e)) (endsL secs (nodeA secs s e))).length) (enc eEn (restG (fun x : En => decide (x.sec = s ∧ x.en = e)) (endsL secs (nodeA secs s e))))) rfl rfl (by rw [around_one hn hi hlen, otherE_rest])
  ·skip
   have hf6 := of_decide_eq_false hc1
   have hi : 0 ≤ pointI pts (nodeA secs s e) := by omega
   have ho1 := oneE_len secs (pts.getD (pointI pts (nodeA secs s e)).toNat dP).left (nodeA secs s e)
   have ho2 := oneE_len secs (pts.getD (pointI pts (nodeA secs s e)).toNat dP).right (nodeA secs s e)
   have hxl : ∀ x, x ∈ [oneE secs (pts.getD (pointI pts (nodeA secs s e)).toNat dP).left (nodeA secs s e), oneE secs (pts.getD (pointI pts (nodeA secs s e)).toNat dP).right (nodeA secs s e)] → x.length ≤ 65536 := fun x hx => by rcases List.mem_cons.1 hx with rfl | hx; omega; rw [List.mem_singleton.1 hx]; omega
   refine awp_skip ?_
   refine seqR ?_
   refine mG (.rp [.one, .q eSec secs, .one, .q ePnt pts, .one, .one, .one, .one, .one, .one]) ?_
   refine opG rfl (aop_nilCheck rfl rfl rfl rfl rfl ?_)
   refine opG rfl (aop_fieldAddr (av := .rp [.one, .q eSec secs, .one, .q ePnt pts, .one, .one, .one, .one, .one, .one]) (av' := .rp [.one, .q eSec secs, .one, .q ePnt pts, .one, .one, .one, .one, .one, .one]) rfl rfl rfl ft121_0 sz39 rfl rfl rfl ?_)
   refine opG rfl (aop_fieldAddr (av := .rp [.one, .q eSec secs, .one, .q ePnt pts, .one, .one, .one, .one, .one, .one]) (av' := .rp [.q ePnt pts, .one, .one, .one, .one, .one, .one]) rfl rfl rfl ft39_3 sz37 rfl rfl rfl ?_)
   refine opG rfl (aop_ld (av := .q ePnt pts) rfl rfl rfl ag37 rfl rfl ?_)
   refine mG (.i (pointI pts (nodeA secs s e))) ?_
   refine opG rfl (aop_ixI dP rfl rfl rfl ut37 sz100 rfl rfl (fun _ => rfl) rfl (by omega) (by first | omega | (simp; done) | decide | (simp at *; omega)) ?_)
   refine opG rfl (aop_ldB (cells' := [.i ((pts.getD (pointI pts (nodeA secs s e)).toNat dP).node), .i ((pts.getD (pointI pts (nodeA secs s e)).toNat dP).stem), .i ((pts.getD (pointI pts (nodeA secs s e)).toNat dP).left), .i ((pts.getD (pointI pts (nodeA secs s e)).toNat dP).right)]) rfl rfl rfl ag100 sz100 rfl rfl rfl rfl ?_)
   refine opG rfl (aop_alloc 53 rfl rfl rfl rfl ze100 rfl ?_)
   refine opG rfl (aop_store rfl rfl rfl sz100 rfl rfl rfl rfl rfl (Nat.le_of_ble_eq_true rfl) rfl rfl ?_)
   refine op0 ?_
   refine rs_ (upd (upd (upd (upd (upd none_ 0 (.rp [.one, .q eSec secs, .one, .q ePnt pts, .one, .one, .one, .one, .one, .one])) 3 (.pt 51 0)) 4 (.v (.slice none 0 0))) 5 (.i (nodeA secs s e))) 9 (.pt 53 0)) (updO (updO (updO noOb 51 (.live ⟨[.i s, .i e], 114, 1⟩)) 53 (.live ⟨[.i 0, .i 0, .i 0, .i 0], 100, 1⟩)) 53 (.live ⟨[.i ((pts.getD (pointI pts (nodeA secs s e)).toNat dP).node), .i ((pts.getD (pointI pts (nodeA secs s e)).toNat dP).stem), .i ((pts.getD (pointI pts (nodeA secs s e)).toNat dP).left), .i ((pts.getD (pointI pts (nodeA secs s e)).toNat dP).right)], 100, 1⟩)) (lu rfl (lu rfl (lu rfl (lu rfl (lu rfl ln))))) rfl ?_
   refine awp_seq ?_
   refine seqR ?_
   refine fG (.pt 51 0) ft114_0 sz3 ?_
   refine opG rfl (aop_ld (av := .i s) rfl rfl rfl ag3 rfl rfl ?_)
   refine op0 ?_
   refine awp_block ?_
   refine seqR ?_
   refine fG (.pt 53 1) ft100_1 sz3 ?_
   refine opG rfl (aop_ld (av := .i ((pts.getD (pointI pts (nodeA secs s e)).toNat dP).stem)) rfl rfl rfl ag3 rfl rfl ?_)
   refine bG ((.bool (s == ((pts.getD (pointI pts (nodeA secs s e)).toNat dP).stem)))) ?_
   refine mG (.b (s == ((pts.getD (pointI pts (nodeA secs s e)).toNat dP).stem))) ?_
   refine op0 ?_
   refine rs_ (upd (upd (upd (upd (upd (upd none_ 0 (.rp [.one, .q eSec secs, .one, .q ePnt pts, .one, .one, .one, .one, .one, .one])) 4 (.v (.slice none 0 0))) 5 (.i (nodeA secs s e))) 9 (.pt 53 0)) 41 (.i s)) 42 (.b (s == ((pts.getD (pointI pts (nodeA secs s e)).toNat dP).stem)))) (updO (updO (updO noOb 51 (.live ⟨[.i s, .i e], 114, 1⟩)) 53 (.live ⟨[.i 0, .i 0, .i 0, .i 0], 100, 1⟩)) 53 (.live ⟨[.i ((pts.getD (pointI pts (nodeA secs s e)).toNat dP).node), .i ((pts.getD (pointI pts (nodeA secs s e)).toNat dP).stem), .i ((pts.getD (pointI pts (nodeA secs s e)).toNat dP).left), .i ((pts.getD (pointI pts (nodeA secs s e)).toNat dP).right)], 100, 1⟩)) (lu rfl (lu rfl (lu rfl (lu rfl (lu rfl (lu rfl ln)))))) rfl ?_
   refine awp_cond (s == ((pts.getD (pointI pts (nodeA secs s e)).toNat dP).stem)) rfl rfl (fun hc3 => ?_) (fun hc3 => ?_)
   ·skip
    have hf7 := (beq_iff_eq).1 hc3
    have hq : s = (pts.getD (pointI pts (nodeA secs s e)).toNat dP).stem := by simpa using hc3
    refine awp_seq ?_
    refine awp_draw (m := 12) [(57, .ro ([(oneE secs ((pts.getD (pointI pts (nodeA secs s e)).toNat dP).left) (nodeA secs s e) : (List En)), (oneE secs ((pts.getD (pointI pts (nodeA secs s e)).toNat dP).right) (nodeA secs s e) : (List En))].flatten.length) (enc eEn ([(oneE secs ((pts.getD (pointI pts (nodeA secs s e)).toNat dP).left) (nodeA secs s e) : (List En)), (oneE secs ((pts.getD (pointI pts (nodeA secs s e)).toNat dP).right) (nodeA secs s e) : (List En))].flatten))), (56, .ro 2 [.q eEn (oneE secs ((pts.getD (pointI pts (nodeA secs s e)).toNat dP).left) (nodeA secs s e)), .q eEn (oneE secs ((pts.getD (pointI pts (nodeA secs s e)).toNat dP).right) (nodeA secs s e))]), (55, .q eEn (oneE secs ((pts.getD (pointI pts (nodeA secs s e)).toNat dP).right) (nodeA secs s e))), (54, .i (nodeA secs s e)), (53, .i ((pts.getD (pointI pts (nodeA secs s e)).toNat dP).right)), (52, .pt 53 3), (51, .rp [.one, .q eSec secs, .one, .q ePnt pts, .one, .one, .one, .one, .one, .one]), (50, .q eEn (oneE secs ((pts.getD (pointI pts (nodeA secs s e)).toNat dP).left) (nodeA secs s e))), (49, .i (nodeA secs s e)), (48, .i ((pts.getD (pointI pts (nodeA secs s e)).toNat dP).left)), (47, .pt 53 2), (46, .rp [.one, .q eSec secs, .one, .q ePnt pts, .one, .one, .one, .one, .one, .one])] mixed (by kernel_rfl) ?_ ?_
    ·refine ⟨?_, ?_, ?_, ?_, ?_, ?_, ?_, ?_, ?_, ?_, ?_, ?_, trivial⟩
     ·exact ⟨46, rfl, blt_lt rfl, fun st hob hE => aop_move (av := .rp [.one, .q eSec secs, .one, .q ePnt pts, .one, .one, .one, .one, .one, .one]) (.inl rfl) rfl rfl (hE 0 rfl) (by rw [hob]; rfl)⟩
     ·exact ⟨47, rfl, blt_lt rfl, fun st hob hE => aop_fieldAddr (av := .pt 53 0) (av' := .pt 53 2) rfl rfl rfl ft100_2 sz3 (hE 9 rfl) rfl rfl (by rw [hob]; rfl)⟩
     ·exact ⟨48, rfl, blt_lt rfl, fun st hob hE => aop_ld (av := .i ((pts.getD (pointI pts (nodeA secs s e)).toNat dP).left)) rfl rfl rfl ag3 (hE 47 rfl) (by rw [hob]; rfl) (by rw [hob]; rfl)⟩
     ·exact ⟨49, rfl, blt_lt rfl, fun st hob hE => aop_move (av := .i (nodeA secs s e)) (.inl rfl) rfl rfl (hE 5 rfl) (by rw [hob]; rfl)⟩
     ·exact ⟨50, rfl, blt_lt rfl, fun st hob hE => callW_ (g_at secs ((pts.getD (pointI pts (nodeA secs s e)).toNat dP).left) (nodeA secs s e) (by first | omega | (simp; done) | decide | (simp at *; omega))) rfl rfl rfl rfl rfl bd91 (by show Lends _ ([st.env 46, st.env 48, st.env 49] ++ _) _; rw [hE 46 rfl, hE 48 rfl, hE 49 rfl]; exact (lends_cons (lend_rpw (lends_cons (lend_n (av := .one)) (lends_cons (lend_n (av := .q eSec secs)) (lends_cons (lend_n (av := .one)) (lends_cons (.one _ rfl) (lends_cons (lend_n (av := .one)) (lends_cons (lend_n (av := .one)) (lends_cons (lend_n (av := .one)) (lends_cons (lend_n (av := .one)) (lends_cons (lend_n (av := .one)) (lends_cons (lend_n (av := .one)) lends_nil))))))))))) (lends_cons (lend_n (av := .i ((pts.getD (pointI pts (nodeA secs s e)).toNat dP).left))) (lends_cons (lend_n (av := .i (nodeA secs s e))) lends_nil)))) (by rw [hob]; rfl)⟩
     ·exact ⟨51, rfl, blt_lt rfl, fun st hob hE => aop_move (av := .rp [.one, .q eSec secs, .one, .q ePnt pts, .one, .one, .one, .one, .one, .one]) (.inl rfl) rfl rfl (hE 0 rfl) (by rw [hob]; rfl)⟩
     ·exact ⟨52, rfl, blt_lt rfl, fun st hob hE => aop_fieldAddr (av := .pt 53 0) (av' := .pt 53 3) rfl rfl rfl ft100_3 sz3 (hE 9 rfl) rfl rfl (by rw [hob]; rfl)⟩
     ·exact ⟨53, rfl, blt_lt rfl, fun st hob hE => aop_ld (av := .i ((pts.getD (pointI pts (nodeA secs s e)).toNat dP).right)) rfl rfl rfl ag3 (hE 52 rfl) (by rw [hob]; rfl) (by rw [hob]; rfl)⟩
     ·exact ⟨54, rfl, blt_lt rfl, fun st hob hE => aop_move (av := .i (nodeA secs s e)) (.inl rfl) rfl rfl (hE 5 rfl) (by rw [hob]; rfl)⟩
     ·exact ⟨55, rfl, blt_lt rfl, fun st hob hE => callW_ (g_at secs ((pts.getD (pointI pts (nodeA secs s e)).toNat dP).right) (nodeA secs s e) (by first | omega | (simp; done) | decide | (simp at *; omega))) rfl rfl rfl rfl rfl bd91 (by show Lends _ ([st.env 51, st.env 53, st.env 54] ++ _) _; rw [hE 51 rfl, hE 53 rfl, hE 54 rfl]; exact (lends_cons (lend_rpw (lends_cons (lend_n (av := .one)) (lends_cons (lend_n (av := .q eSec secs)) (lends_cons (lend_n (av := .one)) (lends_cons (.one _ rfl) (lends_cons (lend_n (av := .one)) (lends_cons (lend_n (av := .one)) (lends_cons (lend_n (av := .one)) (lends_cons (lend_n (av := .one)) (lends_cons (lend_n (av := .one)) (lends_cons (lend_n (av := .one)) lends_nil))))))))))) (lends_cons (lend_n (av := .i ((pts.getD (pointI pts (nodeA secs s e)).toNat dP).right))) (lends_cons (lend_n (av := .i (nodeA secs s e))) lends_nil)))) (by rw [hob]; rfl)⟩
     ·exact ⟨56, rfl, blt_lt rfl, fun st hob hE => aop_lit rfl rfl rfl ut159 iz115 (by decide) (by decide) (by simp only [partsA, List.map, evA, hE 50 rfl, hE 55 rfl]; rfl) rfl (by rw [hob]; rfl)⟩
     ·exact ⟨57, rfl, blt_lt rfl, fun st hob hE => call_ (concE [oneE secs (pts.getD (pointI pts (nodeA secs s e)).toNat dP).left (nodeA secs s e), oneE secs (pts.getD (pointI pts (nodeA secs s e)).toNat dP).right (nodeA secs s e)] (Nat.le_of_ble_eq_true rfl) hxl) rfl rfl rfl rfl rfl bd90 (by show [st.env 56] ++ _ = _; rw [hE 56 rfl]; rfl) (by rw [hob]; rfl)⟩
    refine mG (.ro ([(oneE secs ((pts.getD (pointI pts (nodeA secs s e)).toNat dP).left) (nodeA secs s e) : (List En)), (oneE secs ((pts.getD (pointI pts (nodeA secs s e)).toNat dP).right) (nodeA secs s e) : (List En))].flatten.length) (enc eEn ([(oneE secs ((pts.getD (pointI pts (nodeA secs s e)).toNat dP).left) (nodeA secs s e) : (List En)), (oneE secs ((pts.getD (pointI pts (nodeA secs s e)).toNat dP).right) (nodeA secs s e) : (List En))].flatten))) ?_
    refine op0 ?_
    refine awp_ret ?_
    exact fret (av := .ro ([(oneE secs ((pts.getD (pointI pts (nodeA secs s e)).toNat dP).left) (nodeA secs s e) : (List En)), (oneE secs ((pts.getD (pointI pts (nodeA secs s e)).toNat dP).right) (nodeA secs s e) : (List En))].flatten.length) (enc eEn ([(oneE secs ((pts.getD (pointI pts (nodeA secs s e)).toNat dP).left) (nodeA secs s e) : (List En)), (oneE secs ((pts.getD (pointI pts (nodeA secs s e)).toNat dP).right) (nodeA secs s e) : (List En))].flatten))) rfl rfl (by rw [around_stem hn hi hq]; simp)
   ·skip
    have hf8 := (beq_eq_false_iff_ne).1 hc3
    have hq : ¬ s = (pts.getD (pointI pts (nodeA secs s e)).toNat dP).stem := by simpa using hc3
    refine awp_seq ?_
    refine seqR ?_
    refine fG (.pt 53 2) ft100_2 sz3 ?_
    refine opG rfl (aop_ld (av := .i ((pts.getD (pointI pts (nodeA secs s e)).toNat dP).left)) rfl rfl rfl ag3 rfl rfl ?_)
    refine bG ((.bool (s == ((pts.getD (pointI pts (nodeA secs s e)).toNat dP).left)))) ?_
    refine mG (.b (s == ((pts.getD (pointI pts (nodeA secs s e)).toNat dP).left))) ?_
    refine op0 ?_
    refine rs_ (upd (upd (upd (upd (upd (upd none_ 0 (.rp [.one, .q eSec secs, .one, .q ePnt pts, .one, .one, .one, .one, .one, .one])) 4 (.v (.slice none 0 0))) 5 (.i (nodeA secs s e))) 9 (.pt 53 0)) 41 (.i s)) 58 (.b (s == ((pts.getD (pointI pts (nodeA secs s e)).toNat dP).left)))) (updO (updO (updO noOb 51 (.live ⟨[.i s, .i e], 114, 1⟩)) 53 (.live ⟨[.i 0, .i 0, .i 0, .i 0], 100, 1⟩)) 53 (.live ⟨[.i ((pts.getD (pointI pts (nodeA secs s e)).toNat dP).node), .i ((pts.getD (pointI pts (nodeA secs s e)).toNat dP).stem), .i ((pts.getD (pointI pts (nodeA secs s e)).toNat dP).left), .i ((pts.getD (pointI pts (nodeA secs s e)).toNat dP).right)], 100, 1⟩)) (lu rfl (lu rfl (lu rfl (lu rfl (lu rfl (lu rfl ln)))))) rfl ?_
    refine awp_cond (s == ((pts.getD (pointI pts (nodeA secs s e)).toNat dP).left)) rfl rfl (fun hc4 => ?_) (fun hc4 => ?_)
    ·skip
     have hf9 := (beq_iff_eq).1 hc4
     refine awp_skip ?_
     refine awp_cond (s == ((pts.getD (pointI pts (nodeA secs s e)).toNat dP).left)) rfl rfl (fun hc5 => ?_) (fun hc5 => ?_)
     ·skip
      have hf10 := (beq_iff_eq).1 hc5
      refine seqR ?_
      refine mG (.rp [.one, .q eSec secs, .one, .q ePnt pts, .one, .one, .one, .one, .one, .one]) ?_
      refine fG (.pt 53 1) ft100_1 sz3 ?_
      refine opG rfl (aop_ld (av := .i ((pts.getD (pointI pts (nodeA secs s e)).toNat dP).stem)) rfl rfl rfl ag3 rfl rfl ?_)
      refine mG (.i (nodeA secs s e)) ?_
      refine opG rfl (callW_ (g_at secs ((pts.getD (pointI pts (nodeA secs s e)).toNat dP).stem) (nodeA secs s e) (by first | omega | (simp; done) | decide | (simp at *; omega))) rfl rfl rfl rfl rfl bd91 (lends_cons (lend_rpw (lends_cons (lend_n (av := .one)) (lends_cons (lend_n (av := .q eSec secs)) (lends_cons (lend_n (av := .one)) (lends_cons (.one _ rfl) (lends_cons (lend_n (av := .one)) (lends_cons (lend_n (av := .one)) (lends_cons (lend_n (av := .one)) (lends_cons (lend_n (av := .one)) (lends_cons (lend_n (av := .one)) (lends_cons (lend_n (av := .one)) lends_nil))))))))))) (lends_cons (lend_n (av := .i ((pts.getD (pointI pts (nodeA secs s e)).toNat dP).stem))) (lends_cons (lend_n (av := .i (nodeA secs s e))) lends_nil))) ?_)
      refine mG (.q eEn (oneE secs ((pts.getD (pointI pts (nodeA secs s e)).toNat dP).stem) (nodeA secs s e))) ?_
      refine op0 ?_
      refine rs_ (upd none_ 4 (.q eEn (oneE secs ((pts.getD (pointI pts (nodeA secs s e)).toNat dP).stem) (nodeA secs s e)))) (updO (updO (updO noOb 51 (.live ⟨[.i s, .i e], 114, 1⟩)) 53 (.live ⟨[.i 0, .i 0, .i 0, .i 0], 100, 1⟩)) 53 (.live ⟨[.i ((pts.getD (pointI pts (nodeA secs s e)).toNat dP).node), .i ((pts.getD (pointI pts (nodeA secs s e)).toNat dP).stem), .i ((pts.getD (pointI pts (nodeA secs s e)).toNat dP).left), .i ((pts.getD (pointI pts (nodeA secs s e)).toNat dP).right)], 100, 1⟩)) (lu rfl ln) rfl ?_
      refine awp_ret ?_
      exact fret (av := .ro ((oneE secs ((pts.getD (pointI pts (nodeA secs s e)).toNat dP).stem) (nodeA secs s e)).length) (enc eEn (oneE secs ((pts.getD (pointI pts (nodeA secs s e)).toNat dP).stem) (nodeA secs s e)))) rfl rfl (by rw [around_leg hn hi hq (.inl (by simpa using hc4))])
     ·skip
      have hf11 := (beq_eq_false_iff_ne).1 hc5
      exfalso; rw [hc4] at hc5; cases hc5
    ·skip
     have hf12 := (beq_eq_false_iff_ne).1 hc4
     refine regR ?_
     refine fG (.pt 53 3) ft100_3 sz3 ?_
     refine opG rfl (aop_ld (av := .i ((pts.getD (pointI pts (nodeA secs s e)).toNat dP).right)) rfl rfl rfl ag3 rfl rfl ?_)
     refine bG ((.bool (s == ((pts.getD (pointI pts (nodeA secs s e)).toNat dP).right)))) ?_
     refine mG (.b (s == ((pts.getD (pointI pts (nodeA secs s e)).toNat dP).right))) ?_
     refine op0 ?_
     refine rs_ (upd (upd (upd (upd (upd none_ 0 (.rp [.one, .q eSec secs, .one, .q ePnt pts, .one, .one, .one, .one, .one, .one])) 4 (.v (.slice none 0 0))) 5 (.i (nodeA secs s e))) 9 (.pt 53 0)) 58 (.b (s == ((pts.getD (pointI pts (nodeA secs s e)).toNat dP).right)))) (updO (updO (updO noOb 51 (.live ⟨[.i s, .i e], 114, 1⟩)) 53 (.live ⟨[.i 0, .i 0, .i 0, .i 0], 100, 1⟩)) 53 (.live ⟨[.i ((pts.getD (pointI pts (nodeA secs s e)).toNat dP).node), .i ((pts.getD (pointI pts (nodeA secs s e)).toNat dP).stem), .i ((pts.getD (pointI pts (nodeA secs s e)).toNat dP).left), .i ((pts.getD (pointI pts (nodeA secs s e)).toNat dP).right)], 100, 1⟩)) (lu rfl (lu rfl (lu rfl (lu rfl (lu rfl ln))))) rfl ?_
     refine awp_cond (s == ((pts.getD (pointI pts (nodeA secs s e)).toNat dP).right)) rfl rfl (fun hc6 => ?_) (fun hc6 => ?_)
     ·skip
      have hf13 := (beq_iff_eq).1 hc6
      refine seqR ?_
      refine mG (.rp [.one, .q eSec secs, .one, .q ePnt pts, .one, .one, .one, .one, .one, .one]) ?_
      refine fG (.pt 53 1) ft100_1 sz3 ?_
      refine opG rfl (aop_ld (av := .i ((pts.getD (pointI pts (nodeA secs s e)).toNat dP).stem)) rfl rfl rfl ag3 rfl rfl ?_)
      refine mG (.i (nodeA secs s e)) ?_
      refine opG rfl (callW_ (g_at secs ((pts.getD (pointI pts (nodeA secs s e)).toNat dP).stem) (nodeA secs s e) (by first | omega | (simp; done) | decide | (simp at *; omega))) rfl rfl rfl rfl rfl bd91 (lends_cons (lend_rpw (lends_cons (lend_n (av := .one)) (lends_cons (lend_n (av := .q eSec secs)) (lends_cons (lend_n (av := .one)) (lends_cons (.one _ rfl) (lends_cons (lend_n (av := .one)) (lends_cons (lend_n (av := .one)) (lends_cons (lend_n (av := .one)) (lends_cons (lend_n (av := .one)) (lends_cons (lend_n (av := .one)) (lends_cons (lend_n (av := .one)) lends_nil))))))))))) (lends_cons (lend_n (av := .i ((pts.getD (pointI pts (nodeA secs s e)).toNat dP).stem))) (lends_cons (lend_n (av := .i (nodeA secs s e))) lends_nil))) ?_)
      refine mG (.q eEn (oneE secs ((pts.getD (pointI pts (nodeA secs s e)).toNat dP).stem) (nodeA secs s e))) ?_
      refine op0 ?_
      refine rs_ (upd none_ 4 (.q eEn (oneE secs ((pts.getD (pointI pts (nodeA secs s e)).toNat dP).stem) (nodeA secs s e)))) (updO (updO (updO noOb 51 (.live ⟨[.i s, .i e], 114, 1⟩)) 53 (.live ⟨[.i 0, .i 0, .i 0, .i 0], 100, 1⟩)) 53 (.live ⟨[.i ((pts.getD (pointI pts (nodeA secs s e)).toNat dP).node), .i ((pts.getD (pointI pts (nodeA secs s e)).toNat dP).stem), .i ((pts.getD (pointI pts (nodeA secs s e)).toNat dP).left), .i ((pts.getD (pointI pts (nodeA secs s e)).toNat dP).right)], 100, 1⟩)) (lu rfl ln) rfl ?_
      refine awp_ret ?_
      exact fret (av := .ro ((oneE secs ((pts.getD (pointI pts (nodeA secs s e)).toNat dP).stem) (nodeA secs s e)).length) (enc eEn (oneE secs ((pts.getD (pointI pts (nodeA secs s e)).toNat dP).stem) (nodeA secs s e)))) rfl rfl (by rw [around_leg hn hi hq (.inr (by simpa using hc6))])
     ·skip
      have hf14 := (beq_eq_false_iff_ne).1 hc6
      refine awp_skip ?_
      refine seqR ?_
      refine mG (.v (.slice none 0 0)) ?_
      refine op0 ?_
      refine awp_imp _ (imp_frozen rfl (fun _ h => h) (lee_lend 4 (.ro 0 []) .nil lee_lend0)) ?_
      refine awp_ret ?_
      exact fret (av := .ro 0 []) rfl rfl (by rw [around_off hn hi hq (fun h => h.elim (fun h => (beq_eq_false_iff_ne.1 hc4) h) (fun h => (beq_eq_false_iff_ne.1 hc6) h))]; rfl)
end Go.Lo
