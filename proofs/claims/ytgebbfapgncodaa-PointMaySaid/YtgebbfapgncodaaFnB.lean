/- Walks of Go functions in the logic of values. -/
import Derived.Test.YtgebbfapgncodaaFnBTy
import Derived.Test.YtgebbfapgncodaaDef
set_option linter.unusedVariables false
set_option linter.unusedSimpArgs false
namespace Go.Lo
open Go.Proofs
set_option maxRecDepth 10000 in
set_option maxHeartbeats 1000000 in
theorem r14_stands (right : List Bool) (p : Int) (hl : right.length ≤ 4294967296) : Fn Try.prog 22 [.ro right.length (enc eB right), .v (.int .i64 p)] (.v (.bool (hasB right p))) := by
  refine fnE_of_body (N := 19) Try.func22 rfl rfl (resOf1 rfl) (by simp) (fun w0 X => ?_)
  refine seqR ?_
  refine opG rfl (aop_move (av := .v (.bool false)) (.inr rfl) rfl rfl rfl ?_)
  refine op0 ?_
  show AWP _ _ _ _ _
  refine seqR ?_
  refine opG rfl (aop_move (av := .v (.int .i64 p)) (.inl rfl) rfl rfl rfl ?_)
  refine opG rfl (aop_binI (u := (.bool (decide (p ≥ 0)))) rfl rfl rfl rfl rfl trivial rfl ?_)
  refine opG rfl (aop_move (av := .v (.bool (decide (p ≥ 0)))) (.inl rfl) rfl rfl rfl ?_)
  refine aops_grp 5 12 (.v (.bool ((decide (p ≥ 0)) && (decide (p < (right.length : Int)))))) ?_ ?_
  · rcases Bool.eq_false_or_eq_true (decide (p ≥ 0)) with hg1 | hg1
    · skip
      have hf2 := of_decide_eq_true hg1
      refine opY rfl rfl rfl (by show AV.v (.bool (decide (p ≥ 0))) = _; rw [hg1]) (aop_move (av := .v (.int .i64 p)) (.inl rfl) rfl rfl rfl ?_)
      refine opY rfl rfl rfl (by show AV.v (.bool (decide (p ≥ 0))) = _; rw [hg1]) (aop_move (av := .ro right.length (enc eB right)) (.inl rfl) rfl rfl rfl ?_)
      refine opY rfl rfl rfl (by show AV.v (.bool (decide (p ≥ 0))) = _; rw [hg1]) (aop_len rfl rfl rfl rfl ut23 (len_ro rfl) ?_)
      refine opY rfl rfl rfl (by show AV.v (.bool (decide (p ≥ 0))) = _; rw [hg1]) (aop_binI (u := (.bool (decide (p < (right.length : Int))))) rfl rfl rfl rfl rfl trivial rfl ?_)
      refine opG rfl (aop_pick (b := (decide (p ≥ 0))) rfl rfl rfl rfl (by rw [hg1] <;> rfl) ?_)
      refine op0 ?_
      exact imp_env (lee_both 12 _ _ (by rw [hg1] <;> rfl) (lee_out 11 _ rfl (lee_out 10 _ rfl (lee_out 9 _ rfl (lee_out 8 _ rfl (lee_same _))))))
    · skip
      have hf3 := of_decide_eq_false hg1
      refine opN rfl rfl rfl rfl (by show yv (.bool (decide (p ≥ 0))) ≠ _; rw [hg1]; intro h; cases h) rfl rfl ?_
      refine opN rfl rfl rfl rfl (by show yv (.bool (decide (p ≥ 0))) ≠ _; rw [hg1]; intro h; cases h) rfl rfl ?_
      refine opN rfl rfl rfl rfl (by show yv (.bool (decide (p ≥ 0))) ≠ _; rw [hg1]; intro h; cases h) rfl rfl ?_
      refine opN rfl rfl rfl rfl (by show yv (.bool (decide (p ≥ 0))) ≠ _; rw [hg1]; intro h; cases h) rfl rfl ?_
      refine opG rfl (aop_pick (b := (decide (p ≥ 0))) rfl rfl rfl rfl (by rw [hg1] <;> rfl) ?_)
      refine op0 ?_
      exact imp_env (lee_both 12 _ _ (by rw [hg1] <;> rfl) (lee_out 11 _ rfl (lee_out 10 _ rfl (lee_out 9 _ rfl (lee_out 8 _ rfl (lee_same _))))))
  refine opG rfl (aop_move (av := .v (.bool ((decide (p ≥ 0)) && (decide (p < (right.length : Int)))))) (.inl rfl) rfl rfl rfl ?_)
  refine aops_grp 5 18 (.v (.bool (((decide (p ≥ 0)) && (decide (p < (right.length : Int)))) && (right.getD p.toNat false)))) ?_ ?_
  · rcases Bool.eq_false_or_eq_true ((decide (p ≥ 0)) && (decide (p < (right.length : Int)))) with hg4 | hg4
    · skip
      obtain ⟨hf5a, hf5b⟩ := and_t hg4
      have hf6 := of_decide_eq_true hf5a
      have hf7 := of_decide_eq_true hf5b
      refine opY rfl rfl rfl (by show AV.v (.bool ((decide (p ≥ 0)) && (decide (p < (right.length : Int))))) = _; rw [hg4]) (aop_move (av := .ro right.length (enc eB right)) (.inl rfl) rfl rfl rfl ?_)
      refine opY rfl rfl rfl (by show AV.v (.bool ((decide (p ≥ 0)) && (decide (p < (right.length : Int))))) = _; rw [hg4]) (aop_move (av := .v (.int .i64 p)) (.inl rfl) rfl rfl rfl ?_)
      refine opY rfl rfl rfl (by show AV.v (.bool ((decide (p ≥ 0)) && (decide (p < (right.length : Int))))) = _; rw [hg4]) (aop_ixI false rfl rfl rfl ut23 sz4 rfl rfl (fun _ => rfl) rfl (by omega) (by first | omega | (simp; done) | decide | (simp; omega) | (simp at *; omega)) ?_)
      refine opY rfl rfl rfl (by show AV.v (.bool ((decide (p ≥ 0)) && (decide (p < (right.length : Int))))) = _; rw [hg4]) (aop_ld (av := .v (.bool (right.getD p.toNat false))) rfl rfl rfl ag4 rfl rfl ?_)
      refine opG rfl (aop_pick (b := ((decide (p ≥ 0)) && (decide (p < (right.length : Int))))) rfl rfl rfl rfl (by rw [hg4] <;> rfl) ?_)
      refine op0 ?_
      exact imp_env (lee_both 18 _ _ (by rw [hg4] <;> rfl) (lee_out 17 _ rfl (lee_out 16 _ rfl (lee_out 15 _ rfl (lee_out 14 _ rfl (lee_same _))))))
    · skip
      refine opN rfl rfl rfl rfl (by show yv (.bool ((decide (p ≥ 0)) && (decide (p < (right.length : Int))))) ≠ _; rw [hg4]; intro h; cases h) rfl rfl ?_
      refine opN rfl rfl rfl rfl (by show yv (.bool ((decide (p ≥ 0)) && (decide (p < (right.length : Int))))) ≠ _; rw [hg4]; intro h; cases h) rfl rfl ?_
      refine opN rfl rfl rfl rfl (by show yv (.bool ((decide (p ≥ 0)) && (decide (p < (right.length : Int))))) ≠ _; rw [hg4]; intro h; cases h) rfl rfl ?_
      refine opN rfl rfl rfl rfl (by show yv (.bool ((decide (p ≥ 0)) && (decide (p < (right.length : Int))))) ≠ _; rw [hg4]; intro h; cases h) rfl rfl ?_
      refine opG rfl (aop_pick (b := ((decide (p ≥ 0)) && (decide (p < (right.length : Int))))) rfl rfl rfl rfl (by rw [hg4] <;> rfl) ?_)
      refine op0 ?_
      exact imp_env (lee_both 18 _ _ (by rw [hg4] <;> rfl) (lee_out 17 _ rfl (lee_out 16 _ rfl (lee_out 15 _ rfl (lee_out 14 _ rfl (lee_same _))))))
  refine opG rfl (aop_move (av := .v (.bool (((decide (p ≥ 0)) && (decide (p < (right.length : Int)))) && (right.getD p.toNat false)))) (.inr rfl) rfl rfl rfl ?_)
  refine op0 ?_
  show AWP _ _ _ _ _
  refine awp_imp ⟨(upd none_ 4 (.v (.bool (((decide (p ≥ 0)) && (decide (p < (right.length : Int)))) && (right.getD p.toNat false))))), noOb⟩ (imp_le ⟨(lee_upd 4 _ rfl (lee_none _)), fun _ => .inl rfl⟩) ?_
  refine awp_ret ?_
  exact fret (av := .v (.bool (((decide (p ≥ 0)) && (decide (p < (right.length : Int)))) && (right.getD p.toNat false)))) rfl rfl rfl

set_option maxRecDepth 10000 in
set_option maxHeartbeats 1000000 in
theorem p_has (right : List Bool) (p : Int) (hl : right.length ≤ 4294967296) : Fn Try.prog 25 [.ro right.length (enc eB right), .v (.int .i64 p)] (.v (.bool (hasB right p))) := by
  refine fnE_of_body (N := 19) Try.func25 rfl rfl (resOf1 rfl) (by simp) (fun w0 X => ?_)
  refine seqR ?_
  refine opG rfl (aop_move (av := .v (.bool false)) (.inr rfl) rfl rfl rfl ?_)
  refine op0 ?_
  show AWP _ _ _ _ _
  refine seqR ?_
  refine opG rfl (aop_move (av := .v (.int .i64 p)) (.inl rfl) rfl rfl rfl ?_)
  refine opG rfl (aop_binI (u := (.bool (decide (p ≥ 0)))) rfl rfl rfl rfl rfl trivial rfl ?_)
  refine opG rfl (aop_move (av := .v (.bool (decide (p ≥ 0)))) (.inl rfl) rfl rfl rfl ?_)
  refine aops_grp 5 12 (.v (.bool ((decide (p ≥ 0)) && (decide (p < (right.length : Int)))))) ?_ ?_
  · rcases Bool.eq_false_or_eq_true (decide (p ≥ 0)) with hg1 | hg1
    · skip
      have hf2 := of_decide_eq_true hg1
      refine opY rfl rfl rfl (by show AV.v (.bool (decide (p ≥ 0))) = _; rw [hg1]) (aop_move (av := .v (.int .i64 p)) (.inl rfl) rfl rfl rfl ?_)
      refine opY rfl rfl rfl (by show AV.v (.bool (decide (p ≥ 0))) = _; rw [hg1]) (aop_move (av := .ro right.length (enc eB right)) (.inl rfl) rfl rfl rfl ?_)
      refine opY rfl rfl rfl (by show AV.v (.bool (decide (p ≥ 0))) = _; rw [hg1]) (aop_len rfl rfl rfl rfl ut23 (len_ro rfl) ?_)
      refine opY rfl rfl rfl (by show AV.v (.bool (decide (p ≥ 0))) = _; rw [hg1]) (aop_binI (u := (.bool (decide (p < (right.length : Int))))) rfl rfl rfl rfl rfl trivial rfl ?_)
      refine opG rfl (aop_pick (b := (decide (p ≥ 0))) rfl rfl rfl rfl (by rw [hg1] <;> rfl) ?_)
      refine op0 ?_
      exact imp_env (lee_both 12 _ _ (by rw [hg1] <;> rfl) (lee_out 11 _ rfl (lee_out 10 _ rfl (lee_out 9 _ rfl (lee_out 8 _ rfl (lee_same _))))))
    · skip
      have hf3 := of_decide_eq_false hg1
      refine opN rfl rfl rfl rfl (by show yv (.bool (decide (p ≥ 0))) ≠ _; rw [hg1]; intro h; cases h) rfl rfl ?_
      refine opN rfl rfl rfl rfl (by show yv (.bool (decide (p ≥ 0))) ≠ _; rw [hg1]; intro h; cases h) rfl rfl ?_
      refine opN rfl rfl rfl rfl (by show yv (.bool (decide (p ≥ 0))) ≠ _; rw [hg1]; intro h; cases h) rfl rfl ?_
      refine opN rfl rfl rfl rfl (by show yv (.bool (decide (p ≥ 0))) ≠ _; rw [hg1]; intro h; cases h) rfl rfl ?_
      refine opG rfl (aop_pick (b := (decide (p ≥ 0))) rfl rfl rfl rfl (by rw [hg1] <;> rfl) ?_)
      refine op0 ?_
      exact imp_env (lee_both 12 _ _ (by rw [hg1] <;> rfl) (lee_out 11 _ rfl (lee_out 10 _ rfl (lee_out 9 _ rfl (lee_out 8 _ rfl (lee_same _))))))
  refine opG rfl (aop_move (av := .v (.bool ((decide (p ≥ 0)) && (decide (p < (right.length : Int)))))) (.inl rfl) rfl rfl rfl ?_)
  refine aops_grp 5 18 (.v (.bool (((decide (p ≥ 0)) && (decide (p < (right.length : Int)))) && (right.getD p.toNat false)))) ?_ ?_
  · rcases Bool.eq_false_or_eq_true ((decide (p ≥ 0)) && (decide (p < (right.length : Int)))) with hg4 | hg4
    · skip
      obtain ⟨hf5a, hf5b⟩ := and_t hg4
      have hf6 := of_decide_eq_true hf5a
      have hf7 := of_decide_eq_true hf5b
      refine opY rfl rfl rfl (by show AV.v (.bool ((decide (p ≥ 0)) && (decide (p < (right.length : Int))))) = _; rw [hg4]) (aop_move (av := .ro right.length (enc eB right)) (.inl rfl) rfl rfl rfl ?_)
      refine opY rfl rfl rfl (by show AV.v (.bool ((decide (p ≥ 0)) && (decide (p < (right.length : Int))))) = _; rw [hg4]) (aop_move (av := .v (.int .i64 p)) (.inl rfl) rfl rfl rfl ?_)
      refine opY rfl rfl rfl (by show AV.v (.bool ((decide (p ≥ 0)) && (decide (p < (right.length : Int))))) = _; rw [hg4]) (aop_ixI false rfl rfl rfl ut23 sz4 rfl rfl (fun _ => rfl) rfl (by omega) (by first | omega | (simp; done) | decide | (simp; omega) | (simp at *; omega)) ?_)
      refine opY rfl rfl rfl (by show AV.v (.bool ((decide (p ≥ 0)) && (decide (p < (right.length : Int))))) = _; rw [hg4]) (aop_ld (av := .v (.bool (right.getD p.toNat false))) rfl rfl rfl ag4 rfl rfl ?_)
      refine opG rfl (aop_pick (b := ((decide (p ≥ 0)) && (decide (p < (right.length : Int))))) rfl rfl rfl rfl (by rw [hg4] <;> rfl) ?_)
      refine op0 ?_
      exact imp_env (lee_both 18 _ _ (by rw [hg4] <;> rfl) (lee_out 17 _ rfl (lee_out 16 _ rfl (lee_out 15 _ rfl (lee_out 14 _ rfl (lee_same _))))))
    · skip
      refine opN rfl rfl rfl rfl (by show yv (.bool ((decide (p ≥ 0)) && (decide (p < (right.length : Int))))) ≠ _; rw [hg4]; intro h; cases h) rfl rfl ?_
      refine opN rfl rfl rfl rfl (by show yv (.bool ((decide (p ≥ 0)) && (decide (p < (right.length : Int))))) ≠ _; rw [hg4]; intro h; cases h) rfl rfl ?_
      refine opN rfl rfl rfl rfl (by show yv (.bool ((decide (p ≥ 0)) && (decide (p < (right.length : Int))))) ≠ _; rw [hg4]; intro h; cases h) rfl rfl ?_
      refine opN rfl rfl rfl rfl (by show yv (.bool ((decide (p ≥ 0)) && (decide (p < (right.length : Int))))) ≠ _; rw [hg4]; intro h; cases h) rfl rfl ?_
      refine opG rfl (aop_pick (b := ((decide (p ≥ 0)) && (decide (p < (right.length : Int))))) rfl rfl rfl rfl (by rw [hg4] <;> rfl) ?_)
      refine op0 ?_
      exact imp_env (lee_both 18 _ _ (by rw [hg4] <;> rfl) (lee_out 17 _ rfl (lee_out 16 _ rfl (lee_out 15 _ rfl (lee_out 14 _ rfl (lee_same _))))))
  refine opG rfl (aop_move (av := .v (.bool (((decide (p ≥ 0)) && (decide (p < (right.length : Int)))) && (right.getD p.toNat false)))) (.inr rfl) rfl rfl rfl ?_)
  refine op0 ?_
  show AWP _ _ _ _ _
  refine awp_imp ⟨(upd none_ 4 (.v (.bool (((decide (p ≥ 0)) && (decide (p < (right.length : Int)))) && (right.getD p.toNat false))))), noOb⟩ (imp_le ⟨(lee_upd 4 _ rfl (lee_none _)), fun _ => .inl rfl⟩) ?_
  refine awp_ret ?_
  exact fret (av := .v (.bool (((decide (p ≥ 0)) && (decide (p < (right.length : Int)))) && (right.getD p.toNat false)))) rfl rfl rfl

set_option maxRecDepth 10000 in
set_option maxHeartbeats 1000000 in
theorem r01_Bools (a b : List Bool) (hl : a.length ≤ 4294967296) : Fn Try.prog 11 [.ro a.length (enc eB a), .ro b.length (enc eB b)] (.v (.bool (decide (a = b)))) := by
  refine fnE_of_body (N := 26) Try.func11 rfl rfl (resOf1 rfl) (by simp) (fun w0 X => ?_)
  refine seqR ?_
  refine opG rfl (aop_move (av := .v (.bool false)) (.inr rfl) rfl rfl rfl ?_)
  refine op0 ?_
  show AWP _ _ _ _ _
  refine awp_seq ?_
  refine seqR ?_
  refine opG rfl (aop_move (av := .ro a.length (enc eB a)) (.inl rfl) rfl rfl rfl ?_)
  refine opG rfl (aop_len rfl rfl rfl rfl ut23 (len_ro rfl) ?_)
  refine opG rfl (aop_move (av := .ro b.length (enc eB b)) (.inl rfl) rfl rfl rfl ?_)
  refine opG rfl (aop_len rfl rfl rfl rfl ut23 (len_ro rfl) ?_)
  refine opG rfl (aop_binI (u := (.bool ((a.length : Int) != (b.length : Int)))) rfl rfl rfl rfl rfl trivial rfl ?_)
  refine op0 ?_
  show AWP _ _ _ _ _
  refine awp_imp ⟨(upd (upd (upd (upd none_ 0 (.ro a.length (enc eB a))) 1 (.ro b.length (enc eB b))) 4 (.v (.bool false))) 10 (.v (.bool ((a.length : Int) != (b.length : Int))))), noOb⟩ (imp_le ⟨(lee_upd 10 _ rfl (lee_upd 4 _ rfl (lee_upd 1 _ rfl (lee_upd 0 _ rfl (lee_none _))))), fun _ => .inl rfl⟩) ?_
  refine awp_cond ((a.length : Int) != (b.length : Int)) rfl rfl (fun hc0 => ?_) (fun hc0 => ?_)
  · skip
    have hf1 := (bne_iff_ne).1 hc0
    refine seqR ?_
    refine opG rfl (aop_move (av := .v (.bool false)) (.inr rfl) rfl rfl rfl ?_)
    refine op0 ?_
    show AWP _ _ _ _ _
    refine awp_ret ?_
    exact fret (av := .v (.bool false)) rfl rfl (by rw [alike_off (by omega)] <;> rfl)
  · skip
    have hf2 := (bne_eq_false_iff_eq).1 hc0
    refine awp_skip ?_
    show AWP _ _ _ _ _
    refine awp_seq ?_
    refine seqR ?_
    refine opG rfl (aop_move (av := .v (.int .i64 0)) (.inr rfl) rfl rfl rfl ?_)
    refine op0 ?_
    show AWP _ _ _ _ _
    refine awp_block ?_
    refine awp_countI (fun k => ⟨(upd (upd (upd (upd none_ 0 (.ro a.length (enc eB a))) 1 (.ro b.length (enc eB b))) 4 (.v (.bool false))) 5 (.v (.int .i64 (k : Int)))), noOb⟩) (fun k => a.take k = b.take k) (a.length) ?_ (by simp) (fun k hk_k hinv => ?_)
    · skip
      exact imp_ler [] (ler0 (sr_same 5 (.v (.int .i64 (0 : Int))) rfl NoI.out (sr_same 4 (.v (.bool false)) rfl NoI.out (sr_same 1 (.ro b.length (enc eB b)) rfl NoI.out (sr_same 0 (.ro a.length (enc eB a)) rfl NoI.out sr_none))))) (keep_of rfl)
    refine awp_seq ?_
    refine seqR ?_
    refine opG rfl (aop_move (av := .v (.int .i64 (k : Int))) (.inl rfl) rfl rfl rfl ?_)
    refine opG rfl (aop_move (av := .ro a.length (enc eB a)) (.inl rfl) rfl rfl rfl ?_)
    refine opG rfl (aop_len rfl rfl rfl rfl ut23 (len_ro rfl) ?_)
    refine opG rfl (aop_binI (u := (.bool (decide ((k : Int) < (a.length : Int))))) rfl rfl rfl rfl rfl trivial rfl ?_)
    refine op0 ?_
    show AWP _ _ _ _ _
    refine awp_imp ⟨(upd (upd (upd (upd (upd none_ 0 (.ro a.length (enc eB a))) 1 (.ro b.length (enc eB b))) 4 (.v (.bool false))) 5 (.v (.int .i64 (k : Int)))) 14 (.v (.bool (decide ((k : Int) < (a.length : Int)))))), noOb⟩ (imp_le ⟨(lee_upd 14 _ rfl (lee_upd 5 _ rfl (lee_upd 4 _ rfl (lee_upd 1 _ rfl (lee_upd 0 _ rfl (lee_none _)))))), fun _ => .inl rfl⟩) ?_
    refine awp_cond (decide ((k : Int) < (a.length : Int))) rfl rfl (fun hc1 => ?_) (fun hc1 => ?_)
    · skip
      have hf3 := of_decide_eq_true hc1
      refine awp_skip ?_
      show AWP _ _ _ _ _
      refine awp_seq ?_
      refine awp_block ?_
      refine awp_seq ?_
      refine awp_draw (m := 9) [(25, .v (.bool ((a.getD k false) != (b.getD k false)))), (24, .v (.bool (b.getD k false))), (23, .rp (([.v (.bool (b.getD k false))] : List AV) ++ ((enc eB b).drop ((k + 1) * 1)))), (22, .v (.int .i64 (k : Int))), (21, .ro b.length (enc eB b)), (20, .v (.bool (a.getD k false))), (19, .rp (([.v (.bool (a.getD k false))] : List AV) ++ ((enc eB a).drop ((k + 1) * 1)))), (18, .v (.int .i64 (k : Int))), (17, .ro a.length (enc eB a))] mixed (by kernel_rfl) ?_ ?_
      · refine ⟨?_, ?_, ?_, ?_, ?_, ?_, ?_, ?_, ?_, trivial⟩
        · exact ⟨17, rfl, blt_lt rfl, fun st hob hE => aop_move (av := .ro a.length (enc eB a)) (.inl rfl) rfl rfl (hE 0 rfl) (by rw [hob]; rfl)⟩
        · exact ⟨18, rfl, blt_lt rfl, fun st hob hE => aop_move (av := .v (.int .i64 (k : Int))) (.inl rfl) rfl rfl (hE 5 rfl) (by rw [hob]; rfl)⟩
        · exact ⟨19, rfl, blt_lt rfl, fun st hob hE => aop_ixE false rfl rfl rfl ut23 sz4 (hE 17 rfl) (hE 18 rfl) (fun _ => rfl) rfl (by first | omega | (simp; done) | decide | (simp; omega) | (simp at *; omega)) (by rw [hob]; rfl)⟩
        · exact ⟨20, rfl, blt_lt rfl, fun st hob hE => aop_ld (av := .v (.bool (a.getD k false))) rfl rfl rfl ag4 (hE 19 rfl) rfl (by rw [hob]; rfl)⟩
        · exact ⟨21, rfl, blt_lt rfl, fun st hob hE => aop_move (av := .ro b.length (enc eB b)) (.inl rfl) rfl rfl (hE 1 rfl) (by rw [hob]; rfl)⟩
        · exact ⟨22, rfl, blt_lt rfl, fun st hob hE => aop_move (av := .v (.int .i64 (k : Int))) (.inl rfl) rfl rfl (hE 5 rfl) (by rw [hob]; rfl)⟩
        · exact ⟨23, rfl, blt_lt rfl, fun st hob hE => aop_ixE false rfl rfl rfl ut23 sz4 (hE 21 rfl) (hE 22 rfl) (fun _ => rfl) rfl (by first | omega | (simp; done) | decide | (simp; omega) | (simp at *; omega)) (by rw [hob]; rfl)⟩
        · exact ⟨24, rfl, blt_lt rfl, fun st hob hE => aop_ld (av := .v (.bool (b.getD k false))) rfl rfl rfl ag4 (hE 23 rfl) rfl (by rw [hob]; rfl)⟩
        · exact ⟨25, rfl, blt_lt rfl, fun st hob hE => aop_neB rfl rfl rfl (hE 20 rfl) (hE 24 rfl) ut4 (by rw [hob]; rfl)⟩
      refine op0 ?_
      show AWP _ _ _ _ _
      refine awp_cond ((a.getD k false) != (b.getD k false)) rfl rfl (fun hc2 => ?_) (fun hc2 => ?_)
      · skip
        have hne := (bne_iff_ne).1 hc2
        refine seqR ?_
        refine opG rfl (aop_move (av := .v (.bool false)) (.inr rfl) rfl rfl rfl ?_)
        refine op0 ?_
        show AWP _ _ _ _ _
        refine awp_ret ?_
        exact fret (av := .v (.bool false)) rfl rfl (by rw [alike_stop hne] <;> rfl)
      · skip
        have hne := (bne_eq_false_iff_eq).1 hc2
        refine awp_skip ?_
        show AWP _ _ _ _ _
        refine regR ?_
        refine opG rfl (aop_move (av := .v (.int .i64 (k : Int))) (.inl rfl) rfl rfl rfl ?_)
        refine opG rfl (aop_binI (u := (.int .i64 ((k + 1 : Nat) : Int))) rfl rfl rfl rfl rfl trivial (addN (by omega)) ?_)
        refine opG rfl (aop_move (av := .v (.int .i64 ((k + 1 : Nat) : Int))) (.inr rfl) rfl rfl rfl ?_)
        refine op0 ?_
        show _ ∧ _
        refine ⟨by omega, (alike_step (d := false) (by omega) (by omega) hinv hne), ?_⟩
        exact imp_ler [] (ler0 (sr_same 5 (.v (.int .i64 ((k + 1) : Int))) rfl NoI.out (sr_same 4 (.v (.bool false)) rfl NoI.out (sr_same 1 (.ro b.length (enc eB b)) rfl NoI.out (sr_same 0 (.ro a.length (enc eB a)) rfl NoI.out sr_none))))) (keep_of rfl)
    · skip
      have hf4 := of_decide_eq_false hc1
      refine awp_exit ?_
      show AWP _ _ _ _ _
      refine seqR ?_
      refine opG rfl (aop_move (av := .v (.bool true)) (.inr rfl) rfl rfl rfl ?_)
      refine op0 ?_
      show AWP _ _ _ _ _
      refine awp_ret ?_
      exact fret (av := .v (.bool true)) rfl rfl (by rw [alike_end (by omega) (by omega) hinv] <;> rfl)

set_option maxRecDepth 10000 in
set_option maxHeartbeats 1000000 in
theorem r01_Has (l : List Int) (n : Int) (hl : l.length ≤ 4294967296) : Fn Try.prog 29 [.ro l.length (enc eI l), .v (.int .i64 n)] (.v (.bool (decide (n ∈ l)))) := by
  refine fnE_of_body (N := 18) Try.func29 rfl rfl (resOf1 rfl) (by simp) (fun w0 X => ?_)
  refine seqR ?_
  refine opG rfl (aop_move (av := .v (.bool false)) (.inr rfl) rfl rfl rfl ?_)
  refine op0 ?_
  show AWP _ _ _ _ _
  refine awp_seq ?_
  refine seqR ?_
  refine opG rfl (aop_move (av := .v (.int .i64 0)) (.inr rfl) rfl rfl rfl ?_)
  refine op0 ?_
  show AWP _ _ _ _ _
  refine awp_block ?_
  refine awp_countI (fun k => ⟨(upd (upd (upd (upd none_ 0 (.ro l.length (enc eI l))) 1 (.v (.int .i64 n))) 4 (.v (.bool false))) 5 (.v (.int .i64 (k : Int)))), noOb⟩) (fun k => n ∉ l.take k) (l.length) ?_ (by simp) (fun k hk_k hinv => ?_)
  · skip
    exact imp_ler [] (ler0 (sr_same 5 (.v (.int .i64 (0 : Int))) rfl NoI.out (sr_same 4 (.v (.bool false)) rfl NoI.out (sr_same 1 (.v (.int .i64 n)) rfl NoI.out (sr_same 0 (.ro l.length (enc eI l)) rfl NoI.out sr_none))))) (keep_of rfl)
  refine awp_seq ?_
  refine seqR ?_
  refine opG rfl (aop_move (av := .v (.int .i64 (k : Int))) (.inl rfl) rfl rfl rfl ?_)
  refine opG rfl (aop_move (av := .ro l.length (enc eI l)) (.inl rfl) rfl rfl rfl ?_)
  refine opG rfl (aop_len rfl rfl rfl rfl ut49 (len_ro rfl) ?_)
  refine opG rfl (aop_binI (u := (.bool (decide ((k : Int) < (l.length : Int))))) rfl rfl rfl rfl rfl trivial rfl ?_)
  refine op0 ?_
  show AWP _ _ _ _ _
  refine awp_imp ⟨(upd (upd (upd (upd (upd none_ 0 (.ro l.length (enc eI l))) 1 (.v (.int .i64 n))) 4 (.v (.bool false))) 5 (.v (.int .i64 (k : Int)))) 9 (.v (.bool (decide ((k : Int) < (l.length : Int)))))), noOb⟩ (imp_le ⟨(lee_upd 9 _ rfl (lee_upd 5 _ rfl (lee_upd 4 _ rfl (lee_upd 1 _ rfl (lee_upd 0 _ rfl (lee_none _)))))), fun _ => .inl rfl⟩) ?_
  refine awp_cond (decide ((k : Int) < (l.length : Int))) rfl rfl (fun hc0 => ?_) (fun hc0 => ?_)
  · skip
    have hf1 := of_decide_eq_true hc0
    refine awp_skip ?_
    show AWP _ _ _ _ _
    refine awp_seq ?_
    refine awp_block ?_
    refine seqR ?_
    refine opG rfl (aop_move (av := .ro l.length (enc eI l)) (.inl rfl) rfl rfl rfl ?_)
    refine opG rfl (aop_move (av := .v (.int .i64 (k : Int))) (.inl rfl) rfl rfl rfl ?_)
    refine opG rfl (aop_ixE 0 rfl rfl rfl ut49 sz3 rfl rfl (fun _ => rfl) rfl (by first | omega | (simp; done) | decide | (simp; omega) | (simp at *; omega)) ?_)
    refine opG rfl (aop_ld (av := .v (.int .i64 (l.getD k 0))) rfl rfl rfl ag3 rfl rfl ?_)
    refine opG rfl (aop_move (av := .v (.int .i64 n)) (.inl rfl) rfl rfl rfl ?_)
    refine opG rfl (aop_binI (u := (.bool ((l.getD k 0) == n))) rfl rfl rfl rfl rfl trivial rfl ?_)
    refine op0 ?_
    show AWP _ _ _ _ _
    refine awp_imp ⟨(upd (upd (upd (upd (upd none_ 0 (.ro l.length (enc eI l))) 1 (.v (.int .i64 n))) 4 (.v (.bool false))) 5 (.v (.int .i64 (k : Int)))) 17 (.v (.bool ((l.getD k 0) == n)))), noOb⟩ (imp_le ⟨(lee_upd 17 _ rfl (lee_upd 5 _ rfl (lee_upd 4 _ rfl (lee_upd 1 _ rfl (lee_upd 0 _ rfl (lee_none _)))))), fun _ => .inl rfl⟩) ?_
    refine awp_cond ((l.getD k 0) == n) rfl rfl (fun hc1 => ?_) (fun hc1 => ?_)
    · skip
      have hf2 := (beq_iff_eq).1 hc1
      have heq := (beq_iff_eq).1 hc1
      refine seqR ?_
      refine opG rfl (aop_move (av := .v (.bool true)) (.inr rfl) rfl rfl rfl ?_)
      refine op0 ?_
      show AWP _ _ _ _ _
      refine awp_ret ?_
      exact fret (av := .v (.bool true)) rfl rfl (by rw [has_stop (by omega) heq] <;> rfl)
    · skip
      have hf3 := (beq_eq_false_iff_ne).1 hc1
      have hne := (beq_eq_false_iff_ne).1 hc1
      refine awp_skip ?_
      show AWP _ _ _ _ _
      refine regR ?_
      refine opG rfl (aop_move (av := .v (.int .i64 (k : Int))) (.inl rfl) rfl rfl rfl ?_)
      refine opG rfl (aop_binI (u := (.int .i64 ((k + 1 : Nat) : Int))) rfl rfl rfl rfl rfl trivial (addN (by omega)) ?_)
      refine opG rfl (aop_move (av := .v (.int .i64 ((k + 1 : Nat) : Int))) (.inr rfl) rfl rfl rfl ?_)
      refine op0 ?_
      show _ ∧ _
      refine ⟨by omega, (has_step (d := 0) (by omega) hinv hne), ?_⟩
      exact imp_ler [] (ler0 (sr_same 5 (.v (.int .i64 ((k + 1) : Int))) rfl NoI.out (sr_same 4 (.v (.bool false)) rfl NoI.out (sr_same 1 (.v (.int .i64 n)) rfl NoI.out (sr_same 0 (.ro l.length (enc eI l)) rfl NoI.out sr_none))))) (keep_of rfl)
  · skip
    have hf4 := of_decide_eq_false hc0
    refine awp_exit ?_
    show AWP _ _ _ _ _
    refine seqR ?_
    refine opG rfl (aop_move (av := .v (.bool false)) (.inr rfl) rfl rfl rfl ?_)
    refine op0 ?_
    show AWP _ _ _ _ _
    refine awp_ret ?_
    exact fret (av := .v (.bool false)) rfl rfl (by rw [has_end (by omega) hinv] <;> rfl)

set_option maxRecDepth 10000 in
set_option maxHeartbeats 1000000 in
theorem cl_B (l : List Bool) (hl : l.length ≤ 4294967296) : FnO Try.prog 21 [.ro l.length (enc eB l)] (.sl 0 0 l.length) [⟨(enc eB l), 4, 1⟩] := by
  refine fnE_of_body (N := 8) Try.func21 rfl rfl (resOf1 rfl) (by simp) (fun w0 X => ?_)
  refine seqR ?_
  refine opG rfl (aop_move (av := .v (.slice none 0 0)) (.inr rfl) rfl rfl rfl ?_)
  refine op0 ?_
  show AWP _ _ _ _ _
  refine awp_seq ?_
  refine seqR ?_
  refine opG rfl (aop_move (av := .ro l.length (enc eB l)) (.inl rfl) rfl rfl rfl ?_)
  refine opG rfl (aop_slNil rfl rfl rfl ut23 rfl rfl (.inl rfl) (fun b4_ hb4_ => ?_))
  refine op0 ?_
  show AWP _ _ _ _ _
  refine awp_cond b4_ rfl rfl (fun hc0 => ?_) (fun hc0 => ?_)
  · skip
    have h0 : l.length = 0 := Decidable.byContradiction fun h => by have := hb4_ h; rw [hc0] at this; cases this
    refine seqR ?_
    refine opG rfl (aop_move (av := .v (.slice none 0 0)) (.inr rfl) rfl rfl rfl ?_)
    refine op0 ?_
    show AWP _ _ _ _ _
    refine awp_imp ⟨(upd (upd none_ 0 (.ro l.length (enc eB l))) 2 (.v (.slice none 0 0))), noOb⟩ (imp_le ⟨(lee_upd 2 _ rfl (lee_upd 0 _ rfl (lee_none _))), fun _ => .inl rfl⟩) ?_
    refine awp_imp _ (imp_adopt 2 51 4 1 rfl rfl) ?_
    refine awp_ret ?_
    exact fretO 51 rfl rfl rfl h0.symm (by rw [List.length_eq_zero_iff.1 h0]; rfl)
  · skip
    refine awp_skip ?_
    show AWP _ _ _ _ _
    refine seqR ?_
    refine opG rfl (aop_litO 52 rfl rfl rfl ut23 iz4 (by decide) (by decide) rfl rfl rfl rfl ?_)
    refine opG rfl (aop_move (av := .ro l.length (enc eB l)) (.inl rfl) rfl rfl rfl ?_)
    refine opG rfl (aop_appE (f := eB) (l := ([] : List Bool)) (l2 := l) 53 rfl rfl rfl rfl ut23 in4 rfl (by decide) rfl rfl rfl rfl rfl rfl (fun _ => rfl) rfl rfl rfl (by first | omega | (simp; done) | decide | (simp; omega) | (simp at *; omega)) (by first | omega | (simp; done) | decide | (simp; omega) | (simp at *; omega)) rfl ?_)
    refine opG rfl (aop_move (av := .sl 53 0 ((([] : List Bool) ++ l).length)) (.inr rfl) rfl rfl rfl ?_)
    refine op0 ?_
    show AWP _ _ _ _ _
    refine awp_imp ⟨(upd none_ 2 (.sl 53 0 ((([] : List Bool) ++ l).length))), (updO (updO (updO noOb 52 (.live ⟨[], 4, 1⟩)) 52 .dead) 53 (.live ⟨(enc eB (([] : List Bool) ++ l)), 4, 1⟩))⟩ (imp_le ⟨(lee_upd 2 _ rfl (lee_none _)), fun _ => .inl rfl⟩) ?_
    refine awp_ret ?_
    exact fretO 53 rfl rfl rfl rfl rfl

set_option maxRecDepth 10000 in
set_option maxHeartbeats 1000000 in
theorem cl_N (l : List Need) (hl : l.length ≤ 4294967296) : FnO Try.prog 31 [.ro l.length (enc eN l)] (.sl 0 0 l.length) [⟨(enc eN l), 30, 2⟩] := by
  refine fnE_of_body (N := 8) Try.func31 rfl rfl (resOf1 rfl) (by simp) (fun w0 X => ?_)
  refine seqR ?_
  refine opG rfl (aop_move (av := .v (.slice none 0 0)) (.inr rfl) rfl rfl rfl ?_)
  refine op0 ?_
  show AWP _ _ _ _ _
  refine awp_seq ?_
  refine seqR ?_
  refine opG rfl (aop_move (av := .ro l.length (enc eN l)) (.inl rfl) rfl rfl rfl ?_)
  refine opG rfl (aop_slNil rfl rfl rfl ut25 rfl rfl (.inl rfl) (fun b4_ hb4_ => ?_))
  refine op0 ?_
  show AWP _ _ _ _ _
  refine awp_cond b4_ rfl rfl (fun hc0 => ?_) (fun hc0 => ?_)
  · skip
    have h0 : l.length = 0 := Decidable.byContradiction fun h => by have := hb4_ h; rw [hc0] at this; cases this
    refine seqR ?_
    refine opG rfl (aop_move (av := .v (.slice none 0 0)) (.inr rfl) rfl rfl rfl ?_)
    refine op0 ?_
    show AWP _ _ _ _ _
    refine awp_imp ⟨(upd (upd none_ 0 (.ro l.length (enc eN l))) 2 (.v (.slice none 0 0))), noOb⟩ (imp_le ⟨(lee_upd 2 _ rfl (lee_upd 0 _ rfl (lee_none _))), fun _ => .inl rfl⟩) ?_
    refine awp_imp _ (imp_adopt 2 51 30 2 rfl rfl) ?_
    refine awp_ret ?_
    exact fretO 51 rfl rfl rfl h0.symm (by rw [List.length_eq_zero_iff.1 h0]; rfl)
  · skip
    refine awp_skip ?_
    show AWP _ _ _ _ _
    refine seqR ?_
    refine opG rfl (aop_litO 52 rfl rfl rfl ut25 iz30 (by decide) (by decide) rfl rfl rfl rfl ?_)
    refine opG rfl (aop_move (av := .ro l.length (enc eN l)) (.inl rfl) rfl rfl rfl ?_)
    refine opG rfl (aop_appE (f := eN) (l := ([] : List Need)) (l2 := l) 53 rfl rfl rfl rfl ut25 in30 rfl (by decide) rfl rfl rfl rfl rfl rfl (fun _ => rfl) rfl rfl rfl (by first | omega | (simp; done) | decide | (simp; omega) | (simp at *; omega)) (by first | omega | (simp; done) | decide | (simp; omega) | (simp at *; omega)) rfl ?_)
    refine opG rfl (aop_move (av := .sl 53 0 ((([] : List Need) ++ l).length)) (.inr rfl) rfl rfl rfl ?_)
    refine op0 ?_
    show AWP _ _ _ _ _
    refine awp_imp ⟨(upd none_ 2 (.sl 53 0 ((([] : List Need) ++ l).length))), (updO (updO (updO noOb 52 (.live ⟨[], 30, 2⟩)) 52 .dead) 53 (.live ⟨(enc eN (([] : List Need) ++ l)), 30, 2⟩))⟩ (imp_le ⟨(lee_upd 2 _ rfl (lee_none _)), fun _ => .inl rfl⟩) ?_
    refine awp_ret ?_
    exact fretO 53 rfl rfl rfl rfl rfl

set_option maxRecDepth 10000 in
set_option maxHeartbeats 1000000 in
theorem l14_of (l : List Need) (near : Bool) (hl : l.length ≤ 4294967296) : FnO Try.prog 9 [.ro l.length (enc eN l), .v (.bool near)] (.tup [.sl 0 0 ((ofL near l).length), .sl 1 0 ((ofL near l).length)]) [⟨(enc eN (ofL near l)), 30, 2⟩, ⟨(enc eN (ofL near l)), 31, 2⟩] := by
  refine fnE_of_body (N := 46) Try.func9 rfl rfl (resOf2 rfl) (by simp) (fun w0 X => ?_)
  refine seqR ?_
  refine opG rfl (aop_move (av := .v (.slice none 0 0)) (.inr rfl) rfl rfl rfl ?_)
  refine opG rfl (aop_move (av := .v (.slice none 0 0)) (.inr rfl) rfl rfl rfl ?_)
  refine op0 ?_
  show AWP _ _ _ _ _
  refine seqR ?_
  refine opG rfl (aop_move (av := .v (.slice none 0 0)) (.inr rfl) rfl rfl rfl ?_)
  refine op0 ?_
  show AWP _ _ _ _ _
  refine seqR ?_
  refine opG rfl (aop_move (av := .v (.slice none 0 0)) (.inr rfl) rfl rfl rfl ?_)
  refine op0 ?_
  show AWP _ _ _ _ _
  refine awp_imp ⟨(upd (upd (upd (upd (upd (upd none_ 0 (.ro l.length (enc eN l))) 1 (.v (.bool near))) 4 (.v (.slice none 0 0))) 5 (.v (.slice none 0 0))) 6 (.v (.slice none 0 0))) 7 (.v (.slice none 0 0))), noOb⟩ (imp_le ⟨(lee_upd 7 _ rfl (lee_upd 6 _ rfl (lee_upd 5 _ rfl (lee_upd 4 _ rfl (lee_upd 1 _ rfl (lee_upd 0 _ rfl (lee_none _))))))), fun _ => .inl rfl⟩) ?_
  refine awp_seq ?_
  refine seqR ?_
  refine opG rfl (aop_move (av := .v (.int .i64 0)) (.inr rfl) rfl rfl rfl ?_)
  refine op0 ?_
  show AWP _ _ _ _ _
  refine awp_block ?_
  refine awp_countI (fun k => ⟨(upd (upd (upd (upd (upd (upd (upd none_ 0 (.ro l.length (enc eN l))) 1 (.v (.bool near))) 4 (.v (.slice none 0 0))) 5 (.v (.slice none 0 0))) 6 (.sl 1 0 ((ofL near (l.take k)).length))) 7 (.sl 2 0 ((ofL near (l.take k)).length))) 8 (.v (.int .i64 (k : Int)))), (updO (updO noOb 1 (.live ⟨(enc eN (ofL near (l.take k))), 30, 2⟩)) 2 (.live ⟨(enc eN (ofL near (l.take k))), 31, 2⟩))⟩) (fun k => True) (l.length) ?_ trivial (fun k hk_k hinv => ?_)
  · skip
    refine (imp_adopt 6 51 30 2 rfl rfl).trans ?_
    refine (imp_adopt 7 52 31 2 rfl rfl).trans ?_
    exact imp_ler [(51, 1), (52, 2)] (ler2 51 1 52 2 _ _ _ _ (by decide) (by decide) rfl rfl rfl rfl (NoIL.out (l := [])) (NoIL.out (l := [])) (sr_same 8 (.v (.int .i64 (0 : Int))) rfl NoI.out (sr_map 7 (.sl 2 0 ((ofL near (l.take 0)).length)) (by first | exact Ok.sl _ _ _ (by simp) | exact Ok.pt _ _ (by simp)) rfl (sr_map 6 (.sl 1 0 ((ofL near (l.take 0)).length)) (by first | exact Ok.sl _ _ _ (by simp) | exact Ok.pt _ _ (by simp)) rfl (sr_same 5 (.v (.slice none 0 0)) rfl NoI.out (sr_same 4 (.v (.slice none 0 0)) rfl NoI.out (sr_same 1 (.v (.bool near)) rfl NoI.out (sr_same 0 (.ro l.length (enc eN l)) rfl NoI.out sr_none)))))))) (keep_of rfl)
  have hol : (ofL near (l.take k)).length ≤ l.length := by simp [ofL]; omega
  refine awp_seq ?_
  refine seqR ?_
  refine opG rfl (aop_move (av := .v (.int .i64 (k : Int))) (.inl rfl) rfl rfl rfl ?_)
  refine opG rfl (aop_move (av := .ro l.length (enc eN l)) (.inl rfl) rfl rfl rfl ?_)
  refine opG rfl (aop_len rfl rfl rfl rfl ut22 (len_ro rfl) ?_)
  refine opG rfl (aop_binI (u := (.bool (decide ((k : Int) < (l.length : Int))))) rfl rfl rfl rfl rfl trivial rfl ?_)
  refine op0 ?_
  show AWP _ _ _ _ _
  refine awp_imp ⟨(upd (upd (upd (upd (upd (upd (upd (upd none_ 0 (.ro l.length (enc eN l))) 1 (.v (.bool near))) 4 (.v (.slice none 0 0))) 5 (.v (.slice none 0 0))) 6 (.sl 1 0 ((ofL near (l.take k)).length))) 7 (.sl 2 0 ((ofL near (l.take k)).length))) 8 (.v (.int .i64 (k : Int)))) 13 (.v (.bool (decide ((k : Int) < (l.length : Int)))))), (updO (updO noOb 1 (.live ⟨(enc eN (ofL near (l.take k))), 30, 2⟩)) 2 (.live ⟨(enc eN (ofL near (l.take k))), 31, 2⟩))⟩ (imp_le ⟨(lee_upd 13 _ rfl (lee_upd 8 _ rfl (lee_upd 7 _ rfl (lee_upd 6 _ rfl (lee_upd 5 _ rfl (lee_upd 4 _ rfl (lee_upd 1 _ rfl (lee_upd 0 _ rfl (lee_none _))))))))), fun _ => .inl rfl⟩) ?_
  refine awp_cond (decide ((k : Int) < (l.length : Int))) rfl rfl (fun hc0 => ?_) (fun hc0 => ?_)
  · skip
    have hf1 := of_decide_eq_true hc0
    refine awp_skip ?_
    show AWP _ _ _ _ _
    refine awp_seq ?_
    refine awp_block ?_
    refine seqR ?_
    refine opG rfl (aop_move (av := .ro l.length (enc eN l)) (.inl rfl) rfl rfl rfl ?_)
    refine opG rfl (aop_move (av := .v (.int .i64 (k : Int))) (.inl rfl) rfl rfl rfl ?_)
    refine opG rfl (aop_ixE dN rfl rfl rfl ut22 sz66 rfl rfl (fun _ => rfl) rfl (by first | omega | (simp; done) | decide | (simp; omega) | (simp at *; omega)) ?_)
    refine opG rfl (aop_fieldAddr (av := .rp (([.v (.int .i64 ((l.getD k dN).point)), .v (.bool ((l.getD k dN).right))] : List AV) ++ ((enc eN l).drop ((k + 1) * 2)))) (av' := .rp (([.v (.int .i64 ((l.getD k dN).point)), .v (.bool ((l.getD k dN).right))] : List AV) ++ ((enc eN l).drop ((k + 1) * 2)))) rfl rfl rfl ft66_0 sz3 rfl rfl rfl ?_)
    refine opG rfl (aop_ld (av := .v (.int .i64 ((l.getD k dN).point))) rfl rfl rfl ag3 rfl rfl ?_)
    refine opG rfl (aop_move (av := .v (.int .i64 ((l.getD k dN).point))) (.inr rfl) rfl rfl rfl ?_)
    refine op0 ?_
    show AWP _ _ _ _ _
    refine awp_imp ⟨(upd (upd (upd (upd (upd (upd (upd (upd none_ 0 (.ro l.length (enc eN l))) 1 (.v (.bool near))) 4 (.v (.slice none 0 0))) 5 (.v (.slice none 0 0))) 6 (.sl 1 0 ((ofL near (l.take k)).length))) 7 (.sl 2 0 ((ofL near (l.take k)).length))) 8 (.v (.int .i64 (k : Int)))) 9 (.v (.int .i64 ((l.getD k dN).point)))), (updO (updO noOb 1 (.live ⟨(enc eN (ofL near (l.take k))), 30, 2⟩)) 2 (.live ⟨(enc eN (ofL near (l.take k))), 31, 2⟩))⟩ (imp_le ⟨(lee_upd 9 _ rfl (lee_upd 8 _ rfl (lee_upd 7 _ rfl (lee_upd 6 _ rfl (lee_upd 5 _ rfl (lee_upd 4 _ rfl (lee_upd 1 _ rfl (lee_upd 0 _ rfl (lee_none _))))))))), fun _ => .inl rfl⟩) ?_
    refine awp_seq ?_
    refine seqR ?_
    refine opG rfl (aop_move (av := .v (.bool near)) (.inl rfl) rfl rfl rfl ?_)
    refine op0 ?_
    show AWP _ _ _ _ _
    refine awp_cond near rfl rfl (fun hc1 => ?_) (fun hc1 => ?_)
    · skip
      refine regR ?_
      refine opG rfl (aop_move (av := .v (.int .i64 ((l.getD k dN).point))) (.inl rfl) rfl rfl rfl ?_)
      refine opG rfl (aop_binI (u := (.int .i64 (Int.tmod ((l.getD k dN).point) 4))) rfl rfl rfl rfl rfl (by show _ ≠ _; decide) rfl ?_)
      refine opG rfl (aop_move (av := .v (.int .i64 (Int.tmod ((l.getD k dN).point) 4))) (.inr rfl) rfl rfl rfl ?_)
      refine op0 ?_
      show AWP _ _ _ _ _
      refine awp_imp ⟨(upd (upd (upd (upd (upd (upd (upd (upd none_ 0 (.ro l.length (enc eN l))) 1 (.v (.bool near))) 4 (.v (.slice none 0 0))) 5 (.v (.slice none 0 0))) 6 (.sl 1 0 ((ofL near (l.take k)).length))) 7 (.sl 2 0 ((ofL near (l.take k)).length))) 8 (.v (.int .i64 (k : Int)))) 9 (.v (.int .i64 (Int.tmod ((l.getD k dN).point) 4)))), (updO (updO noOb 1 (.live ⟨(enc eN (ofL near (l.take k))), 30, 2⟩)) 2 (.live ⟨(enc eN (ofL near (l.take k))), 31, 2⟩))⟩ (imp_le ⟨(lee_upd 9 _ rfl (lee_upd 8 _ rfl (lee_upd 7 _ rfl (lee_upd 6 _ rfl (lee_upd 5 _ rfl (lee_upd 4 _ rfl (lee_upd 1 _ rfl (lee_upd 0 _ rfl (lee_none _))))))))), fun _ => .inl rfl⟩) ?_
      refine seqR ?_
      refine opG rfl (aop_move (av := .sl 1 0 ((ofL near (l.take k)).length)) (.inl rfl) rfl rfl rfl ?_)
      refine opG rfl (aop_move (av := .v (.int .i64 (Int.tmod ((l.getD k dN).point) 4))) (.inl rfl) rfl rfl rfl ?_)
      refine opG rfl (aop_move (av := .ro l.length (enc eN l)) (.inl rfl) rfl rfl rfl ?_)
      refine opG rfl (aop_move (av := .v (.int .i64 (k : Int))) (.inl rfl) rfl rfl rfl ?_)
      refine opG rfl (aop_ixE dN rfl rfl rfl ut22 sz66 rfl rfl (fun _ => rfl) rfl (by first | omega | (simp; done) | decide | (simp; omega) | (simp at *; omega)) ?_)
      refine opG rfl (aop_fieldAddr (av := .rp (([.v (.int .i64 ((l.getD k dN).point)), .v (.bool ((l.getD k dN).right))] : List AV) ++ ((enc eN l).drop ((k + 1) * 2)))) (av' := .rp (([.v (.bool ((l.getD k dN).right))] : List AV) ++ ((enc eN l).drop ((k + 1) * 2)))) rfl rfl rfl ft66_1 sz4 rfl rfl rfl ?_)
      refine opG rfl (aop_ld (av := .v (.bool ((l.getD k dN).right))) rfl rfl rfl ag4 rfl rfl ?_)
      refine opG rfl (aop_build rfl rfl rfl pl30 rfl ?_)
      refine opG rfl (aop_lit rfl rfl rfl ut25 iz30 (by decide) (by decide) rfl rfl ?_)
      refine opG rfl (aop_app1 (f := eN) (l := ofL near (l.take k)) 53 (⟨Int.tmod ((l.getD k dN).point) 4, (l.getD k dN).right⟩ : Need) rfl rfl rfl rfl ut25 in30 rfl (by decide) rfl rfl rfl rfl rfl rfl (fun _ => rfl) rfl rfl (by first | omega | (simp; done) | decide | (simp; omega) | (simp at *; omega)) (by first | omega | (simp; done) | decide | (simp; omega) | (simp at *; omega)) rfl ?_)
      refine opG rfl (aop_move (av := .sl 53 0 (((ofL near (l.take k)) ++ [(⟨Int.tmod ((l.getD k dN).point) 4, (l.getD k dN).right⟩ : Need)]).length)) (.inr rfl) rfl rfl rfl ?_)
      refine op0 ?_
      show AWP _ _ _ _ _
      refine awp_imp ⟨(upd (upd (upd (upd (upd (upd (upd (upd none_ 0 (.ro l.length (enc eN l))) 1 (.v (.bool near))) 4 (.v (.slice none 0 0))) 5 (.v (.slice none 0 0))) 6 (.sl 53 0 (((ofL near (l.take k)) ++ [(⟨Int.tmod ((l.getD k dN).point) 4, (l.getD k dN).right⟩ : Need)]).length))) 7 (.sl 2 0 ((ofL near (l.take k)).length))) 8 (.v (.int .i64 (k : Int)))) 9 (.v (.int .i64 (Int.tmod ((l.getD k dN).point) 4)))), (updO (updO (updO (updO noOb 1 (.live ⟨(enc eN (ofL near (l.take k))), 30, 2⟩)) 2 (.live ⟨(enc eN (ofL near (l.take k))), 31, 2⟩)) 1 .dead) 53 (.live ⟨(enc eN ((ofL near (l.take k)) ++ [(⟨Int.tmod ((l.getD k dN).point) 4, (l.getD k dN).right⟩ : Need)])), 30, 2⟩))⟩ (imp_le ⟨(lee_upd 9 _ rfl (lee_upd 8 _ rfl (lee_upd 7 _ rfl (lee_upd 6 _ rfl (lee_upd 5 _ rfl (lee_upd 4 _ rfl (lee_upd 1 _ rfl (lee_upd 0 _ rfl (lee_none _))))))))), fun _ => .inl rfl⟩) ?_
      refine regR ?_
      refine opG rfl (aop_move (av := .sl 2 0 ((ofL near (l.take k)).length)) (.inl rfl) rfl rfl rfl ?_)
      refine opG rfl (aop_move (av := .v (.int .i64 (Int.tmod ((l.getD k dN).point) 4))) (.inl rfl) rfl rfl rfl ?_)
      refine opG rfl (aop_move (av := .ro l.length (enc eN l)) (.inl rfl) rfl rfl rfl ?_)
      refine opG rfl (aop_move (av := .v (.int .i64 (k : Int))) (.inl rfl) rfl rfl rfl ?_)
      refine opG rfl (aop_ixE dN rfl rfl rfl ut22 sz66 rfl rfl (fun _ => rfl) rfl (by first | omega | (simp; done) | decide | (simp; omega) | (simp at *; omega)) ?_)
      refine opG rfl (aop_fieldAddr (av := .rp (([.v (.int .i64 ((l.getD k dN).point)), .v (.bool ((l.getD k dN).right))] : List AV) ++ ((enc eN l).drop ((k + 1) * 2)))) (av' := .rp (([.v (.bool ((l.getD k dN).right))] : List AV) ++ ((enc eN l).drop ((k + 1) * 2)))) rfl rfl rfl ft66_1 sz4 rfl rfl rfl ?_)
      refine opG rfl (aop_ld (av := .v (.bool ((l.getD k dN).right))) rfl rfl rfl ag4 rfl rfl ?_)
      refine opG rfl (aop_build rfl rfl rfl pl31 rfl ?_)
      refine opG rfl (aop_lit rfl rfl rfl ut26 iz31 (by decide) (by decide) rfl rfl ?_)
      refine opG rfl (aop_app1 (f := eN) (l := ofL near (l.take k)) 54 (⟨Int.tmod ((l.getD k dN).point) 4, (l.getD k dN).right⟩ : Need) rfl rfl rfl rfl ut26 in31 rfl (by decide) rfl rfl rfl rfl rfl rfl (fun _ => rfl) rfl rfl (by first | omega | (simp; done) | decide | (simp; omega) | (simp at *; omega)) (by first | omega | (simp; done) | decide | (simp; omega) | (simp at *; omega)) rfl ?_)
      refine opG rfl (aop_move (av := .sl 54 0 (((ofL near (l.take k)) ++ [(⟨Int.tmod ((l.getD k dN).point) 4, (l.getD k dN).right⟩ : Need)]).length)) (.inr rfl) rfl rfl rfl ?_)
      refine op0 ?_
      show AWP _ _ _ _ _
      refine awp_imp ⟨(upd (upd (upd (upd (upd (upd (upd (upd none_ 0 (.ro l.length (enc eN l))) 1 (.v (.bool near))) 4 (.v (.slice none 0 0))) 5 (.v (.slice none 0 0))) 6 (.sl 53 0 (((ofL near (l.take k)) ++ [(⟨Int.tmod ((l.getD k dN).point) 4, (l.getD k dN).right⟩ : Need)]).length))) 7 (.sl 54 0 (((ofL near (l.take k)) ++ [(⟨Int.tmod ((l.getD k dN).point) 4, (l.getD k dN).right⟩ : Need)]).length))) 8 (.v (.int .i64 (k : Int)))) 9 (.v (.int .i64 (Int.tmod ((l.getD k dN).point) 4)))), (updO (updO (updO (updO (updO (updO noOb 1 (.live ⟨(enc eN (ofL near (l.take k))), 30, 2⟩)) 2 (.live ⟨(enc eN (ofL near (l.take k))), 31, 2⟩)) 1 .dead) 53 (.live ⟨(enc eN ((ofL near (l.take k)) ++ [(⟨Int.tmod ((l.getD k dN).point) 4, (l.getD k dN).right⟩ : Need)])), 30, 2⟩)) 2 .dead) 54 (.live ⟨(enc eN ((ofL near (l.take k)) ++ [(⟨Int.tmod ((l.getD k dN).point) 4, (l.getD k dN).right⟩ : Need)])), 31, 2⟩))⟩ (imp_le ⟨(lee_upd 9 _ rfl (lee_upd 8 _ rfl (lee_upd 7 _ rfl (lee_upd 6 _ rfl (lee_upd 5 _ rfl (lee_upd 4 _ rfl (lee_upd 1 _ rfl (lee_upd 0 _ rfl (lee_none _))))))))), fun _ => .inl rfl⟩) ?_
      refine regR ?_
      refine opG rfl (aop_move (av := .v (.int .i64 (k : Int))) (.inl rfl) rfl rfl rfl ?_)
      refine opG rfl (aop_binI (u := (.int .i64 ((k + 1 : Nat) : Int))) rfl rfl rfl rfl rfl trivial (addN (by omega)) ?_)
      refine opG rfl (aop_move (av := .v (.int .i64 ((k + 1 : Nat) : Int))) (.inr rfl) rfl rfl rfl ?_)
      refine op0 ?_
      show _ ∧ _
      have hs := ofL_near (l := l) (k := k) (by omega) hc1
      refine ⟨by omega, trivial, ?_⟩
      exact imp_ler [(53, 1), (54, 2)] (ler2 53 1 54 2 _ _ _ _ (by decide) (by decide) rfl rfl (by exact congrArg (fun l_ => LObj.mk (enc eN l_) 30 2) hs.symm) (by exact congrArg (fun l_ => LObj.mk (enc eN l_) 31 2) hs.symm) (NoIL.out (l := (enc eN ((ofL near (l.take k)) ++ [(⟨Int.tmod ((l.getD k dN).point) 4, (l.getD k dN).right⟩ : Need)])))) (NoIL.out (l := (enc eN ((ofL near (l.take k)) ++ [(⟨Int.tmod ((l.getD k dN).point) 4, (l.getD k dN).right⟩ : Need)])))) (sr_same 8 (.v (.int .i64 ((k + 1) : Int))) rfl NoI.out (sr_map 7 (.sl 2 0 ((ofL near (l.take (k + 1))).length)) (by first | exact Ok.sl _ _ _ (by simp) | exact Ok.pt _ _ (by simp)) (by exact congrArg (AV.sl 2 0) (congrArg List.length hs)) (sr_map 6 (.sl 1 0 ((ofL near (l.take (k + 1))).length)) (by first | exact Ok.sl _ _ _ (by simp) | exact Ok.pt _ _ (by simp)) (by exact congrArg (AV.sl 1 0) (congrArg List.length hs)) (sr_same 5 (.v (.slice none 0 0)) rfl NoI.out (sr_same 4 (.v (.slice none 0 0)) rfl NoI.out (sr_same 1 (.v (.bool near)) rfl NoI.out (sr_same 0 (.ro l.length (enc eN l)) rfl NoI.out sr_none)))))))) (keep_of rfl)
    · skip
      refine awp_skip ?_
      show AWP _ _ _ _ _
      refine seqR ?_
      refine opG rfl (aop_move (av := .sl 1 0 ((ofL near (l.take k)).length)) (.inl rfl) rfl rfl rfl ?_)
      refine opG rfl (aop_move (av := .v (.int .i64 ((l.getD k dN).point))) (.inl rfl) rfl rfl rfl ?_)
      refine opG rfl (aop_move (av := .ro l.length (enc eN l)) (.inl rfl) rfl rfl rfl ?_)
      refine opG rfl (aop_move (av := .v (.int .i64 (k : Int))) (.inl rfl) rfl rfl rfl ?_)
      refine opG rfl (aop_ixE dN rfl rfl rfl ut22 sz66 rfl rfl (fun _ => rfl) rfl (by first | omega | (simp; done) | decide | (simp; omega) | (simp at *; omega)) ?_)
      refine opG rfl (aop_fieldAddr (av := .rp (([.v (.int .i64 ((l.getD k dN).point)), .v (.bool ((l.getD k dN).right))] : List AV) ++ ((enc eN l).drop ((k + 1) * 2)))) (av' := .rp (([.v (.bool ((l.getD k dN).right))] : List AV) ++ ((enc eN l).drop ((k + 1) * 2)))) rfl rfl rfl ft66_1 sz4 rfl rfl rfl ?_)
      refine opG rfl (aop_ld (av := .v (.bool ((l.getD k dN).right))) rfl rfl rfl ag4 rfl rfl ?_)
      refine opG rfl (aop_build rfl rfl rfl pl30 rfl ?_)
      refine opG rfl (aop_lit rfl rfl rfl ut25 iz30 (by decide) (by decide) rfl rfl ?_)
      refine opG rfl (aop_app1 (f := eN) (l := ofL near (l.take k)) 55 (⟨(l.getD k dN).point, (l.getD k dN).right⟩ : Need) rfl rfl rfl rfl ut25 in30 rfl (by decide) rfl rfl rfl rfl rfl rfl (fun _ => rfl) rfl rfl (by first | omega | (simp; done) | decide | (simp; omega) | (simp at *; omega)) (by first | omega | (simp; done) | decide | (simp; omega) | (simp at *; omega)) rfl ?_)
      refine opG rfl (aop_move (av := .sl 55 0 (((ofL near (l.take k)) ++ [(⟨(l.getD k dN).point, (l.getD k dN).right⟩ : Need)]).length)) (.inr rfl) rfl rfl rfl ?_)
      refine op0 ?_
      show AWP _ _ _ _ _
      refine awp_imp ⟨(upd (upd (upd (upd (upd (upd (upd (upd none_ 0 (.ro l.length (enc eN l))) 1 (.v (.bool near))) 4 (.v (.slice none 0 0))) 5 (.v (.slice none 0 0))) 6 (.sl 55 0 (((ofL near (l.take k)) ++ [(⟨(l.getD k dN).point, (l.getD k dN).right⟩ : Need)]).length))) 7 (.sl 2 0 ((ofL near (l.take k)).length))) 8 (.v (.int .i64 (k : Int)))) 9 (.v (.int .i64 ((l.getD k dN).point)))), (updO (updO (updO (updO noOb 1 (.live ⟨(enc eN (ofL near (l.take k))), 30, 2⟩)) 2 (.live ⟨(enc eN (ofL near (l.take k))), 31, 2⟩)) 1 .dead) 55 (.live ⟨(enc eN ((ofL near (l.take k)) ++ [(⟨(l.getD k dN).point, (l.getD k dN).right⟩ : Need)])), 30, 2⟩))⟩ (imp_le ⟨(lee_upd 9 _ rfl (lee_upd 8 _ rfl (lee_upd 7 _ rfl (lee_upd 6 _ rfl (lee_upd 5 _ rfl (lee_upd 4 _ rfl (lee_upd 1 _ rfl (lee_upd 0 _ rfl (lee_none _))))))))), fun _ => .inl rfl⟩) ?_
      refine regR ?_
      refine opG rfl (aop_move (av := .sl 2 0 ((ofL near (l.take k)).length)) (.inl rfl) rfl rfl rfl ?_)
      refine opG rfl (aop_move (av := .v (.int .i64 ((l.getD k dN).point))) (.inl rfl) rfl rfl rfl ?_)
      refine opG rfl (aop_move (av := .ro l.length (enc eN l)) (.inl rfl) rfl rfl rfl ?_)
      refine opG rfl (aop_move (av := .v (.int .i64 (k : Int))) (.inl rfl) rfl rfl rfl ?_)
      refine opG rfl (aop_ixE dN rfl rfl rfl ut22 sz66 rfl rfl (fun _ => rfl) rfl (by first | omega | (simp; done) | decide | (simp; omega) | (simp at *; omega)) ?_)
      refine opG rfl (aop_fieldAddr (av := .rp (([.v (.int .i64 ((l.getD k dN).point)), .v (.bool ((l.getD k dN).right))] : List AV) ++ ((enc eN l).drop ((k + 1) * 2)))) (av' := .rp (([.v (.bool ((l.getD k dN).right))] : List AV) ++ ((enc eN l).drop ((k + 1) * 2)))) rfl rfl rfl ft66_1 sz4 rfl rfl rfl ?_)
      refine opG rfl (aop_ld (av := .v (.bool ((l.getD k dN).right))) rfl rfl rfl ag4 rfl rfl ?_)
      refine opG rfl (aop_build rfl rfl rfl pl31 rfl ?_)
      refine opG rfl (aop_lit rfl rfl rfl ut26 iz31 (by decide) (by decide) rfl rfl ?_)
      refine opG rfl (aop_app1 (f := eN) (l := ofL near (l.take k)) 56 (⟨(l.getD k dN).point, (l.getD k dN).right⟩ : Need) rfl rfl rfl rfl ut26 in31 rfl (by decide) rfl rfl rfl rfl rfl rfl (fun _ => rfl) rfl rfl (by first | omega | (simp; done) | decide | (simp; omega) | (simp at *; omega)) (by first | omega | (simp; done) | decide | (simp; omega) | (simp at *; omega)) rfl ?_)
      refine opG rfl (aop_move (av := .sl 56 0 (((ofL near (l.take k)) ++ [(⟨(l.getD k dN).point, (l.getD k dN).right⟩ : Need)]).length)) (.inr rfl) rfl rfl rfl ?_)
      refine op0 ?_
      show AWP _ _ _ _ _
      refine awp_imp ⟨(upd (upd (upd (upd (upd (upd (upd (upd none_ 0 (.ro l.length (enc eN l))) 1 (.v (.bool near))) 4 (.v (.slice none 0 0))) 5 (.v (.slice none 0 0))) 6 (.sl 55 0 (((ofL near (l.take k)) ++ [(⟨(l.getD k dN).point, (l.getD k dN).right⟩ : Need)]).length))) 7 (.sl 56 0 (((ofL near (l.take k)) ++ [(⟨(l.getD k dN).point, (l.getD k dN).right⟩ : Need)]).length))) 8 (.v (.int .i64 (k : Int)))) 9 (.v (.int .i64 ((l.getD k dN).point)))), (updO (updO (updO (updO (updO (updO noOb 1 (.live ⟨(enc eN (ofL near (l.take k))), 30, 2⟩)) 2 (.live ⟨(enc eN (ofL near (l.take k))), 31, 2⟩)) 1 .dead) 55 (.live ⟨(enc eN ((ofL near (l.take k)) ++ [(⟨(l.getD k dN).point, (l.getD k dN).right⟩ : Need)])), 30, 2⟩)) 2 .dead) 56 (.live ⟨(enc eN ((ofL near (l.take k)) ++ [(⟨(l.getD k dN).point, (l.getD k dN).right⟩ : Need)])), 31, 2⟩))⟩ (imp_le ⟨(lee_upd 9 _ rfl (lee_upd 8 _ rfl (lee_upd 7 _ rfl (lee_upd 6 _ rfl (lee_upd 5 _ rfl (lee_upd 4 _ rfl (lee_upd 1 _ rfl (lee_upd 0 _ rfl (lee_none _))))))))), fun _ => .inl rfl⟩) ?_
      refine regR ?_
      refine opG rfl (aop_move (av := .v (.int .i64 (k : Int))) (.inl rfl) rfl rfl rfl ?_)
      refine opG rfl (aop_binI (u := (.int .i64 ((k + 1 : Nat) : Int))) rfl rfl rfl rfl rfl trivial (addN (by omega)) ?_)
      refine opG rfl (aop_move (av := .v (.int .i64 ((k + 1 : Nat) : Int))) (.inr rfl) rfl rfl rfl ?_)
      refine op0 ?_
      show _ ∧ _
      have hs := ofL_far (l := l) (k := k) (by omega) hc1
      refine ⟨by omega, trivial, ?_⟩
      exact imp_ler [(55, 1), (56, 2)] (ler2 55 1 56 2 _ _ _ _ (by decide) (by decide) rfl rfl (by exact congrArg (fun l_ => LObj.mk (enc eN l_) 30 2) hs.symm) (by exact congrArg (fun l_ => LObj.mk (enc eN l_) 31 2) hs.symm) (NoIL.out (l := (enc eN ((ofL near (l.take k)) ++ [(⟨(l.getD k dN).point, (l.getD k dN).right⟩ : Need)])))) (NoIL.out (l := (enc eN ((ofL near (l.take k)) ++ [(⟨(l.getD k dN).point, (l.getD k dN).right⟩ : Need)])))) (sr_same 8 (.v (.int .i64 ((k + 1) : Int))) rfl NoI.out (sr_map 7 (.sl 2 0 ((ofL near (l.take (k + 1))).length)) (by first | exact Ok.sl _ _ _ (by simp) | exact Ok.pt _ _ (by simp)) (by exact congrArg (AV.sl 2 0) (congrArg List.length hs)) (sr_map 6 (.sl 1 0 ((ofL near (l.take (k + 1))).length)) (by first | exact Ok.sl _ _ _ (by simp) | exact Ok.pt _ _ (by simp)) (by exact congrArg (AV.sl 1 0) (congrArg List.length hs)) (sr_same 5 (.v (.slice none 0 0)) rfl NoI.out (sr_same 4 (.v (.slice none 0 0)) rfl NoI.out (sr_same 1 (.v (.bool near)) rfl NoI.out (sr_same 0 (.ro l.length (enc eN l)) rfl NoI.out sr_none)))))))) (keep_of rfl)
  · skip
    have hf2 := of_decide_eq_false hc0
    refine awp_exit ?_
    show AWP _ _ _ _ _
    refine seqR ?_
    refine opG rfl (aop_move (av := .sl 1 0 ((ofL near (l.take k)).length)) (.inl rfl) rfl rfl rfl ?_)
    refine opG rfl (aop_move (av := .sl 2 0 ((ofL near (l.take k)).length)) (.inl rfl) rfl rfl rfl ?_)
    refine opG rfl (aop_move (av := .sl 1 0 ((ofL near (l.take k)).length)) (.inr rfl) rfl rfl rfl ?_)
    refine opG rfl (aop_move (av := .sl 2 0 ((ofL near (l.take k)).length)) (.inr rfl) rfl rfl rfl ?_)
    refine op0 ?_
    show AWP _ _ _ _ _
    refine awp_imp ⟨(upd (upd none_ 4 (.sl 1 0 ((ofL near (l.take k)).length))) 5 (.sl 2 0 ((ofL near (l.take k)).length))), (updO (updO noOb 1 (.live ⟨(enc eN (ofL near (l.take k))), 30, 2⟩)) 2 (.live ⟨(enc eN (ofL near (l.take k))), 31, 2⟩))⟩ (imp_le ⟨(lee_upd 5 _ rfl (lee_upd 4 _ rfl (lee_none _))), fun _ => .inl rfl⟩) ?_
    refine awp_ret ?_
    have he := ofL_all near l k (by omega)
    exact fretO2 1 2 (by decide) rfl rfl rfl rfl rfl rfl (congrArg List.length he) (congrArg List.length he) (congrArg (fun l_ => LObj.mk (enc eN l_) 30 2) he) (congrArg (fun l_ => LObj.mk (enc eN l_) 31 2) he)

set_option maxRecDepth 10000 in
set_option maxHeartbeats 1000000 in
theorem p_Move (right : List Bool) (needs : List Need) (hr : right.length ≤ 65536) (hl : needs.length ≤ 65536) : FnO Try.prog 10 [.ro right.length (enc eB right), .ro needs.length (enc eN needs)] (.sl 0 0 ((moveL right needs).length)) [⟨(enc eB (moveL right needs)), 4, 1⟩] := by
  refine fnE_of_body (N := 40) Try.func10 rfl rfl (resOf1 rfl) (by simp) (fun w0 X => ?_)
  refine seqR ?_
  refine opG rfl (aop_move (av := .v (.slice none 0 0)) (.inr rfl) rfl rfl rfl ?_)
  refine op0 ?_
  show AWP _ _ _ _ _
  refine seqR ?_
  refine opG rfl (aop_move (av := .ro right.length (enc eB right)) (.inl rfl) rfl rfl rfl ?_)
  refine opG rfl (callO_ 51 (cl_B right (by first | omega | (simp; done) | decide | (simp; omega) | (simp at *; omega))) rfl rfl rfl rfl rfl bd21 (lends_cons (lend_n (av := .ro right.length (enc eB right))) lends_nil) (.sl _ _ _ trivial) (news1 news0) (free1 rfl) rfl rfl ?_)
  refine opG rfl (aop_move (av := .sl 51 0 right.length) (.inr rfl) rfl rfl rfl ?_)
  refine op0 ?_
  show AWP _ _ _ _ _
  refine awp_imp ⟨(upd (upd (upd none_ 1 (.ro needs.length (enc eN needs))) 4 (.v (.slice none 0 0))) 5 (.sl 51 0 right.length)), (updO noOb 51 (.live ⟨(enc eB right), 4, 1⟩))⟩ (imp_le ⟨(lee_upd 5 _ rfl (lee_upd 4 _ rfl (lee_upd 1 _ rfl (lee_none _)))), fun _ => .inl rfl⟩) ?_
  refine awp_seq ?_
  refine seqR ?_
  refine opG rfl (aop_move (av := .ro needs.length (enc eN needs)) (.inl rfl) rfl rfl rfl ?_)
  refine opG rfl (aop_len rfl rfl rfl rfl ut25 (len_ro rfl) ?_)
  refine opG rfl (aop_move (av := .v (.int .i64 0)) (.inl rfl) rfl rfl rfl ?_)
  refine op0 ?_
  show AWP _ _ _ _ _
  refine awp_block ?_
  refine awp_countI (fun k => ⟨(upd (upd (upd (upd (upd none_ 4 (.v (.slice none 0 0))) 5 (.sl 1 0 ((moveL right (needs.take k)).length))) 10 (.ro needs.length (enc eN needs))) 11 (.v (.int .i64 (needs.length : Int)))) 12 (.v (.int .i64 (k : Int)))), (updO noOb 1 (.live ⟨(enc eB (moveL right (needs.take k))), 4, 1⟩))⟩) (fun k => True) (needs.length) ?_ trivial (fun k hk_k hinv => ?_)
  · skip
    exact imp_ler [(51, 1)] (ler1 51 1 _ _ rfl rfl (NoIL.out (l := (enc eB right))) (sr_same 12 (.v (.int .i64 (0 : Int))) rfl NoI.out (sr_same 11 (.v (.int .i64 (needs.length : Int))) rfl NoI.out (sr_same 10 (.ro needs.length (enc eN needs)) rfl NoI.out (sr_map 5 (.sl 1 0 ((moveL right (needs.take 0)).length)) (by first | exact Ok.sl _ _ _ (by simp) | exact Ok.pt _ _ (by simp)) rfl (sr_same 4 (.v (.slice none 0 0)) rfl NoI.out sr_none)))))) (keep_of rfl)
  have hml := moveL_len right (needs.take k)
  refine seqR ?_
  refine opG rfl (aop_binI (u := (.bool (decide ((k : Int) < (needs.length : Int))))) rfl rfl rfl rfl rfl trivial rfl ?_)
  refine op0 ?_
  show AWP _ _ _ _ _
  refine awp_seq ?_
  refine awp_cond (decide ((k : Int) < (needs.length : Int))) rfl rfl (fun hc0 => ?_) (fun hc0 => ?_)
  · skip
    have hf1 := of_decide_eq_true hc0
    refine awp_skip ?_
    show AWP _ _ _ _ _
    refine awp_seq ?_
    refine awp_block ?_
    refine seqR ?_
    refine opG rfl (aop_ixE dN rfl rfl rfl ut25 sz30 rfl rfl (fun _ => rfl) rfl (by first | omega | (simp; done) | decide | (simp; omega) | (simp at *; omega)) ?_)
    refine opG rfl (aop_ldB (cells' := [.v (.int .i64 ((needs.getD k dN).point)), .v (.bool ((needs.getD k dN).right))]) rfl rfl rfl ag30 sz30 rfl rfl rfl rfl ?_)
    refine opG rfl (aop_alloc 52 rfl rfl rfl rfl ze30 rfl ?_)
    refine opG rfl (aop_store rfl rfl rfl sz30 rfl rfl rfl rfl rfl (Nat.le_of_ble_eq_true rfl) rfl rfl ?_)
    refine op0 ?_
    show AWP _ _ _ _ _
    refine awp_imp ⟨(upd (upd (upd (upd (upd (upd none_ 4 (.v (.slice none 0 0))) 5 (.sl 1 0 ((moveL right (needs.take k)).length))) 7 (.pt 52 0)) 10 (.ro needs.length (enc eN needs))) 11 (.v (.int .i64 (needs.length : Int)))) 12 (.v (.int .i64 (k : Int)))), (updO (updO (updO noOb 1 (.live ⟨(enc eB (moveL right (needs.take k))), 4, 1⟩)) 52 (.live ⟨[.v (.int .i64 0), .v (.bool false)], 30, 1⟩)) 52 (.live ⟨[.v (.int .i64 ((needs.getD k dN).point)), .v (.bool ((needs.getD k dN).right))], 30, 1⟩))⟩ (imp_le ⟨(lee_upd 12 _ rfl (lee_upd 11 _ rfl (lee_upd 10 _ rfl (lee_upd 7 _ rfl (lee_upd 5 _ rfl (lee_upd 4 _ rfl (lee_none _))))))), fun _ => .inl rfl⟩) ?_
    refine awp_seq ?_
    refine seqR ?_
    refine opG rfl (aop_fieldAddr (av := .pt 52 0) (av' := .pt 52 0) rfl rfl rfl ft30_0 sz3 rfl rfl rfl ?_)
    refine opG rfl (aop_ld (av := .v (.int .i64 ((needs.getD k dN).point))) rfl rfl rfl ag3 rfl rfl ?_)
    refine opG rfl (aop_binI (u := (.bool (decide (((needs.getD k dN).point) < 0)))) rfl rfl rfl rfl rfl trivial rfl ?_)
    refine opG rfl (aop_move (av := .v (.bool (decide (((needs.getD k dN).point) < 0)))) (.inl rfl) rfl rfl rfl ?_)
    refine aops_grp 4 23 (.v (.bool ((decide (((needs.getD k dN).point) < 0)) || (decide (((needs.getD k dN).point) ≥ 8))))) ?_ ?_
    · rcases Bool.eq_false_or_eq_true (decide (((needs.getD k dN).point) < 0)) with hg2 | hg2
      · skip
        have hf3 := of_decide_eq_true hg2
        refine opN rfl rfl rfl rfl (by show yv (.bool (decide (((needs.getD k dN).point) < 0))) ≠ _; rw [hg2]; intro h; cases h) rfl rfl ?_
        refine opN rfl rfl rfl rfl (by show yv (.bool (decide (((needs.getD k dN).point) < 0))) ≠ _; rw [hg2]; intro h; cases h) rfl rfl ?_
        refine opN rfl rfl rfl rfl (by show yv (.bool (decide (((needs.getD k dN).point) < 0))) ≠ _; rw [hg2]; intro h; cases h) rfl rfl ?_
        refine opG rfl (aop_pick (b := (decide (((needs.getD k dN).point) < 0))) rfl rfl rfl rfl (by rw [hg2] <;> rfl) ?_)
        refine op0 ?_
        exact imp_env (lee_both 23 _ _ (by rw [hg2] <;> rfl) (lee_out 22 _ rfl (lee_out 21 _ rfl (lee_out 20 _ rfl (lee_same _)))))
      · skip
        have hf4 := of_decide_eq_false hg2
        refine opY rfl rfl rfl (by show AV.v (.bool (decide (((needs.getD k dN).point) < 0))) = _; rw [hg2]) (aop_fieldAddr (av := .pt 52 0) (av' := .pt 52 0) rfl rfl rfl ft30_0 sz3 rfl rfl rfl ?_)
        refine opY rfl rfl rfl (by show AV.v (.bool (decide (((needs.getD k dN).point) < 0))) = _; rw [hg2]) (aop_ld (av := .v (.int .i64 ((needs.getD k dN).point))) rfl rfl rfl ag3 rfl rfl ?_)
        refine opY rfl rfl rfl (by show AV.v (.bool (decide (((needs.getD k dN).point) < 0))) = _; rw [hg2]) (aop_binI (u := (.bool (decide (((needs.getD k dN).point) ≥ 8)))) rfl rfl rfl rfl rfl trivial rfl ?_)
        refine opG rfl (aop_pick (b := (decide (((needs.getD k dN).point) < 0))) rfl rfl rfl rfl (by rw [hg2] <;> rfl) ?_)
        refine op0 ?_
        exact imp_env (lee_both 23 _ _ (by rw [hg2] <;> rfl) (lee_out 22 _ rfl (lee_out 21 _ rfl (lee_out 20 _ rfl (lee_same _)))))
    refine op0 ?_
    show AWP _ _ _ _ _
    refine awp_imp ⟨(upd (upd (upd (upd (upd (upd (upd none_ 4 (.v (.slice none 0 0))) 5 (.sl 1 0 ((moveL right (needs.take k)).length))) 7 (.pt 52 0)) 10 (.ro needs.length (enc eN needs))) 11 (.v (.int .i64 (needs.length : Int)))) 12 (.v (.int .i64 (k : Int)))) 23 (.v (.bool ((decide (((needs.getD k dN).point) < 0)) || (decide (((needs.getD k dN).point) ≥ 8)))))), (updO (updO (updO noOb 1 (.live ⟨(enc eB (moveL right (needs.take k))), 4, 1⟩)) 52 (.live ⟨[.v (.int .i64 0), .v (.bool false)], 30, 1⟩)) 52 (.live ⟨[.v (.int .i64 ((needs.getD k dN).point)), .v (.bool ((needs.getD k dN).right))], 30, 1⟩))⟩ (imp_le ⟨(lee_upd 23 _ rfl (lee_upd 12 _ rfl (lee_upd 11 _ rfl (lee_upd 10 _ rfl (lee_upd 7 _ rfl (lee_upd 5 _ rfl (lee_upd 4 _ rfl (lee_none _)))))))), fun _ => .inl rfl⟩) ?_
    refine awp_cond ((decide (((needs.getD k dN).point) < 0)) || (decide (((needs.getD k dN).point) ≥ 8))) rfl rfl (fun hc1 => ?_) (fun hc1 => ?_)
    · skip
      refine awp_exit ?_
      show AWP _ _ _ _ _
      refine regR ?_
      refine opG rfl (aop_binI (u := (.int .i64 ((k + 1 : Nat) : Int))) rfl rfl rfl rfl rfl trivial (addN (by omega)) ?_)
      refine opG rfl (aop_move (av := .v (.int .i64 ((k + 1 : Nat) : Int))) (.inl rfl) rfl rfl rfl ?_)
      refine op0 ?_
      show _ ∧ _
      have hs := moveL_off (right := right) (needs := needs) (k := k) (by omega) hc1
      refine ⟨by omega, trivial, ?_⟩
      exact imp_ler [(1, 1)] (ler1 1 1 _ _ rfl (by exact congrArg (fun l_ => LObj.mk (enc eB l_) 4 1) hs.symm) (NoIL.out (l := (enc eB (moveL right (needs.take k))))) (sr_same 12 (.v (.int .i64 ((k + 1) : Int))) rfl NoI.out (sr_same 11 (.v (.int .i64 (needs.length : Int))) rfl NoI.out (sr_same 10 (.ro needs.length (enc eN needs)) rfl NoI.out (sr_map 5 (.sl 1 0 ((moveL right (needs.take (k + 1))).length)) (by first | exact Ok.sl _ _ _ (by simp) | exact Ok.pt _ _ (by simp)) (by exact congrArg (AV.sl 1 0) (congrArg List.length hs)) (sr_same 4 (.v (.slice none 0 0)) rfl NoI.out sr_none)))))) (keep_of rfl)
    · skip
      obtain ⟨hf5a, hf5b⟩ := or_f hc1
      have hf6 := of_decide_eq_false hf5a
      have hf7 := of_decide_eq_false hf5b
      refine awp_skip ?_
      show AWP _ _ _ _ _
      refine awp_seq ?_
      refine awp_block ?_
      refine awp_countI (fun j => ⟨(upd (upd (upd (upd (upd (upd none_ 4 (.v (.slice none 0 0))) 5 (.sl 1 0 ((moveL right (needs.take k) ++ List.replicate j false).length))) 7 (.pt 2 0)) 10 (.ro needs.length (enc eN needs))) 11 (.v (.int .i64 (needs.length : Int)))) 12 (.v (.int .i64 (k : Int)))), (updO (updO noOb 1 (.live ⟨(enc eB (moveL right (needs.take k) ++ List.replicate j false)), 4, 1⟩)) 2 (.live ⟨[.v (.int .i64 ((needs.getD k dN).point)), .v (.bool ((needs.getD k dN).right))], 30, 1⟩))⟩) (fun j => True) (((needs.getD k dN).point.toNat + 1 - (moveL right (needs.take k)).length)) ?_ trivial (fun j hk_j hinv => ?_)
      · skip
        exact imp_ler [(1, 1), (52, 2)] (ler2 1 1 52 2 _ _ _ _ (by decide) (by decide) rfl rfl (by exact congrArg (fun l_ => LObj.mk (enc eB l_) 4 1) (by simp)) rfl (NoIL.out (l := (enc eB (moveL right (needs.take k))))) (NoIL.out (l := [.v (.int .i64 ((needs.getD k dN).point)), .v (.bool ((needs.getD k dN).right))])) (sr_same 12 (.v (.int .i64 (k : Int))) rfl NoI.out (sr_same 11 (.v (.int .i64 (needs.length : Int))) rfl NoI.out (sr_same 10 (.ro needs.length (enc eN needs)) rfl NoI.out (sr_map 7 (.pt 2 0) (by first | exact Ok.sl _ _ _ (by simp) | exact Ok.pt _ _ (by simp)) rfl (sr_map 5 (.sl 1 0 ((moveL right (needs.take k) ++ List.replicate 0 false).length)) (by first | exact Ok.sl _ _ _ (by simp) | exact Ok.pt _ _ (by simp)) (by exact congrArg (AV.sl 1 0) (by simp)) (sr_same 4 (.v (.slice none 0 0)) rfl NoI.out sr_none))))))) (keep_of rfl)
      have hln : (moveL right (needs.take k) ++ List.replicate j false).length = (moveL right (needs.take k)).length + j := by simp
      have htk : (needs.take k).length ≤ needs.length := by simp; omega
      refine awp_seq ?_
      refine seqR ?_
      refine opG rfl (aop_move (av := .sl 1 0 ((moveL right (needs.take k) ++ List.replicate j false).length)) (.inl rfl) rfl rfl rfl ?_)
      refine opG rfl (aop_len rfl rfl rfl rfl ut23 (len_sl rfl) ?_)
      refine opG rfl (aop_fieldAddr (av := .pt 2 0) (av' := .pt 2 0) rfl rfl rfl ft30_0 sz3 rfl rfl rfl ?_)
      refine opG rfl (aop_ld (av := .v (.int .i64 ((needs.getD k dN).point))) rfl rfl rfl ag3 rfl rfl ?_)
      refine opG rfl (aop_binI (u := (.bool (decide (((moveL right (needs.take k) ++ List.replicate j false).length : Int) ≤ ((needs.getD k dN).point))))) rfl rfl rfl rfl rfl trivial rfl ?_)
      refine op0 ?_
      show AWP _ _ _ _ _
      refine awp_imp ⟨(upd (upd (upd (upd (upd (upd (upd none_ 4 (.v (.slice none 0 0))) 5 (.sl 1 0 ((moveL right (needs.take k) ++ List.replicate j false).length))) 7 (.pt 2 0)) 10 (.ro needs.length (enc eN needs))) 11 (.v (.int .i64 (needs.length : Int)))) 12 (.v (.int .i64 (k : Int)))) 28 (.v (.bool (decide (((moveL right (needs.take k) ++ List.replicate j false).length : Int) ≤ ((needs.getD k dN).point)))))), (updO (updO noOb 1 (.live ⟨(enc eB (moveL right (needs.take k) ++ List.replicate j false)), 4, 1⟩)) 2 (.live ⟨[.v (.int .i64 ((needs.getD k dN).point)), .v (.bool ((needs.getD k dN).right))], 30, 1⟩))⟩ (imp_le ⟨(lee_upd 28 _ rfl (lee_upd 12 _ rfl (lee_upd 11 _ rfl (lee_upd 10 _ rfl (lee_upd 7 _ rfl (lee_upd 5 _ rfl (lee_upd 4 _ rfl (lee_none _)))))))), fun _ => .inl rfl⟩) ?_
      refine awp_cond (decide (((moveL right (needs.take k) ++ List.replicate j false).length : Int) ≤ ((needs.getD k dN).point))) rfl rfl (fun hc2 => ?_) (fun hc2 => ?_)
      · skip
        have hf8 := of_decide_eq_true hc2
        refine awp_skip ?_
        show AWP _ _ _ _ _
        refine awp_block ?_
        refine regR ?_
        refine opG rfl (aop_move (av := .sl 1 0 ((moveL right (needs.take k) ++ List.replicate j false).length)) (.inl rfl) rfl rfl rfl ?_)
        refine opG rfl (aop_lit rfl rfl rfl ut23 iz4 (by decide) (by decide) rfl rfl ?_)
        refine opG rfl (aop_app1 (f := eB) (l := moveL right (needs.take k) ++ List.replicate j false) 53 (false : Bool) rfl rfl rfl rfl ut23 in4 rfl (by decide) rfl rfl rfl rfl rfl rfl (fun _ => rfl) rfl rfl (by first | omega | (simp; done) | decide | (simp; omega) | (simp at *; omega)) (by first | omega | (simp; done) | decide | (simp; omega) | (simp at *; omega)) rfl ?_)
        refine opG rfl (aop_move (av := .sl 53 0 (((moveL right (needs.take k) ++ List.replicate j false) ++ [(false : Bool)]).length)) (.inr rfl) rfl rfl rfl ?_)
        refine op0 ?_
        show _ ∧ _
        have hs : moveL right (needs.take k) ++ List.replicate (j + 1) false = moveL right (needs.take k) ++ List.replicate j false ++ [false] := by rw [List.replicate_succ', List.append_assoc]
        refine ⟨by omega, trivial, ?_⟩
        exact imp_ler [(53, 1), (2, 2)] (ler2 53 1 2 2 _ _ _ _ (by decide) (by decide) rfl rfl (by exact congrArg (fun l_ => LObj.mk (enc eB l_) 4 1) hs) rfl (NoIL.out (l := (enc eB ((moveL right (needs.take k) ++ List.replicate j false) ++ [(false : Bool)])))) (NoIL.out (l := [.v (.int .i64 ((needs.getD k dN).point)), .v (.bool ((needs.getD k dN).right))])) (sr_same 12 (.v (.int .i64 (k : Int))) rfl NoI.out (sr_same 11 (.v (.int .i64 (needs.length : Int))) rfl NoI.out (sr_same 10 (.ro needs.length (enc eN needs)) rfl NoI.out (sr_map 7 (.pt 2 0) (by first | exact Ok.sl _ _ _ (by simp) | exact Ok.pt _ _ (by simp)) rfl (sr_map 5 (.sl 1 0 ((moveL right (needs.take k) ++ List.replicate (j + 1) false).length)) (by first | exact Ok.sl _ _ _ (by simp) | exact Ok.pt _ _ (by simp)) (by exact congrArg (AV.sl 1 0) (congrArg List.length hs.symm)) (sr_same 4 (.v (.slice none 0 0)) rfl NoI.out sr_none))))))) (keep_of rfl)
      · skip
        have hf9 := of_decide_eq_false hc2
        refine awp_exit ?_
        show AWP _ _ _ _ _
        refine regR ?_
        refine opG rfl (aop_move (av := .sl 1 0 ((moveL right (needs.take k) ++ List.replicate j false).length)) (.inl rfl) rfl rfl rfl ?_)
        refine opG rfl (aop_fieldAddr (av := .pt 2 0) (av' := .pt 2 0) rfl rfl rfl ft30_0 sz3 rfl rfl rfl ?_)
        refine opG rfl (aop_ld (av := .v (.int .i64 ((needs.getD k dN).point))) rfl rfl rfl ag3 rfl rfl ?_)
        refine opG rfl (aop_fieldAddr (av := .pt 2 0) (av' := .pt 2 1) rfl rfl rfl ft30_1 sz4 rfl rfl rfl ?_)
        refine opG rfl (aop_ld (av := .v (.bool ((needs.getD k dN).right))) rfl rfl rfl ag4 rfl rfl ?_)
        refine opG rfl (aop_ixOI rfl rfl rfl ut23 sz4 rfl rfl (by omega) (by first | omega | (simp; done) | decide | (simp; omega) | (simp at *; omega)) ?_)
        refine opG rfl (aop_storeE (f := eB) (l := moveL right (needs.take k) ++ List.replicate j false) (l' := (moveL right (needs.take k) ++ List.replicate j false).set (((needs.getD k dN).point).toNat) ((needs.getD k dN).right : Bool)) ((needs.getD k dN).right : Bool) rfl rfl rfl sz4 rfl rfl rfl rfl rfl (fun _ => rfl) (by first | omega | (simp; done) | decide | (simp; omega) | (simp at *; omega)) rfl rfl ?_)
        refine op0 ?_
        show AWP _ _ _ _ _
        refine awp_imp ⟨(upd (upd (upd (upd (upd (upd none_ 4 (.v (.slice none 0 0))) 5 (.sl 1 0 ((moveL right (needs.take k) ++ List.replicate j false).length))) 7 (.pt 2 0)) 10 (.ro needs.length (enc eN needs))) 11 (.v (.int .i64 (needs.length : Int)))) 12 (.v (.int .i64 (k : Int)))), (updO (updO (updO noOb 1 (.live ⟨(enc eB (moveL right (needs.take k) ++ List.replicate j false)), 4, 1⟩)) 2 (.live ⟨[.v (.int .i64 ((needs.getD k dN).point)), .v (.bool ((needs.getD k dN).right))], 30, 1⟩)) 1 (.live ⟨(enc eB ((moveL right (needs.take k) ++ List.replicate j false).set (((needs.getD k dN).point).toNat) ((needs.getD k dN).right : Bool))), 4, 1⟩))⟩ (imp_le ⟨(lee_upd 12 _ rfl (lee_upd 11 _ rfl (lee_upd 10 _ rfl (lee_upd 7 _ rfl (lee_upd 5 _ rfl (lee_upd 4 _ rfl (lee_none _))))))), fun _ => .inl rfl⟩) ?_
        refine regR ?_
        refine opG rfl (aop_binI (u := (.int .i64 ((k + 1 : Nat) : Int))) rfl rfl rfl rfl rfl trivial (addN (by omega)) ?_)
        refine opG rfl (aop_move (av := .v (.int .i64 ((k + 1 : Nat) : Int))) (.inl rfl) rfl rfl rfl ?_)
        refine op0 ?_
        show _ ∧ _
        have hs := moveL_on (right := right) (needs := needs) (k := k) (j := j) (by omega) (by omega) (by omega) (by omega)
        refine ⟨by omega, trivial, ?_⟩
        exact imp_ler [(1, 1)] (ler1 1 1 _ _ rfl (by exact congrArg (fun l_ => LObj.mk (enc eB l_) 4 1) hs) (NoIL.out (l := (enc eB ((moveL right (needs.take k) ++ List.replicate j false).set (((needs.getD k dN).point).toNat) ((needs.getD k dN).right : Bool))))) (sr_same 12 (.v (.int .i64 ((k + 1) : Int))) rfl NoI.out (sr_same 11 (.v (.int .i64 (needs.length : Int))) rfl NoI.out (sr_same 10 (.ro needs.length (enc eN needs)) rfl NoI.out (sr_map 5 (.sl 1 0 ((moveL right (needs.take (k + 1))).length)) (by first | exact Ok.sl _ _ _ (by simp) | exact Ok.pt _ _ (by simp)) (by exact congrArg (AV.sl 1 0) (by rw [hs, List.length_set])) (sr_same 4 (.v (.slice none 0 0)) rfl NoI.out sr_none)))))) (keep_of rfl)
  · skip
    have hf10 := of_decide_eq_false hc0
    refine awp_exit ?_
    show AWP _ _ _ _ _
    refine seqR ?_
    refine opG rfl (aop_move (av := .sl 1 0 ((moveL right (needs.take k)).length)) (.inl rfl) rfl rfl rfl ?_)
    refine opG rfl (aop_move (av := .sl 1 0 ((moveL right (needs.take k)).length)) (.inr rfl) rfl rfl rfl ?_)
    refine op0 ?_
    show AWP _ _ _ _ _
    refine awp_ret ?_
    have he : moveL right (needs.take k) = moveL right needs := by rw [List.take_of_length_le (by omega)]
    exact fretO 1 rfl rfl rfl (congrArg List.length he) (congrArg (fun l_ => LObj.mk (enc eB l_) 4 1) he)

set_option maxRecDepth 10000 in
set_option maxHeartbeats 1000000 in
theorem r14_Move (right : List Bool) (needs : List Need) (hr : right.length ≤ 65536) (hl : needs.length ≤ 65536) : FnO Try.prog 12 [.ro right.length (enc eB right), .ro needs.length (enc eN needs)] (.sl 0 0 ((moveL right needs).length)) [⟨(enc eB (moveL right needs)), 4, 1⟩] := by
  refine fnE_of_body (N := 78) Try.func12 rfl rfl (resOf1 rfl) (by simp) (fun w0 X => ?_)
  refine seqR ?_
  refine opG rfl (aop_move (av := .v (.slice none 0 0)) (.inr rfl) rfl rfl rfl ?_)
  refine op0 ?_
  show AWP _ _ _ _ _
  refine seqR ?_
  refine opG rfl (aop_move (av := .ro right.length (enc eB right)) (.inl rfl) rfl rfl rfl ?_)
  refine opG rfl (aop_len rfl rfl rfl rfl ut23 (len_ro rfl) ?_)
  refine opG rfl (aop_move (av := .v (.int .i64 (right.length : Int))) (.inr rfl) rfl rfl rfl ?_)
  refine op0 ?_
  show AWP _ _ _ _ _
  refine awp_imp ⟨(upd (upd (upd (upd none_ 0 (.ro right.length (enc eB right))) 1 (.ro needs.length (enc eN needs))) 4 (.v (.slice none 0 0))) 5 (.v (.int .i64 (right.length : Int)))), noOb⟩ (imp_le ⟨(lee_upd 5 _ rfl (lee_upd 4 _ rfl (lee_upd 1 _ rfl (lee_upd 0 _ rfl (lee_none _))))), fun _ => .inl rfl⟩) ?_
  refine awp_seq ?_
  refine seqR ?_
  refine opG rfl (aop_move (av := .v (.int .i64 0)) (.inr rfl) rfl rfl rfl ?_)
  refine op0 ?_
  show AWP _ _ _ _ _
  refine awp_block ?_
  refine awp_countI (fun k => ⟨(upd (upd (upd (upd (upd none_ 0 (.ro right.length (enc eB right))) 1 (.ro needs.length (enc eN needs))) 4 (.v (.slice none 0 0))) 5 (.v (.int .i64 (refN right.length (needs.take k) : Int)))) 6 (.v (.int .i64 (k : Int)))), noOb⟩) (fun k => True) (needs.length) ?_ trivial (fun k hk_k hinv => ?_)
  · skip
    exact imp_ler [] (ler0 (sr_same 6 (.v (.int .i64 (0 : Int))) rfl NoI.out (sr_same 5 (.v (.int .i64 (refN right.length (needs.take 0) : Int))) rfl NoI.out (sr_same 4 (.v (.slice none 0 0)) rfl NoI.out (sr_same 1 (.ro needs.length (enc eN needs)) rfl NoI.out (sr_same 0 (.ro right.length (enc eB right)) rfl NoI.out sr_none)))))) (keep_of rfl)
  have hN := refN_le right.length (needs.take k)
  refine awp_seq ?_
  refine seqR ?_
  refine opG rfl (aop_move (av := .v (.int .i64 (k : Int))) (.inl rfl) rfl rfl rfl ?_)
  refine opG rfl (aop_move (av := .ro needs.length (enc eN needs)) (.inl rfl) rfl rfl rfl ?_)
  refine opG rfl (aop_len rfl rfl rfl rfl ut26 (len_ro rfl) ?_)
  refine opG rfl (aop_binI (u := (.bool (decide ((k : Int) < (needs.length : Int))))) rfl rfl rfl rfl rfl trivial rfl ?_)
  refine op0 ?_
  show AWP _ _ _ _ _
  refine awp_imp ⟨(upd (upd (upd (upd (upd (upd none_ 0 (.ro right.length (enc eB right))) 1 (.ro needs.length (enc eN needs))) 4 (.v (.slice none 0 0))) 5 (.v (.int .i64 (refN right.length (needs.take k) : Int)))) 6 (.v (.int .i64 (k : Int)))) 15 (.v (.bool (decide ((k : Int) < (needs.length : Int)))))), noOb⟩ (imp_le ⟨(lee_upd 15 _ rfl (lee_upd 6 _ rfl (lee_upd 5 _ rfl (lee_upd 4 _ rfl (lee_upd 1 _ rfl (lee_upd 0 _ rfl (lee_none _))))))), fun _ => .inl rfl⟩) ?_
  refine awp_cond (decide ((k : Int) < (needs.length : Int))) rfl rfl (fun hc0 => ?_) (fun hc0 => ?_)
  · skip
    have hf1 := of_decide_eq_true hc0
    refine awp_skip ?_
    show AWP _ _ _ _ _
    refine awp_seq ?_
    refine awp_block ?_
    refine seqR ?_
    refine opG rfl (aop_move (av := .ro needs.length (enc eN needs)) (.inl rfl) rfl rfl rfl ?_)
    refine opG rfl (aop_move (av := .v (.int .i64 (k : Int))) (.inl rfl) rfl rfl rfl ?_)
    refine opG rfl (aop_ixE dN rfl rfl rfl ut26 sz31 rfl rfl (fun _ => rfl) rfl (by first | omega | (simp; done) | decide | (simp; omega) | (simp at *; omega)) ?_)
    refine opG rfl (aop_fieldAddr (av := .rp (([.v (.int .i64 ((needs.getD k dN).point)), .v (.bool ((needs.getD k dN).right))] : List AV) ++ ((enc eN needs).drop ((k + 1) * 2)))) (av' := .rp (([.v (.int .i64 ((needs.getD k dN).point)), .v (.bool ((needs.getD k dN).right))] : List AV) ++ ((enc eN needs).drop ((k + 1) * 2)))) rfl rfl rfl ft31_0 sz3 rfl rfl rfl ?_)
    refine opG rfl (aop_ld (av := .v (.int .i64 ((needs.getD k dN).point))) rfl rfl rfl ag3 rfl rfl ?_)
    refine opG rfl (aop_move (av := .v (.int .i64 (refN right.length (needs.take k) : Int))) (.inl rfl) rfl rfl rfl ?_)
    refine opG rfl (aop_binI (u := (.bool (decide (((needs.getD k dN).point) ≥ (refN right.length (needs.take k) : Int))))) rfl rfl rfl rfl rfl trivial rfl ?_)
    refine opG rfl (aop_move (av := .v (.bool (decide (((needs.getD k dN).point) ≥ (refN right.length (needs.take k) : Int))))) (.inl rfl) rfl rfl rfl ?_)
    refine aops_grp 7 32 (.v (.bool ((decide (((needs.getD k dN).point) ≥ (refN right.length (needs.take k) : Int))) && (decide (((needs.getD k dN).point) < 8))))) ?_ ?_
    · rcases Bool.eq_false_or_eq_true (decide (((needs.getD k dN).point) ≥ (refN right.length (needs.take k) : Int))) with hg2 | hg2
      · skip
        have hf3 := of_decide_eq_true hg2
        refine opY rfl rfl rfl (by show AV.v (.bool (decide (((needs.getD k dN).point) ≥ (refN right.length (needs.take k) : Int)))) = _; rw [hg2]) (aop_move (av := .ro needs.length (enc eN needs)) (.inl rfl) rfl rfl rfl ?_)
        refine opY rfl rfl rfl (by show AV.v (.bool (decide (((needs.getD k dN).point) ≥ (refN right.length (needs.take k) : Int)))) = _; rw [hg2]) (aop_move (av := .v (.int .i64 (k : Int))) (.inl rfl) rfl rfl rfl ?_)
        refine opY rfl rfl rfl (by show AV.v (.bool (decide (((needs.getD k dN).point) ≥ (refN right.length (needs.take k) : Int)))) = _; rw [hg2]) (aop_ixE dN rfl rfl rfl ut26 sz31 rfl rfl (fun _ => rfl) rfl (by first | omega | (simp; done) | decide | (simp; omega) | (simp at *; omega)) ?_)
        refine opY rfl rfl rfl (by show AV.v (.bool (decide (((needs.getD k dN).point) ≥ (refN right.length (needs.take k) : Int)))) = _; rw [hg2]) (aop_fieldAddr (av := .rp (([.v (.int .i64 ((needs.getD k dN).point)), .v (.bool ((needs.getD k dN).right))] : List AV) ++ ((enc eN needs).drop ((k + 1) * 2)))) (av' := .rp (([.v (.int .i64 ((needs.getD k dN).point)), .v (.bool ((needs.getD k dN).right))] : List AV) ++ ((enc eN needs).drop ((k + 1) * 2)))) rfl rfl rfl ft31_0 sz3 rfl rfl rfl ?_)
        refine opY rfl rfl rfl (by show AV.v (.bool (decide (((needs.getD k dN).point) ≥ (refN right.length (needs.take k) : Int)))) = _; rw [hg2]) (aop_ld (av := .v (.int .i64 ((needs.getD k dN).point))) rfl rfl rfl ag3 rfl rfl ?_)
        refine opY rfl rfl rfl (by show AV.v (.bool (decide (((needs.getD k dN).point) ≥ (refN right.length (needs.take k) : Int)))) = _; rw [hg2]) (aop_binI (u := (.bool (decide (((needs.getD k dN).point) < 8)))) rfl rfl rfl rfl rfl trivial rfl ?_)
        refine opG rfl (aop_pick (b := (decide (((needs.getD k dN).point) ≥ (refN right.length (needs.take k) : Int)))) rfl rfl rfl rfl (by rw [hg2] <;> rfl) ?_)
        refine op0 ?_
        exact imp_env (lee_both 32 _ _ (by rw [hg2] <;> rfl) (lee_out 31 _ rfl (lee_out 30 _ rfl (lee_out 29 _ rfl (lee_out 28 _ rfl (lee_out 27 _ rfl (lee_out 26 _ rfl (lee_same _))))))))
      · skip
        have hf4 := of_decide_eq_false hg2
        refine opN rfl rfl rfl rfl (by show yv (.bool (decide (((needs.getD k dN).point) ≥ (refN right.length (needs.take k) : Int)))) ≠ _; rw [hg2]; intro h; cases h) rfl rfl ?_
        refine opN rfl rfl rfl rfl (by show yv (.bool (decide (((needs.getD k dN).point) ≥ (refN right.length (needs.take k) : Int)))) ≠ _; rw [hg2]; intro h; cases h) rfl rfl ?_
        refine opN rfl rfl rfl rfl (by show yv (.bool (decide (((needs.getD k dN).point) ≥ (refN right.length (needs.take k) : Int)))) ≠ _; rw [hg2]; intro h; cases h) rfl rfl ?_
        refine opN rfl rfl rfl rfl (by show yv (.bool (decide (((needs.getD k dN).point) ≥ (refN right.length (needs.take k) : Int)))) ≠ _; rw [hg2]; intro h; cases h) rfl rfl ?_
        refine opN rfl rfl rfl rfl (by show yv (.bool (decide (((needs.getD k dN).point) ≥ (refN right.length (needs.take k) : Int)))) ≠ _; rw [hg2]; intro h; cases h) rfl rfl ?_
        refine opN rfl rfl rfl rfl (by show yv (.bool (decide (((needs.getD k dN).point) ≥ (refN right.length (needs.take k) : Int)))) ≠ _; rw [hg2]; intro h; cases h) rfl rfl ?_
        refine opG rfl (aop_pick (b := (decide (((needs.getD k dN).point) ≥ (refN right.length (needs.take k) : Int)))) rfl rfl rfl rfl (by rw [hg2] <;> rfl) ?_)
        refine op0 ?_
        exact imp_env (lee_both 32 _ _ (by rw [hg2] <;> rfl) (lee_out 31 _ rfl (lee_out 30 _ rfl (lee_out 29 _ rfl (lee_out 28 _ rfl (lee_out 27 _ rfl (lee_out 26 _ rfl (lee_same _))))))))
    refine op0 ?_
    show AWP _ _ _ _ _
    refine awp_imp ⟨(upd (upd (upd (upd (upd (upd none_ 0 (.ro right.length (enc eB right))) 1 (.ro needs.length (enc eN needs))) 4 (.v (.slice none 0 0))) 5 (.v (.int .i64 (refN right.length (needs.take k) : Int)))) 6 (.v (.int .i64 (k : Int)))) 32 (.v (.bool ((decide (((needs.getD k dN).point) ≥ (refN right.length (needs.take k) : Int))) && (decide (((needs.getD k dN).point) < 8)))))), noOb⟩ (imp_le ⟨(lee_upd 32 _ rfl (lee_upd 6 _ rfl (lee_upd 5 _ rfl (lee_upd 4 _ rfl (lee_upd 1 _ rfl (lee_upd 0 _ rfl (lee_none _))))))), fun _ => .inl rfl⟩) ?_
    refine awp_cond ((decide (((needs.getD k dN).point) ≥ (refN right.length (needs.take k) : Int))) && (decide (((needs.getD k dN).point) < 8))) rfl rfl (fun hc1 => ?_) (fun hc1 => ?_)
    · skip
      obtain ⟨hf5a, hf5b⟩ := and_t hc1
      have hf6 := of_decide_eq_true hf5a
      have hf7 := of_decide_eq_true hf5b
      refine regR ?_
      refine opG rfl (aop_move (av := .ro needs.length (enc eN needs)) (.inl rfl) rfl rfl rfl ?_)
      refine opG rfl (aop_move (av := .v (.int .i64 (k : Int))) (.inl rfl) rfl rfl rfl ?_)
      refine opG rfl (aop_ixE dN rfl rfl rfl ut26 sz31 rfl rfl (fun _ => rfl) rfl (by first | omega | (simp; done) | decide | (simp; omega) | (simp at *; omega)) ?_)
      refine opG rfl (aop_fieldAddr (av := .rp (([.v (.int .i64 ((needs.getD k dN).point)), .v (.bool ((needs.getD k dN).right))] : List AV) ++ ((enc eN needs).drop ((k + 1) * 2)))) (av' := .rp (([.v (.int .i64 ((needs.getD k dN).point)), .v (.bool ((needs.getD k dN).right))] : List AV) ++ ((enc eN needs).drop ((k + 1) * 2)))) rfl rfl rfl ft31_0 sz3 rfl rfl rfl ?_)
      refine opG rfl (aop_ld (av := .v (.int .i64 ((needs.getD k dN).point))) rfl rfl rfl ag3 rfl rfl ?_)
      refine opG rfl (aop_binI (u := (.int .i64 (((needs.getD k dN).point) + 1))) rfl rfl rfl rfl rfl trivial (addI (by omega)) ?_)
      refine opG rfl (aop_move (av := .v (.int .i64 (((needs.getD k dN).point) + 1))) (.inr rfl) rfl rfl rfl ?_)
      refine op0 ?_
      show AWP _ _ _ _ _
      refine awp_imp ⟨(upd (upd (upd (upd (upd none_ 0 (.ro right.length (enc eB right))) 1 (.ro needs.length (enc eN needs))) 4 (.v (.slice none 0 0))) 5 (.v (.int .i64 (((needs.getD k dN).point) + 1)))) 6 (.v (.int .i64 (k : Int)))), noOb⟩ (imp_le ⟨(lee_upd 6 _ rfl (lee_upd 5 _ rfl (lee_upd 4 _ rfl (lee_upd 1 _ rfl (lee_upd 0 _ rfl (lee_none _)))))), fun _ => .inl rfl⟩) ?_
      refine regR ?_
      refine opG rfl (aop_move (av := .v (.int .i64 (k : Int))) (.inl rfl) rfl rfl rfl ?_)
      refine opG rfl (aop_binI (u := (.int .i64 ((k + 1 : Nat) : Int))) rfl rfl rfl rfl rfl trivial (addN (by omega)) ?_)
      refine opG rfl (aop_move (av := .v (.int .i64 ((k + 1 : Nat) : Int))) (.inr rfl) rfl rfl rfl ?_)
      refine op0 ?_
      show _ ∧ _
      have hs := refN_on (n := right.length) (needs := needs) (k := k) (by omega) hc1
      refine ⟨by omega, trivial, ?_⟩
      exact imp_ler [] (ler0 (sr_same 6 (.v (.int .i64 ((k + 1) : Int))) rfl NoI.out (sr_same 5 (.v (.int .i64 (refN right.length (needs.take (k + 1)) : Int))) (by exact congrArg (fun n_ : Int => AV.v (.int .i64 n_)) hs) NoI.out (sr_same 4 (.v (.slice none 0 0)) rfl NoI.out (sr_same 1 (.ro needs.length (enc eN needs)) rfl NoI.out (sr_same 0 (.ro right.length (enc eB right)) rfl NoI.out sr_none)))))) (keep_of rfl)
    · skip
      refine awp_skip ?_
      show AWP _ _ _ _ _
      refine regR ?_
      refine opG rfl (aop_move (av := .v (.int .i64 (k : Int))) (.inl rfl) rfl rfl rfl ?_)
      refine opG rfl (aop_binI (u := (.int .i64 ((k + 1 : Nat) : Int))) rfl rfl rfl rfl rfl trivial (addN (by omega)) ?_)
      refine opG rfl (aop_move (av := .v (.int .i64 ((k + 1 : Nat) : Int))) (.inr rfl) rfl rfl rfl ?_)
      refine op0 ?_
      show _ ∧ _
      have hs := refN_off (n := right.length) (needs := needs) (k := k) (by omega) hc1
      refine ⟨by omega, trivial, ?_⟩
      exact imp_ler [] (ler0 (sr_same 6 (.v (.int .i64 ((k + 1) : Int))) rfl NoI.out (sr_same 5 (.v (.int .i64 (refN right.length (needs.take (k + 1)) : Int))) (by exact congrArg (fun n_ : Int => AV.v (.int .i64 n_)) hs) NoI.out (sr_same 4 (.v (.slice none 0 0)) rfl NoI.out (sr_same 1 (.ro needs.length (enc eN needs)) rfl NoI.out (sr_same 0 (.ro right.length (enc eB right)) rfl NoI.out sr_none)))))) (keep_of rfl)
  · skip
    have hf8 := of_decide_eq_false hc0
    refine awp_exit ?_
    show AWP _ _ _ _ _
    refine seqR ?_
    refine opG rfl (aop_move (av := .v (.int .i64 (refN right.length (needs.take k) : Int))) (.inl rfl) rfl rfl rfl ?_)
    refine opG rfl (aop_makeE (n := refN right.length (needs.take k)) (f := eB) 51 (false : Bool) rfl rfl rfl ut23 in4 rfl rfl rfl rfl (by omega) (by omega) rfl rfl ?_)
    refine opG rfl (aop_move (av := .sl 51 0 ((List.replicate (refN right.length (needs.take k)) (false : Bool)).length)) (.inr rfl) rfl rfl rfl ?_)
    refine op0 ?_
    show AWP _ _ _ _ _
    refine awp_seq ?_
    refine seqR ?_
    refine opG rfl (aop_move (av := .v (.int .i64 0)) (.inr rfl) rfl rfl rfl ?_)
    refine op0 ?_
    show AWP _ _ _ _ _
    refine awp_imp ⟨(upd (upd (upd (upd (upd (upd none_ 0 (.ro right.length (enc eB right))) 1 (.ro needs.length (enc eN needs))) 4 (.v (.slice none 0 0))) 5 (.v (.int .i64 (refN right.length (needs.take k) : Int)))) 7 (.sl 51 0 ((List.replicate (refN right.length (needs.take k)) (false : Bool)).length))) 8 (.v (.int .i64 0))), (updO noOb 51 (.live ⟨(enc eB (List.replicate (refN right.length (needs.take k)) (false : Bool))), 4, 1⟩))⟩ (imp_le ⟨(lee_upd 8 _ rfl (lee_upd 7 _ rfl (lee_upd 5 _ rfl (lee_upd 4 _ rfl (lee_upd 1 _ rfl (lee_upd 0 _ rfl (lee_none _))))))), fun _ => .inl rfl⟩) ?_
    refine awp_block ?_
    refine awp_countI (fun i => ⟨(upd (upd (upd (upd (upd (upd none_ 0 (.ro right.length (enc eB right))) 1 (.ro needs.length (enc eN needs))) 4 (.v (.slice none 0 0))) 5 (.v (.int .i64 (refN right.length (needs.take k) : Int)))) 7 (.sl 1 0 ((refRow right needs (refN right.length (needs.take k)) i).length))) 8 (.v (.int .i64 (i : Int)))), (updO noOb 1 (.live ⟨(enc eB (refRow right needs (refN right.length (needs.take k)) i)), 4, 1⟩))⟩) (fun i => True) (refN right.length (needs.take k)) ?_ trivial (fun i hk_i hinv => ?_)
    · skip
      have hz := refRow_zero right needs (refN right.length (needs.take k))
      exact imp_ler [(51, 1)] (ler1 51 1 _ _ rfl (by exact congrArg (fun l_ => LObj.mk (enc eB l_) 4 1) hz) (NoIL.out (l := (enc eB (List.replicate (refN right.length (needs.take k)) (false : Bool))))) (sr_same 8 (.v (.int .i64 (0 : Int))) rfl NoI.out (sr_map 7 (.sl 1 0 ((refRow right needs (refN right.length (needs.take k)) 0).length)) (by first | exact Ok.sl _ _ _ (by simp) | exact Ok.pt _ _ (by simp)) (by exact congrArg (AV.sl 1 0) (congrArg List.length hz.symm)) (sr_same 5 (.v (.int .i64 (refN right.length (needs.take k) : Int))) rfl NoI.out (sr_same 4 (.v (.slice none 0 0)) rfl NoI.out (sr_same 1 (.ro needs.length (enc eN needs)) rfl NoI.out (sr_same 0 (.ro right.length (enc eB right)) rfl NoI.out sr_none))))))) (keep_of rfl)
    have hrl := refRow_length right needs (refN right.length (needs.take k)) i
    refine awp_seq ?_
    refine seqR ?_
    refine opG rfl (aop_move (av := .v (.int .i64 (i : Int))) (.inl rfl) rfl rfl rfl ?_)
    refine opG rfl (aop_move (av := .v (.int .i64 (refN right.length (needs.take k) : Int))) (.inl rfl) rfl rfl rfl ?_)
    refine opG rfl (aop_binI (u := (.bool (decide ((i : Int) < (refN right.length (needs.take k) : Int))))) rfl rfl rfl rfl rfl trivial rfl ?_)
    refine op0 ?_
    show AWP _ _ _ _ _
    refine awp_cond (decide ((i : Int) < (refN right.length (needs.take k) : Int))) rfl rfl (fun hc2 => ?_) (fun hc2 => ?_)
    · skip
      have hf9 := of_decide_eq_true hc2
      refine awp_skip ?_
      show AWP _ _ _ _ _
      refine awp_seq ?_
      refine awp_block ?_
      refine seqR ?_
      refine opG rfl (aop_move (av := .sl 1 0 ((refRow right needs (refN right.length (needs.take k)) i).length)) (.inl rfl) rfl rfl rfl ?_)
      refine opG rfl (aop_move (av := .v (.int .i64 (i : Int))) (.inl rfl) rfl rfl rfl ?_)
      refine opG rfl (aop_move (av := .ro right.length (enc eB right)) (.inl rfl) rfl rfl rfl ?_)
      refine opG rfl (aop_move (av := .v (.int .i64 (i : Int))) (.inl rfl) rfl rfl rfl ?_)
      refine opG rfl (call_ (r14_stands right (i : Int) (by first | omega | (simp; done) | decide | (simp; omega) | (simp at *; omega))) rfl rfl rfl rfl rfl bd22 rfl ?_)
      refine opG rfl (aop_ixO (k := i) rfl rfl rfl ut23 sz4 rfl rfl (by first | omega | (simp; done) | decide | (simp; omega) | (simp at *; omega)) ?_)
      refine opG rfl (aop_storeE (f := eB) (l := refRow right needs (refN right.length (needs.take k)) i) (l' := (refRow right needs (refN right.length (needs.take k)) i).set i (hasB right (i : Int) : Bool)) (hasB right (i : Int) : Bool) rfl rfl rfl sz4 rfl rfl rfl rfl rfl (fun _ => rfl) (by first | omega | (simp; done) | decide | (simp; omega) | (simp at *; omega)) rfl rfl ?_)
      refine op0 ?_
      show AWP _ _ _ _ _
      refine awp_imp ⟨(upd (upd (upd (upd (upd (upd none_ 0 (.ro right.length (enc eB right))) 1 (.ro needs.length (enc eN needs))) 4 (.v (.slice none 0 0))) 5 (.v (.int .i64 (refN right.length (needs.take k) : Int)))) 7 (.sl 1 0 ((refRow right needs (refN right.length (needs.take k)) i).length))) 8 (.v (.int .i64 (i : Int)))), (updO (updO noOb 1 (.live ⟨(enc eB (refRow right needs (refN right.length (needs.take k)) i)), 4, 1⟩)) 1 (.live ⟨(enc eB ((refRow right needs (refN right.length (needs.take k)) i).set i (hasB right (i : Int) : Bool))), 4, 1⟩))⟩ (imp_le ⟨(lee_upd 8 _ rfl (lee_upd 7 _ rfl (lee_upd 5 _ rfl (lee_upd 4 _ rfl (lee_upd 1 _ rfl (lee_upd 0 _ rfl (lee_none _))))))), fun _ => .inl rfl⟩) ?_
      refine seqR ?_
      refine opG rfl (aop_move (av := .v (.int .i64 0)) (.inr rfl) rfl rfl rfl ?_)
      refine op0 ?_
      show AWP _ _ _ _ _
      refine awp_block ?_
      refine awp_countI (fun j => ⟨(upd (upd (upd (upd (upd (upd (upd none_ 0 (.ro right.length (enc eB right))) 1 (.ro needs.length (enc eN needs))) 4 (.v (.slice none 0 0))) 5 (.v (.int .i64 (refN right.length (needs.take k) : Int)))) 7 (.sl 1 0 ((refRow right needs (refN right.length (needs.take k)) i).length))) 8 (.v (.int .i64 (i : Int)))) 9 (.v (.int .i64 (j : Int)))), (updO noOb 1 (.live ⟨(enc eB ((refRow right needs (refN right.length (needs.take k)) i).set i (refAt right (needs.take j) i))), 4, 1⟩))⟩) (fun j => True) (needs.length) ?_ trivial (fun j hk_j hinv => ?_)
      · skip
        exact imp_ler [(1, 1)] (ler1 1 1 _ _ rfl (by exact congrArg (fun l_ => LObj.mk (enc eB l_) 4 1) rfl) (NoIL.out (l := (enc eB ((refRow right needs (refN right.length (needs.take k)) i).set i (hasB right (i : Int) : Bool))))) (sr_same 9 (.v (.int .i64 (0 : Int))) rfl NoI.out (sr_same 8 (.v (.int .i64 (i : Int))) rfl NoI.out (sr_map 7 (.sl 1 0 ((refRow right needs (refN right.length (needs.take k)) i).length)) (by first | exact Ok.sl _ _ _ (by simp) | exact Ok.pt _ _ (by simp)) rfl (sr_same 5 (.v (.int .i64 (refN right.length (needs.take k) : Int))) rfl NoI.out (sr_same 4 (.v (.slice none 0 0)) rfl NoI.out (sr_same 1 (.ro needs.length (enc eN needs)) rfl NoI.out (sr_same 0 (.ro right.length (enc eB right)) rfl NoI.out sr_none)))))))) (keep_of rfl)
      refine awp_seq ?_
      refine seqR ?_
      refine opG rfl (aop_move (av := .v (.int .i64 (j : Int))) (.inl rfl) rfl rfl rfl ?_)
      refine opG rfl (aop_move (av := .ro needs.length (enc eN needs)) (.inl rfl) rfl rfl rfl ?_)
      refine opG rfl (aop_len rfl rfl rfl rfl ut26 (len_ro rfl) ?_)
      refine opG rfl (aop_binI (u := (.bool (decide ((j : Int) < (needs.length : Int))))) rfl rfl rfl rfl rfl trivial rfl ?_)
      refine op0 ?_
      show AWP _ _ _ _ _
      refine awp_imp ⟨(upd (upd (upd (upd (upd (upd (upd (upd none_ 0 (.ro right.length (enc eB right))) 1 (.ro needs.length (enc eN needs))) 4 (.v (.slice none 0 0))) 5 (.v (.int .i64 (refN right.length (needs.take k) : Int)))) 7 (.sl 1 0 ((refRow right needs (refN right.length (needs.take k)) i).length))) 8 (.v (.int .i64 (i : Int)))) 9 (.v (.int .i64 (j : Int)))) 55 (.v (.bool (decide ((j : Int) < (needs.length : Int)))))), (updO noOb 1 (.live ⟨(enc eB ((refRow right needs (refN right.length (needs.take k)) i).set i (refAt right (needs.take j) i))), 4, 1⟩))⟩ (imp_le ⟨(lee_upd 55 _ rfl (lee_upd 9 _ rfl (lee_upd 8 _ rfl (lee_upd 7 _ rfl (lee_upd 5 _ rfl (lee_upd 4 _ rfl (lee_upd 1 _ rfl (lee_upd 0 _ rfl (lee_none _))))))))), fun _ => .inl rfl⟩) ?_
      refine awp_cond (decide ((j : Int) < (needs.length : Int))) rfl rfl (fun hc3 => ?_) (fun hc3 => ?_)
      · skip
        have hf10 := of_decide_eq_true hc3
        refine awp_skip ?_
        show AWP _ _ _ _ _
        refine awp_seq ?_
        refine awp_block ?_
        refine seqR ?_
        refine opG rfl (aop_move (av := .ro needs.length (enc eN needs)) (.inl rfl) rfl rfl rfl ?_)
        refine opG rfl (aop_move (av := .v (.int .i64 (j : Int))) (.inl rfl) rfl rfl rfl ?_)
        refine opG rfl (aop_ixE dN rfl rfl rfl ut26 sz31 rfl rfl (fun _ => rfl) rfl (by first | omega | (simp; done) | decide | (simp; omega) | (simp at *; omega)) ?_)
        refine opG rfl (aop_fieldAddr (av := .rp (([.v (.int .i64 ((needs.getD j dN).point)), .v (.bool ((needs.getD j dN).right))] : List AV) ++ ((enc eN needs).drop ((j + 1) * 2)))) (av' := .rp (([.v (.int .i64 ((needs.getD j dN).point)), .v (.bool ((needs.getD j dN).right))] : List AV) ++ ((enc eN needs).drop ((j + 1) * 2)))) rfl rfl rfl ft31_0 sz3 rfl rfl rfl ?_)
        refine opG rfl (aop_ld (av := .v (.int .i64 ((needs.getD j dN).point))) rfl rfl rfl ag3 rfl rfl ?_)
        refine opG rfl (aop_move (av := .v (.int .i64 (i : Int))) (.inl rfl) rfl rfl rfl ?_)
        refine opG rfl (aop_binI (u := (.bool (((needs.getD j dN).point) == (i : Int)))) rfl rfl rfl rfl rfl trivial rfl ?_)
        refine opG rfl (aop_move (av := .v (.bool (((needs.getD j dN).point) == (i : Int)))) (.inl rfl) rfl rfl rfl ?_)
        refine aops_grp 3 68 (.v (.bool ((((needs.getD j dN).point) == (i : Int)) && (decide ((i : Int) < 8))))) ?_ ?_
        · rcases Bool.eq_false_or_eq_true (((needs.getD j dN).point) == (i : Int)) with hg11 | hg11
          · skip
            have hf12 := (beq_iff_eq).1 hg11
            refine opY rfl rfl rfl (by show AV.v (.bool (((needs.getD j dN).point) == (i : Int))) = _; rw [hg11]) (aop_move (av := .v (.int .i64 (i : Int))) (.inl rfl) rfl rfl rfl ?_)
            refine opY rfl rfl rfl (by show AV.v (.bool (((needs.getD j dN).point) == (i : Int))) = _; rw [hg11]) (aop_binI (u := (.bool (decide ((i : Int) < 8)))) rfl rfl rfl rfl rfl trivial rfl ?_)
            refine opG rfl (aop_pick (b := (((needs.getD j dN).point) == (i : Int))) rfl rfl rfl rfl (by rw [hg11] <;> rfl) ?_)
            refine op0 ?_
            exact imp_env (lee_both 68 _ _ (by rw [hg11] <;> rfl) (lee_out 67 _ rfl (lee_out 66 _ rfl (lee_same _))))
          · skip
            have hf13 := (beq_eq_false_iff_ne).1 hg11
            refine opN rfl rfl rfl rfl (by show yv (.bool (((needs.getD j dN).point) == (i : Int))) ≠ _; rw [hg11]; intro h; cases h) rfl rfl ?_
            refine opN rfl rfl rfl rfl (by show yv (.bool (((needs.getD j dN).point) == (i : Int))) ≠ _; rw [hg11]; intro h; cases h) rfl rfl ?_
            refine opG rfl (aop_pick (b := (((needs.getD j dN).point) == (i : Int))) rfl rfl rfl rfl (by rw [hg11] <;> rfl) ?_)
            refine op0 ?_
            exact imp_env (lee_both 68 _ _ (by rw [hg11] <;> rfl) (lee_out 67 _ rfl (lee_out 66 _ rfl (lee_same _))))
        refine op0 ?_
        show AWP _ _ _ _ _
        refine awp_imp ⟨(upd (upd (upd (upd (upd (upd (upd (upd none_ 0 (.ro right.length (enc eB right))) 1 (.ro needs.length (enc eN needs))) 4 (.v (.slice none 0 0))) 5 (.v (.int .i64 (refN right.length (needs.take k) : Int)))) 7 (.sl 1 0 ((refRow right needs (refN right.length (needs.take k)) i).length))) 8 (.v (.int .i64 (i : Int)))) 9 (.v (.int .i64 (j : Int)))) 68 (.v (.bool ((((needs.getD j dN).point) == (i : Int)) && (decide ((i : Int) < 8)))))), (updO noOb 1 (.live ⟨(enc eB ((refRow right needs (refN right.length (needs.take k)) i).set i (refAt right (needs.take j) i))), 4, 1⟩))⟩ (imp_le ⟨(lee_upd 68 _ rfl (lee_upd 9 _ rfl (lee_upd 8 _ rfl (lee_upd 7 _ rfl (lee_upd 5 _ rfl (lee_upd 4 _ rfl (lee_upd 1 _ rfl (lee_upd 0 _ rfl (lee_none _))))))))), fun _ => .inl rfl⟩) ?_
        refine awp_cond ((((needs.getD j dN).point) == (i : Int)) && (decide ((i : Int) < 8))) rfl rfl (fun hc4 => ?_) (fun hc4 => ?_)
        · skip
          obtain ⟨hf14a, hf14b⟩ := and_t hc4
          have hf15 := (beq_iff_eq).1 hf14a
          have hf16 := of_decide_eq_true hf14b
          refine regR ?_
          refine opG rfl (aop_move (av := .sl 1 0 ((refRow right needs (refN right.length (needs.take k)) i).length)) (.inl rfl) rfl rfl rfl ?_)
          refine opG rfl (aop_move (av := .v (.int .i64 (i : Int))) (.inl rfl) rfl rfl rfl ?_)
          refine opG rfl (aop_move (av := .ro needs.length (enc eN needs)) (.inl rfl) rfl rfl rfl ?_)
          refine opG rfl (aop_move (av := .v (.int .i64 (j : Int))) (.inl rfl) rfl rfl rfl ?_)
          refine opG rfl (aop_ixE dN rfl rfl rfl ut26 sz31 rfl rfl (fun _ => rfl) rfl (by first | omega | (simp; done) | decide | (simp; omega) | (simp at *; omega)) ?_)
          refine opG rfl (aop_fieldAddr (av := .rp (([.v (.int .i64 ((needs.getD j dN).point)), .v (.bool ((needs.getD j dN).right))] : List AV) ++ ((enc eN needs).drop ((j + 1) * 2)))) (av' := .rp (([.v (.bool ((needs.getD j dN).right))] : List AV) ++ ((enc eN needs).drop ((j + 1) * 2)))) rfl rfl rfl ft31_1 sz4 rfl rfl rfl ?_)
          refine opG rfl (aop_ld (av := .v (.bool ((needs.getD j dN).right))) rfl rfl rfl ag4 rfl rfl ?_)
          refine opG rfl (aop_ixO (k := i) rfl rfl rfl ut23 sz4 rfl rfl (by first | omega | (simp; done) | decide | (simp; omega) | (simp at *; omega)) ?_)
          refine opG rfl (aop_storeE (f := eB) (l := (refRow right needs (refN right.length (needs.take k)) i).set i (refAt right (needs.take j) i)) (l' := ((refRow right needs (refN right.length (needs.take k)) i).set i (refAt right (needs.take j) i)).set i ((needs.getD j dN).right : Bool)) ((needs.getD j dN).right : Bool) rfl rfl rfl sz4 rfl rfl rfl rfl rfl (fun _ => rfl) (by first | omega | (simp; done) | decide | (simp; omega) | (simp at *; omega)) rfl rfl ?_)
          refine op0 ?_
          show AWP _ _ _ _ _
          refine awp_imp ⟨(upd (upd (upd (upd (upd (upd (upd none_ 0 (.ro right.length (enc eB right))) 1 (.ro needs.length (enc eN needs))) 4 (.v (.slice none 0 0))) 5 (.v (.int .i64 (refN right.length (needs.take k) : Int)))) 7 (.sl 1 0 ((refRow right needs (refN right.length (needs.take k)) i).length))) 8 (.v (.int .i64 (i : Int)))) 9 (.v (.int .i64 (j : Int)))), (updO (updO noOb 1 (.live ⟨(enc eB ((refRow right needs (refN right.length (needs.take k)) i).set i (refAt right (needs.take j) i))), 4, 1⟩)) 1 (.live ⟨(enc eB (((refRow right needs (refN right.length (needs.take k)) i).set i (refAt right (needs.take j) i)).set i ((needs.getD j dN).right : Bool))), 4, 1⟩))⟩ (imp_le ⟨(lee_upd 9 _ rfl (lee_upd 8 _ rfl (lee_upd 7 _ rfl (lee_upd 5 _ rfl (lee_upd 4 _ rfl (lee_upd 1 _ rfl (lee_upd 0 _ rfl (lee_none _)))))))), fun _ => .inl rfl⟩) ?_
          refine regR ?_
          refine opG rfl (aop_move (av := .v (.int .i64 (j : Int))) (.inl rfl) rfl rfl rfl ?_)
          refine opG rfl (aop_binI (u := (.int .i64 ((j + 1 : Nat) : Int))) rfl rfl rfl rfl rfl trivial (addN (by omega)) ?_)
          refine opG rfl (aop_move (av := .v (.int .i64 ((j + 1 : Nat) : Int))) (.inr rfl) rfl rfl rfl ?_)
          refine op0 ?_
          show _ ∧ _
          have hs := refAt_on (right := right) (needs := needs) (i := i) (k := j) (by omega) hc4
          refine ⟨by omega, trivial, ?_⟩
          exact imp_ler [(1, 1)] (ler1 1 1 _ _ rfl (by exact congrArg (fun l_ => LObj.mk (enc eB l_) 4 1) (by rw [List.set_set, hs])) (NoIL.out (l := (enc eB (((refRow right needs (refN right.length (needs.take k)) i).set i (refAt right (needs.take j) i)).set i ((needs.getD j dN).right : Bool))))) (sr_same 9 (.v (.int .i64 ((j + 1) : Int))) rfl NoI.out (sr_same 8 (.v (.int .i64 (i : Int))) rfl NoI.out (sr_map 7 (.sl 1 0 ((refRow right needs (refN right.length (needs.take k)) i).length)) (by first | exact Ok.sl _ _ _ (by simp) | exact Ok.pt _ _ (by simp)) rfl (sr_same 5 (.v (.int .i64 (refN right.length (needs.take k) : Int))) rfl NoI.out (sr_same 4 (.v (.slice none 0 0)) rfl NoI.out (sr_same 1 (.ro needs.length (enc eN needs)) rfl NoI.out (sr_same 0 (.ro right.length (enc eB right)) rfl NoI.out sr_none)))))))) (keep_of rfl)
        · skip
          refine awp_skip ?_
          show AWP _ _ _ _ _
          refine regR ?_
          refine opG rfl (aop_move (av := .v (.int .i64 (j : Int))) (.inl rfl) rfl rfl rfl ?_)
          refine opG rfl (aop_binI (u := (.int .i64 ((j + 1 : Nat) : Int))) rfl rfl rfl rfl rfl trivial (addN (by omega)) ?_)
          refine opG rfl (aop_move (av := .v (.int .i64 ((j + 1 : Nat) : Int))) (.inr rfl) rfl rfl rfl ?_)
          refine op0 ?_
          show _ ∧ _
          have hs := refAt_off (right := right) (needs := needs) (i := i) (k := j) (by omega) hc4
          refine ⟨by omega, trivial, ?_⟩
          exact imp_ler [(1, 1)] (ler1 1 1 _ _ rfl (by exact congrArg (fun l_ => LObj.mk (enc eB l_) 4 1) (by rw [hs])) (NoIL.out (l := (enc eB ((refRow right needs (refN right.length (needs.take k)) i).set i (refAt right (needs.take j) i))))) (sr_same 9 (.v (.int .i64 ((j + 1) : Int))) rfl NoI.out (sr_same 8 (.v (.int .i64 (i : Int))) rfl NoI.out (sr_map 7 (.sl 1 0 ((refRow right needs (refN right.length (needs.take k)) i).length)) (by first | exact Ok.sl _ _ _ (by simp) | exact Ok.pt _ _ (by simp)) rfl (sr_same 5 (.v (.int .i64 (refN right.length (needs.take k) : Int))) rfl NoI.out (sr_same 4 (.v (.slice none 0 0)) rfl NoI.out (sr_same 1 (.ro needs.length (enc eN needs)) rfl NoI.out (sr_same 0 (.ro right.length (enc eB right)) rfl NoI.out sr_none)))))))) (keep_of rfl)
      · skip
        have hf17 := of_decide_eq_false hc3
        refine awp_exit ?_
        show AWP _ _ _ _ _
        refine regR ?_
        refine opG rfl (aop_move (av := .v (.int .i64 (i : Int))) (.inl rfl) rfl rfl rfl ?_)
        refine opG rfl (aop_binI (u := (.int .i64 ((i + 1 : Nat) : Int))) rfl rfl rfl rfl rfl trivial (addN (by omega)) ?_)
        refine opG rfl (aop_move (av := .v (.int .i64 ((i + 1 : Nat) : Int))) (.inr rfl) rfl rfl rfl ?_)
        refine op0 ?_
        show _ ∧ _
        have hs := refRow_step right needs (N := refN right.length (needs.take k)) (i := i) (by omega)
        have ht : needs.take j = needs := List.take_of_length_le (by omega)
        refine ⟨by omega, trivial, ?_⟩
        exact imp_ler [(1, 1)] (ler1 1 1 _ _ rfl (by exact congrArg (fun l_ => LObj.mk (enc eB l_) 4 1) (by rw [ht]; exact hs)) (NoIL.out (l := (enc eB ((refRow right needs (refN right.length (needs.take k)) i).set i (refAt right (needs.take j) i))))) (sr_same 8 (.v (.int .i64 ((i + 1) : Int))) rfl NoI.out (sr_map 7 (.sl 1 0 ((refRow right needs (refN right.length (needs.take k)) (i + 1)).length)) (by first | exact Ok.sl _ _ _ (by simp) | exact Ok.pt _ _ (by simp)) (by exact congrArg (AV.sl 1 0) (by simp)) (sr_same 5 (.v (.int .i64 (refN right.length (needs.take k) : Int))) rfl NoI.out (sr_same 4 (.v (.slice none 0 0)) rfl NoI.out (sr_same 1 (.ro needs.length (enc eN needs)) rfl NoI.out (sr_same 0 (.ro right.length (enc eB right)) rfl NoI.out sr_none))))))) (keep_of rfl)
    · skip
      have hf18 := of_decide_eq_false hc2
      refine awp_exit ?_
      show AWP _ _ _ _ _
      refine seqR ?_
      refine opG rfl (aop_move (av := .sl 1 0 ((refRow right needs (refN right.length (needs.take k)) i).length)) (.inl rfl) rfl rfl rfl ?_)
      refine opG rfl (aop_move (av := .sl 1 0 ((refRow right needs (refN right.length (needs.take k)) i).length)) (.inr rfl) rfl rfl rfl ?_)
      refine op0 ?_
      show AWP _ _ _ _ _
      refine awp_imp ⟨(upd none_ 4 (.sl 1 0 ((refRow right needs (refN right.length (needs.take k)) i).length))), (updO noOb 1 (.live ⟨(enc eB (refRow right needs (refN right.length (needs.take k)) i)), 4, 1⟩))⟩ (imp_le ⟨(lee_upd 4 _ rfl (lee_none _)), fun _ => .inl rfl⟩) ?_
      refine awp_ret ?_
      have he : needs.take k = needs := List.take_of_length_le (by omega)
      have he2 := refRow_all (right := right) (needs := needs) (N := refN right.length (needs.take k)) (i := i) (by rw [he]) (by omega)
      exact fretO 1 rfl rfl rfl (congrArg List.length he2) (congrArg (fun l_ => LObj.mk (enc eB l_) 4 1) he2)

set_option maxRecDepth 10000 in
set_option maxHeartbeats 1000000 in
theorem l14_grows   : Fn Try.prog 8 [] (.v (.bool true)) := by
  refine fnE_of_body (N := 6) Try.func8 rfl rfl (resOf1 rfl) (by simp) (fun w0 X => ?_)
  refine seqR ?_
  refine opG rfl (aop_move (av := .v (.bool false)) (.inr rfl) rfl rfl rfl ?_)
  refine op0 ?_
  show AWP _ _ _ _ _
  refine seqR ?_
  refine opG rfl (aop_build rfl rfl rfl pl30 rfl ?_)
  refine opG rfl (aop_lit rfl rfl rfl ut25 iz30 (by decide) (by decide) rfl rfl ?_)
  refine opG rfl (callO_ 51 (p_Move ([] : List Bool) [(⟨1, true⟩ : Need)] (by first | omega | (simp; done) | decide | (simp; omega) | (simp at *; omega)) (by first | omega | (simp; done) | decide | (simp; omega) | (simp at *; omega))) rfl rfl rfl rfl rfl bd10 (lends_cons lend_nil (lends_cons (lend_n (av := .ro 1 [.v (.int .i64 1), .v (.bool true)])) lends_nil)) (.sl _ _ _ trivial) (news1 news0) (free1 rfl) rfl rfl ?_)
  refine opG rfl (aop_lit rfl rfl rfl ut23 iz4 (by decide) (by decide) rfl rfl ?_)
  refine opG rfl (callL_ (r01_Bools (moveL ([] : List Bool) [(⟨1, true⟩ : Need)]) [(false : Bool), (true : Bool)] (by first | omega | (simp; done) | decide | (simp; omega) | (simp at *; omega))) rfl rfl rfl rfl rfl bd11 (lends_cons (lend_s (id := 51) (n := (moveL ([] : List Bool) [(⟨1, true⟩ : Need)]).length) (o := ⟨(enc eB (moveL ([] : List Bool) [(⟨1, true⟩ : Need)])), 4, 1⟩) rfl (enc_len (fun _ => rfl) rfl)) (lends_cons (lend_n (av := .ro 2 [.v (.bool false), .v (.bool true)])) lends_nil)) ?_)
  refine opG rfl (aop_move (av := .v (.bool (decide ((moveL ([] : List Bool) [(⟨1, true⟩ : Need)]) = [(false : Bool), (true : Bool)])))) (.inr rfl) rfl rfl rfl ?_)
  refine op0 ?_
  show AWP _ _ _ _ _
  refine awp_imp ⟨(upd none_ 0 (.v (.bool (decide ((moveL ([] : List Bool) [(⟨1, true⟩ : Need)]) = [(false : Bool), (true : Bool)]))))), (updO noOb 51 (.live ⟨(enc eB (moveL ([] : List Bool) [(⟨1, true⟩ : Need)])), 4, 1⟩))⟩ (imp_le ⟨(lee_upd 0 _ rfl (lee_none _)), fun _ => .inl rfl⟩) ?_
  refine awp_ret ?_
  exact fret (av := .v (.bool (decide ((moveL ([] : List Bool) [(⟨1, true⟩ : Need)]) = [(false : Bool), (true : Bool)])))) rfl rfl (by rfl)

set_option maxRecDepth 10000 in
set_option maxHeartbeats 1000000 in
theorem l14_PointTwice (l : List Need) (right : List Bool) (p : Int) (a b : Bool) (hp : 0 ≤ p ∧ p ≤ 255) : Fn Try.prog 3 [.ro l.length (enc eN l), .ro right.length (enc eB right), .v (.int .u8 p), .v (.bool a), .v (.bool b)] (.v (.bool true)) := by
  refine fnE_of_body (N := 73) Try.func3 rfl rfl (resOf1 rfl) (by simp) (fun w0 X => ?_)
  refine seqR ?_
  refine opG rfl (aop_move (av := .v (.bool false)) (.inr rfl) rfl rfl rfl ?_)
  refine op0 ?_
  show AWP _ _ _ _ _
  refine awp_seq ?_
  refine seqR ?_
  refine opG rfl (call_ (l14_grows) rfl rfl rfl rfl rfl bd8 rfl ?_)
  refine opG rfl (aop_not rfl rfl rfl rfl ?_)
  refine opG rfl (aop_move (av := .v (.bool false)) (.inl rfl) rfl rfl rfl ?_)
  refine opY rfl rfl rfl rfl (aop_move (av := .ro l.length (enc eN l)) (.inl rfl) rfl rfl rfl ?_)
  refine opY rfl rfl rfl rfl (aop_len rfl rfl rfl rfl ut22 (len_ro rfl) ?_)
  refine opY rfl rfl rfl rfl (aop_binI (u := (.bool (decide ((l.length : Int) > 8)))) rfl rfl rfl rfl rfl trivial rfl ?_)
  refine opG rfl (aop_pick (b := false) (av := .v (.bool (decide ((l.length : Int) > 8)))) rfl rfl rfl rfl rfl ?_)
  refine opG rfl (aop_move (av := .v (.bool (decide ((l.length : Int) > 8)))) (.inl rfl) rfl rfl rfl ?_)
  refine aops_grp 4 26 (.v (.bool ((decide ((l.length : Int) > 8)) || (decide ((right.length : Int) > 12))))) ?_ ?_
  · rcases Bool.eq_false_or_eq_true (decide ((l.length : Int) > 8)) with hg1 | hg1
    · skip
      have hf2 := of_decide_eq_true hg1
      refine opN rfl rfl rfl rfl (by show yv (.bool (decide ((l.length : Int) > 8))) ≠ _; rw [hg1]; intro h; cases h) rfl rfl ?_
      refine opN rfl rfl rfl rfl (by show yv (.bool (decide ((l.length : Int) > 8))) ≠ _; rw [hg1]; intro h; cases h) rfl rfl ?_
      refine opN rfl rfl rfl rfl (by show yv (.bool (decide ((l.length : Int) > 8))) ≠ _; rw [hg1]; intro h; cases h) rfl rfl ?_
      refine opG rfl (aop_pick (b := (decide ((l.length : Int) > 8))) rfl rfl rfl rfl (by rw [hg1] <;> rfl) ?_)
      refine op0 ?_
      exact imp_env (lee_both 26 _ _ (by rw [hg1] <;> rfl) (lee_out 25 _ rfl (lee_out 24 _ rfl (lee_out 23 _ rfl (lee_same _)))))
    · skip
      have hf3 := of_decide_eq_false hg1
      refine opY rfl rfl rfl (by show AV.v (.bool (decide ((l.length : Int) > 8))) = _; rw [hg1]) (aop_move (av := .ro right.length (enc eB right)) (.inl rfl) rfl rfl rfl ?_)
      refine opY rfl rfl rfl (by show AV.v (.bool (decide ((l.length : Int) > 8))) = _; rw [hg1]) (aop_len rfl rfl rfl rfl ut23 (len_ro rfl) ?_)
      refine opY rfl rfl rfl (by show AV.v (.bool (decide ((l.length : Int) > 8))) = _; rw [hg1]) (aop_binI (u := (.bool (decide ((right.length : Int) > 12)))) rfl rfl rfl rfl rfl trivial rfl ?_)
      refine opG rfl (aop_pick (b := (decide ((l.length : Int) > 8))) rfl rfl rfl rfl (by rw [hg1] <;> rfl) ?_)
      refine op0 ?_
      exact imp_env (lee_both 26 _ _ (by rw [hg1] <;> rfl) (lee_out 25 _ rfl (lee_out 24 _ rfl (lee_out 23 _ rfl (lee_same _)))))
  refine op0 ?_
  show AWP _ _ _ _ _
  refine awp_imp ⟨(upd (upd (upd (upd (upd (upd (upd none_ 0 (.ro l.length (enc eN l))) 1 (.ro right.length (enc eB right))) 2 (.v (.int .u8 p))) 3 (.v (.bool a))) 4 (.v (.bool b))) 10 (.v (.bool false))) 26 (.v (.bool ((decide ((l.length : Int) > 8)) || (decide ((right.length : Int) > 12)))))), noOb⟩ (imp_le ⟨(lee_upd 26 _ rfl (lee_upd 10 _ rfl (lee_upd 4 _ rfl (lee_upd 3 _ rfl (lee_upd 2 _ rfl (lee_upd 1 _ rfl (lee_upd 0 _ rfl (lee_none _)))))))), fun _ => .inl rfl⟩) ?_
  refine awp_cond ((decide ((l.length : Int) > 8)) || (decide ((right.length : Int) > 12))) rfl rfl (fun hc0 => ?_) (fun hc0 => ?_)
  · skip
    refine seqR ?_
    refine opG rfl (call_ (l14_grows) rfl rfl rfl rfl rfl bd8 rfl ?_)
    refine opG rfl (aop_move (av := .v (.bool true)) (.inr rfl) rfl rfl rfl ?_)
    refine op0 ?_
    show AWP _ _ _ _ _
    refine awp_ret ?_
    exact fret (av := .v (.bool true)) rfl rfl rfl
  · skip
    obtain ⟨hf4a, hf4b⟩ := or_f hc0
    have hf5 := of_decide_eq_false hf4a
    have hf6 := of_decide_eq_false hf4b
    have hlo : (ofL true l).length = l.length := by simp [ofL]
    have hml : (moveL right (ofL true l ++ [⟨p % 8, a⟩, ⟨p % 8, b⟩])).length ≤ right.length + 8 * (l.length + 2) := by have := moveL_len right (ofL true l ++ [⟨p % 8, a⟩, ⟨p % 8, b⟩]); simpa [hlo] using this
    refine awp_skip ?_
    show AWP _ _ _ _ _
    refine seqR ?_
    refine opG rfl (aop_move (av := .v (.int .u8 p)) (.inl rfl) rfl rfl rfl ?_)
    refine opG rfl (aop_binI (u := (.int .u8 (p % 8))) rfl rfl rfl rfl rfl (by show _ ≠ _; decide) (remI (by omega)) ?_)
    refine opG rfl (aop_conv' rfl rfl rfl ut5 ut3 rfl (IntWalk.i64_in _ (by omega)) ?_)
    refine opG rfl (aop_move (av := .v (.int .i64 (p % 8))) (.inr rfl) rfl rfl rfl ?_)
    refine op0 ?_
    show AWP _ _ _ _ _
    refine awp_imp ⟨(upd (upd (upd (upd (upd (upd none_ 0 (.ro l.length (enc eN l))) 1 (.ro right.length (enc eB right))) 3 (.v (.bool a))) 4 (.v (.bool b))) 10 (.v (.bool false))) 11 (.v (.int .i64 (p % 8)))), noOb⟩ (imp_le ⟨(lee_upd 11 _ rfl (lee_upd 10 _ rfl (lee_upd 4 _ rfl (lee_upd 3 _ rfl (lee_upd 1 _ rfl (lee_upd 0 _ rfl (lee_none _))))))), fun _ => .inl rfl⟩) ?_
    refine seqR ?_
    refine opG rfl (aop_move (av := .ro l.length (enc eN l)) (.inl rfl) rfl rfl rfl ?_)
    refine opG rfl (callO_ 51 (l14_of l true (by first | omega | (simp; done) | decide | (simp; omega) | (simp at *; omega))) rfl rfl rfl rfl rfl bd9 (lends_cons (lend_n (av := .ro l.length (enc eN l))) (lends_cons (lend_n (av := .v (.bool true))) lends_nil)) (.tup _ (by intro c hc; simp at hc; rcases hc with rfl | rfl <;> exact .sl _ _ _ trivial)) (news1 (news1 news0)) (free2 rfl rfl) rfl rfl ?_)
    refine opG rfl (aop_move (av := .tup [.sl 51 0 ((ofL true l).length), .sl 52 0 ((ofL true l).length)]) (.inl rfl) rfl rfl rfl ?_)
    refine opG rfl (aop_extract rfl rfl rfl rfl rfl ?_)
    refine opG rfl (aop_extract rfl rfl rfl rfl rfl ?_)
    refine opG rfl (aop_move (av := .sl 51 0 ((ofL true l).length)) (.inr rfl) rfl rfl rfl ?_)
    refine opG rfl (aop_move (av := .sl 52 0 ((ofL true l).length)) (.inr rfl) rfl rfl rfl ?_)
    refine op0 ?_
    show AWP _ _ _ _ _
    refine awp_imp ⟨(upd (upd (upd (upd (upd (upd (upd none_ 1 (.ro right.length (enc eB right))) 3 (.v (.bool a))) 4 (.v (.bool b))) 10 (.v (.bool false))) 11 (.v (.int .i64 (p % 8)))) 12 (.sl 51 0 ((ofL true l).length))) 13 (.sl 52 0 ((ofL true l).length))), (updO (updO noOb 51 (.live ⟨(enc eN (ofL true l)), 30, 2⟩)) 52 (.live ⟨(enc eN (ofL true l)), 31, 2⟩))⟩ (imp_le ⟨(lee_upd 13 _ rfl (lee_upd 12 _ rfl (lee_upd 11 _ rfl (lee_upd 10 _ rfl (lee_upd 4 _ rfl (lee_upd 3 _ rfl (lee_upd 1 _ rfl (lee_none _)))))))), fun _ => .inl rfl⟩) ?_
    refine seqR ?_
    refine opG rfl (aop_move (av := .sl 51 0 ((ofL true l).length)) (.inl rfl) rfl rfl rfl ?_)
    refine opG rfl (aop_move (av := .v (.int .i64 (p % 8))) (.inl rfl) rfl rfl rfl ?_)
    refine opG rfl (aop_move (av := .v (.bool a)) (.inl rfl) rfl rfl rfl ?_)
    refine opG rfl (aop_build rfl rfl rfl pl30 rfl ?_)
    refine opG rfl (aop_move (av := .v (.int .i64 (p % 8))) (.inl rfl) rfl rfl rfl ?_)
    refine opG rfl (aop_move (av := .v (.bool b)) (.inl rfl) rfl rfl rfl ?_)
    refine opG rfl (aop_build rfl rfl rfl pl30 rfl ?_)
    refine opG rfl (aop_lit rfl rfl rfl ut25 iz30 (by decide) (by decide) rfl rfl ?_)
    refine opG rfl (aop_appE (f := eN) (l := ofL true l) (l2 := [(⟨p % 8, a⟩ : Need), (⟨p % 8, b⟩ : Need)]) 53 rfl rfl rfl rfl ut25 in30 rfl (by decide) rfl rfl rfl rfl rfl rfl (fun _ => rfl) rfl rfl rfl (by first | omega | (simp; done) | decide | (simp; omega) | (simp at *; omega)) (by first | omega | (simp; done) | decide | (simp; omega) | (simp at *; omega)) rfl ?_)
    refine opG rfl (aop_move (av := .sl 53 0 (((ofL true l) ++ [(⟨p % 8, a⟩ : Need), (⟨p % 8, b⟩ : Need)]).length)) (.inr rfl) rfl rfl rfl ?_)
    refine op0 ?_
    show AWP _ _ _ _ _
    refine awp_imp ⟨(upd (upd (upd (upd (upd (upd none_ 1 (.ro right.length (enc eB right))) 4 (.v (.bool b))) 10 (.v (.bool false))) 11 (.v (.int .i64 (p % 8)))) 12 (.sl 53 0 (((ofL true l) ++ [(⟨p % 8, a⟩ : Need), (⟨p % 8, b⟩ : Need)]).length))) 13 (.sl 52 0 ((ofL true l).length))), (updO (updO (updO (updO noOb 51 (.live ⟨(enc eN (ofL true l)), 30, 2⟩)) 52 (.live ⟨(enc eN (ofL true l)), 31, 2⟩)) 51 .dead) 53 (.live ⟨(enc eN ((ofL true l) ++ [(⟨p % 8, a⟩ : Need), (⟨p % 8, b⟩ : Need)])), 30, 2⟩))⟩ (imp_le ⟨(lee_upd 13 _ rfl (lee_upd 12 _ rfl (lee_upd 11 _ rfl (lee_upd 10 _ rfl (lee_upd 4 _ rfl (lee_upd 1 _ rfl (lee_none _))))))), fun _ => .inl rfl⟩) ?_
    refine seqR ?_
    refine opG rfl (aop_move (av := .sl 52 0 ((ofL true l).length)) (.inl rfl) rfl rfl rfl ?_)
    refine opG rfl (aop_move (av := .v (.int .i64 (p % 8))) (.inl rfl) rfl rfl rfl ?_)
    refine opG rfl (aop_move (av := .v (.bool b)) (.inl rfl) rfl rfl rfl ?_)
    refine opG rfl (aop_build rfl rfl rfl pl31 rfl ?_)
    refine opG rfl (aop_lit rfl rfl rfl ut26 iz31 (by decide) (by decide) rfl rfl ?_)
    refine opG rfl (aop_app1 (f := eN) (l := ofL true l) 54 (⟨p % 8, b⟩ : Need) rfl rfl rfl rfl ut26 in31 rfl (by decide) rfl rfl rfl rfl rfl rfl (fun _ => rfl) rfl rfl (by first | omega | (simp; done) | decide | (simp; omega) | (simp at *; omega)) (by first | omega | (simp; done) | decide | (simp; omega) | (simp at *; omega)) rfl ?_)
    refine opG rfl (aop_move (av := .sl 54 0 (((ofL true l) ++ [(⟨p % 8, b⟩ : Need)]).length)) (.inr rfl) rfl rfl rfl ?_)
    refine op0 ?_
    show AWP _ _ _ _ _
    refine awp_imp ⟨(upd (upd (upd (upd (upd (upd none_ 1 (.ro right.length (enc eB right))) 4 (.v (.bool b))) 10 (.v (.bool false))) 11 (.v (.int .i64 (p % 8)))) 12 (.sl 53 0 (((ofL true l) ++ [(⟨p % 8, a⟩ : Need), (⟨p % 8, b⟩ : Need)]).length))) 13 (.sl 54 0 (((ofL true l) ++ [(⟨p % 8, b⟩ : Need)]).length))), (updO (updO (updO (updO (updO (updO noOb 51 (.live ⟨(enc eN (ofL true l)), 30, 2⟩)) 52 (.live ⟨(enc eN (ofL true l)), 31, 2⟩)) 51 .dead) 53 (.live ⟨(enc eN ((ofL true l) ++ [(⟨p % 8, a⟩ : Need), (⟨p % 8, b⟩ : Need)])), 30, 2⟩)) 52 .dead) 54 (.live ⟨(enc eN ((ofL true l) ++ [(⟨p % 8, b⟩ : Need)])), 31, 2⟩))⟩ (imp_le ⟨(lee_upd 13 _ rfl (lee_upd 12 _ rfl (lee_upd 11 _ rfl (lee_upd 10 _ rfl (lee_upd 4 _ rfl (lee_upd 1 _ rfl (lee_none _))))))), fun _ => .inl rfl⟩) ?_
    refine seqR ?_
    refine opG rfl (aop_move (av := .ro right.length (enc eB right)) (.inl rfl) rfl rfl rfl ?_)
    refine opG rfl (aop_move (av := .sl 53 0 (((ofL true l) ++ [(⟨p % 8, a⟩ : Need), (⟨p % 8, b⟩ : Need)]).length)) (.inl rfl) rfl rfl rfl ?_)
    refine opG rfl (callO_ 55 (p_Move right ((ofL true l) ++ [(⟨p % 8, a⟩ : Need), (⟨p % 8, b⟩ : Need)]) (by first | omega | (simp; done) | decide | (simp; omega) | (simp at *; omega)) (by first | omega | (simp; done) | decide | (simp; omega) | (simp at *; omega))) rfl rfl rfl rfl rfl bd10 (lends_cons (lend_n (av := .ro right.length (enc eB right))) (lends_cons (lend_s (id := 53) (n := ((ofL true l) ++ [(⟨p % 8, a⟩ : Need), (⟨p % 8, b⟩ : Need)]).length) (o := ⟨(enc eN ((ofL true l) ++ [(⟨p % 8, a⟩ : Need), (⟨p % 8, b⟩ : Need)])), 30, 2⟩) rfl (enc_len (fun _ => rfl) rfl)) lends_nil)) (.sl _ _ _ trivial) (news1 news0) (free1 rfl) rfl rfl ?_)
    refine opG rfl (aop_move (av := .sl 55 0 ((moveL right ((ofL true l) ++ [(⟨p % 8, a⟩ : Need), (⟨p % 8, b⟩ : Need)])).length)) (.inr rfl) rfl rfl rfl ?_)
    refine op0 ?_
    show AWP _ _ _ _ _
    refine awp_imp ⟨(upd (upd (upd (upd (upd (upd none_ 1 (.ro right.length (enc eB right))) 4 (.v (.bool b))) 10 (.v (.bool false))) 11 (.v (.int .i64 (p % 8)))) 13 (.sl 54 0 (((ofL true l) ++ [(⟨p % 8, b⟩ : Need)]).length))) 14 (.sl 55 0 ((moveL right ((ofL true l) ++ [(⟨p % 8, a⟩ : Need), (⟨p % 8, b⟩ : Need)])).length))), (updO (updO (updO (updO (updO (updO (updO noOb 51 (.live ⟨(enc eN (ofL true l)), 30, 2⟩)) 52 (.live ⟨(enc eN (ofL true l)), 31, 2⟩)) 51 .dead) 53 (.live ⟨(enc eN ((ofL true l) ++ [(⟨p % 8, a⟩ : Need), (⟨p % 8, b⟩ : Need)])), 30, 2⟩)) 52 .dead) 54 (.live ⟨(enc eN ((ofL true l) ++ [(⟨p % 8, b⟩ : Need)])), 31, 2⟩)) 55 (.live ⟨(enc eB (moveL right ((ofL true l) ++ [(⟨p % 8, a⟩ : Need), (⟨p % 8, b⟩ : Need)]))), 4, 1⟩))⟩ (imp_le ⟨(lee_upd 14 _ rfl (lee_upd 13 _ rfl (lee_upd 11 _ rfl (lee_upd 10 _ rfl (lee_upd 4 _ rfl (lee_upd 1 _ rfl (lee_none _))))))), fun _ => .inl rfl⟩) ?_
    refine seqR ?_
    refine opG rfl (aop_move (av := .sl 55 0 ((moveL right ((ofL true l) ++ [(⟨p % 8, a⟩ : Need), (⟨p % 8, b⟩ : Need)])).length)) (.inl rfl) rfl rfl rfl ?_)
    refine opG rfl (aop_move (av := .ro right.length (enc eB right)) (.inl rfl) rfl rfl rfl ?_)
    refine opG rfl (aop_move (av := .sl 54 0 (((ofL true l) ++ [(⟨p % 8, b⟩ : Need)]).length)) (.inl rfl) rfl rfl rfl ?_)
    refine opG rfl (callO_ 56 (r14_Move right ((ofL true l) ++ [(⟨p % 8, b⟩ : Need)]) (by first | omega | (simp; done) | decide | (simp; omega) | (simp at *; omega)) (by first | omega | (simp; done) | decide | (simp; omega) | (simp at *; omega))) rfl rfl rfl rfl rfl bd12 (lends_cons (lend_n (av := .ro right.length (enc eB right))) (lends_cons (lend_s (id := 54) (n := ((ofL true l) ++ [(⟨p % 8, b⟩ : Need)]).length) (o := ⟨(enc eN ((ofL true l) ++ [(⟨p % 8, b⟩ : Need)])), 31, 2⟩) rfl (enc_len (fun _ => rfl) rfl)) lends_nil)) (.sl _ _ _ trivial) (news1 news0) (free1 rfl) rfl rfl ?_)
    refine opG rfl (callL_ (r01_Bools (moveL right ((ofL true l) ++ [(⟨p % 8, a⟩ : Need), (⟨p % 8, b⟩ : Need)])) (moveL right ((ofL true l) ++ [(⟨p % 8, b⟩ : Need)])) (by first | omega | (simp; done) | decide | (simp; omega) | (simp at *; omega))) rfl rfl rfl rfl rfl bd11 (lends_cons (lend_s (id := 55) (n := (moveL right ((ofL true l) ++ [(⟨p % 8, a⟩ : Need), (⟨p % 8, b⟩ : Need)])).length) (o := ⟨(enc eB (moveL right ((ofL true l) ++ [(⟨p % 8, a⟩ : Need), (⟨p % 8, b⟩ : Need)]))), 4, 1⟩) rfl (enc_len (fun _ => rfl) rfl)) (lends_cons (lend_s (id := 56) (n := (moveL right ((ofL true l) ++ [(⟨p % 8, b⟩ : Need)])).length) (o := ⟨(enc eB (moveL right ((ofL true l) ++ [(⟨p % 8, b⟩ : Need)]))), 4, 1⟩) rfl (enc_len (fun _ => rfl) rfl)) lends_nil)) ?_)
    refine opG rfl (aop_move (av := .v (.bool (decide ((moveL right ((ofL true l) ++ [(⟨p % 8, a⟩ : Need), (⟨p % 8, b⟩ : Need)])) = (moveL right ((ofL true l) ++ [(⟨p % 8, b⟩ : Need)])))))) (.inl rfl) rfl rfl rfl ?_)
    refine aops_grp 5 64 (.v (.bool ((decide ((moveL right ((ofL true l) ++ [(⟨p % 8, a⟩ : Need), (⟨p % 8, b⟩ : Need)])) = (moveL right ((ofL true l) ++ [(⟨p % 8, b⟩ : Need)])))) && (decide (((moveL right ((ofL true l) ++ [(⟨p % 8, a⟩ : Need), (⟨p % 8, b⟩ : Need)])).length : Int) > (p % 8)))))) ?_ ?_
    · rcases Bool.eq_false_or_eq_true (decide ((moveL right ((ofL true l) ++ [(⟨p % 8, a⟩ : Need), (⟨p % 8, b⟩ : Need)])) = (moveL right ((ofL true l) ++ [(⟨p % 8, b⟩ : Need)])))) with hg7 | hg7
      · skip
        refine opY rfl rfl rfl (by show AV.v (.bool (decide ((moveL right ((ofL true l) ++ [(⟨p % 8, a⟩ : Need), (⟨p % 8, b⟩ : Need)])) = (moveL right ((ofL true l) ++ [(⟨p % 8, b⟩ : Need)]))))) = _; rw [hg7]) (aop_move (av := .sl 55 0 ((moveL right ((ofL true l) ++ [(⟨p % 8, a⟩ : Need), (⟨p % 8, b⟩ : Need)])).length)) (.inl rfl) rfl rfl rfl ?_)
        refine opY rfl rfl rfl (by show AV.v (.bool (decide ((moveL right ((ofL true l) ++ [(⟨p % 8, a⟩ : Need), (⟨p % 8, b⟩ : Need)])) = (moveL right ((ofL true l) ++ [(⟨p % 8, b⟩ : Need)]))))) = _; rw [hg7]) (aop_len rfl rfl rfl rfl ut23 (len_sl rfl) ?_)
        refine opY rfl rfl rfl (by show AV.v (.bool (decide ((moveL right ((ofL true l) ++ [(⟨p % 8, a⟩ : Need), (⟨p % 8, b⟩ : Need)])) = (moveL right ((ofL true l) ++ [(⟨p % 8, b⟩ : Need)]))))) = _; rw [hg7]) (aop_move (av := .v (.int .i64 (p % 8))) (.inl rfl) rfl rfl rfl ?_)
        refine opY rfl rfl rfl (by show AV.v (.bool (decide ((moveL right ((ofL true l) ++ [(⟨p % 8, a⟩ : Need), (⟨p % 8, b⟩ : Need)])) = (moveL right ((ofL true l) ++ [(⟨p % 8, b⟩ : Need)]))))) = _; rw [hg7]) (aop_binI (u := (.bool (decide (((moveL right ((ofL true l) ++ [(⟨p % 8, a⟩ : Need), (⟨p % 8, b⟩ : Need)])).length : Int) > (p % 8))))) rfl rfl rfl rfl rfl trivial rfl ?_)
        refine opG rfl (aop_pick (b := (decide ((moveL right ((ofL true l) ++ [(⟨p % 8, a⟩ : Need), (⟨p % 8, b⟩ : Need)])) = (moveL right ((ofL true l) ++ [(⟨p % 8, b⟩ : Need)]))))) rfl rfl rfl rfl (by rw [hg7] <;> rfl) ?_)
        refine op0 ?_
        exact imp_env (lee_both 64 _ _ (by rw [hg7] <;> rfl) (lee_out 63 _ rfl (lee_out 62 _ rfl (lee_out 61 _ rfl (lee_out 60 _ rfl (lee_same _))))))
      · skip
        refine opN rfl rfl rfl rfl (by show yv (.bool (decide ((moveL right ((ofL true l) ++ [(⟨p % 8, a⟩ : Need), (⟨p % 8, b⟩ : Need)])) = (moveL right ((ofL true l) ++ [(⟨p % 8, b⟩ : Need)]))))) ≠ _; rw [hg7]; intro h; cases h) rfl rfl ?_
        refine opN rfl rfl rfl rfl (by show yv (.bool (decide ((moveL right ((ofL true l) ++ [(⟨p % 8, a⟩ : Need), (⟨p % 8, b⟩ : Need)])) = (moveL right ((ofL true l) ++ [(⟨p % 8, b⟩ : Need)]))))) ≠ _; rw [hg7]; intro h; cases h) rfl rfl ?_
        refine opN rfl rfl rfl rfl (by show yv (.bool (decide ((moveL right ((ofL true l) ++ [(⟨p % 8, a⟩ : Need), (⟨p % 8, b⟩ : Need)])) = (moveL right ((ofL true l) ++ [(⟨p % 8, b⟩ : Need)]))))) ≠ _; rw [hg7]; intro h; cases h) rfl rfl ?_
        refine opN rfl rfl rfl rfl (by show yv (.bool (decide ((moveL right ((ofL true l) ++ [(⟨p % 8, a⟩ : Need), (⟨p % 8, b⟩ : Need)])) = (moveL right ((ofL true l) ++ [(⟨p % 8, b⟩ : Need)]))))) ≠ _; rw [hg7]; intro h; cases h) rfl rfl ?_
        refine opG rfl (aop_pick (b := (decide ((moveL right ((ofL true l) ++ [(⟨p % 8, a⟩ : Need), (⟨p % 8, b⟩ : Need)])) = (moveL right ((ofL true l) ++ [(⟨p % 8, b⟩ : Need)]))))) rfl rfl rfl rfl (by rw [hg7] <;> rfl) ?_)
        refine op0 ?_
        exact imp_env (lee_both 64 _ _ (by rw [hg7] <;> rfl) (lee_out 63 _ rfl (lee_out 62 _ rfl (lee_out 61 _ rfl (lee_out 60 _ rfl (lee_same _))))))
    refine opG rfl (aop_move (av := .v (.bool ((decide ((moveL right ((ofL true l) ++ [(⟨p % 8, a⟩ : Need), (⟨p % 8, b⟩ : Need)])) = (moveL right ((ofL true l) ++ [(⟨p % 8, b⟩ : Need)])))) && (decide (((moveL right ((ofL true l) ++ [(⟨p % 8, a⟩ : Need), (⟨p % 8, b⟩ : Need)])).length : Int) > (p % 8)))))) (.inl rfl) rfl rfl rfl ?_)
    refine aops_grp 7 72 (.v (.bool (((decide ((moveL right ((ofL true l) ++ [(⟨p % 8, a⟩ : Need), (⟨p % 8, b⟩ : Need)])) = (moveL right ((ofL true l) ++ [(⟨p % 8, b⟩ : Need)])))) && (decide (((moveL right ((ofL true l) ++ [(⟨p % 8, a⟩ : Need), (⟨p % 8, b⟩ : Need)])).length : Int) > (p % 8)))) && (((moveL right ((ofL true l) ++ [(⟨p % 8, a⟩ : Need), (⟨p % 8, b⟩ : Need)])).getD ((p % 8).toNat) false) == b)))) ?_ ?_
    · rcases Bool.eq_false_or_eq_true ((decide ((moveL right ((ofL true l) ++ [(⟨p % 8, a⟩ : Need), (⟨p % 8, b⟩ : Need)])) = (moveL right ((ofL true l) ++ [(⟨p % 8, b⟩ : Need)])))) && (decide (((moveL right ((ofL true l) ++ [(⟨p % 8, a⟩ : Need), (⟨p % 8, b⟩ : Need)])).length : Int) > (p % 8)))) with hg8 | hg8
      · skip
        obtain ⟨hf9a, hf9b⟩ := and_t hg8
        have hf10 := of_decide_eq_true hf9b
        refine opY rfl rfl rfl (by show AV.v (.bool ((decide ((moveL right ((ofL true l) ++ [(⟨p % 8, a⟩ : Need), (⟨p % 8, b⟩ : Need)])) = (moveL right ((ofL true l) ++ [(⟨p % 8, b⟩ : Need)])))) && (decide (((moveL right ((ofL true l) ++ [(⟨p % 8, a⟩ : Need), (⟨p % 8, b⟩ : Need)])).length : Int) > (p % 8))))) = _; rw [hg8]) (aop_move (av := .sl 55 0 ((moveL right ((ofL true l) ++ [(⟨p % 8, a⟩ : Need), (⟨p % 8, b⟩ : Need)])).length)) (.inl rfl) rfl rfl rfl ?_)
        refine opY rfl rfl rfl (by show AV.v (.bool ((decide ((moveL right ((ofL true l) ++ [(⟨p % 8, a⟩ : Need), (⟨p % 8, b⟩ : Need)])) = (moveL right ((ofL true l) ++ [(⟨p % 8, b⟩ : Need)])))) && (decide (((moveL right ((ofL true l) ++ [(⟨p % 8, a⟩ : Need), (⟨p % 8, b⟩ : Need)])).length : Int) > (p % 8))))) = _; rw [hg8]) (aop_move (av := .v (.int .i64 (p % 8))) (.inl rfl) rfl rfl rfl ?_)
        refine opY rfl rfl rfl (by show AV.v (.bool ((decide ((moveL right ((ofL true l) ++ [(⟨p % 8, a⟩ : Need), (⟨p % 8, b⟩ : Need)])) = (moveL right ((ofL true l) ++ [(⟨p % 8, b⟩ : Need)])))) && (decide (((moveL right ((ofL true l) ++ [(⟨p % 8, a⟩ : Need), (⟨p % 8, b⟩ : Need)])).length : Int) > (p % 8))))) = _; rw [hg8]) (aop_ixOI rfl rfl rfl ut23 sz4 rfl rfl (by omega) (by first | omega | (simp; done) | decide | (simp; omega) | (simp at *; omega)) ?_)
        refine opY rfl rfl rfl (by show AV.v (.bool ((decide ((moveL right ((ofL true l) ++ [(⟨p % 8, a⟩ : Need), (⟨p % 8, b⟩ : Need)])) = (moveL right ((ofL true l) ++ [(⟨p % 8, b⟩ : Need)])))) && (decide (((moveL right ((ofL true l) ++ [(⟨p % 8, a⟩ : Need), (⟨p % 8, b⟩ : Need)])).length : Int) > (p % 8))))) = _; rw [hg8]) (aop_ldO (f := eB) (l := moveL right ((ofL true l) ++ [(⟨p % 8, a⟩ : Need), (⟨p % 8, b⟩ : Need)])) false rfl rfl rfl ag4 rfl rfl rfl (fun _ => rfl) (by first | omega | (simp; done) | decide | (simp; omega) | (simp at *; omega)) rfl ?_)
        refine opY rfl rfl rfl (by show AV.v (.bool ((decide ((moveL right ((ofL true l) ++ [(⟨p % 8, a⟩ : Need), (⟨p % 8, b⟩ : Need)])) = (moveL right ((ofL true l) ++ [(⟨p % 8, b⟩ : Need)])))) && (decide (((moveL right ((ofL true l) ++ [(⟨p % 8, a⟩ : Need), (⟨p % 8, b⟩ : Need)])).length : Int) > (p % 8))))) = _; rw [hg8]) (aop_move (av := .v (.bool b)) (.inl rfl) rfl rfl rfl ?_)
        refine opY rfl rfl rfl (by show AV.v (.bool ((decide ((moveL right ((ofL true l) ++ [(⟨p % 8, a⟩ : Need), (⟨p % 8, b⟩ : Need)])) = (moveL right ((ofL true l) ++ [(⟨p % 8, b⟩ : Need)])))) && (decide (((moveL right ((ofL true l) ++ [(⟨p % 8, a⟩ : Need), (⟨p % 8, b⟩ : Need)])).length : Int) > (p % 8))))) = _; rw [hg8]) (aop_eqB rfl rfl rfl rfl rfl ut4 ?_)
        refine opG rfl (aop_pick (b := ((decide ((moveL right ((ofL true l) ++ [(⟨p % 8, a⟩ : Need), (⟨p % 8, b⟩ : Need)])) = (moveL right ((ofL true l) ++ [(⟨p % 8, b⟩ : Need)])))) && (decide (((moveL right ((ofL true l) ++ [(⟨p % 8, a⟩ : Need), (⟨p % 8, b⟩ : Need)])).length : Int) > (p % 8))))) rfl rfl rfl rfl (by rw [hg8] <;> rfl) ?_)
        refine op0 ?_
        exact imp_env (lee_both 72 _ _ (by rw [hg8] <;> rfl) (lee_out 71 _ rfl (lee_out 70 _ rfl (lee_out 69 _ rfl (lee_out 68 _ rfl (lee_out 67 _ rfl (lee_out 66 _ rfl (lee_same _))))))))
      · skip
        refine opN rfl rfl rfl rfl (by show yv (.bool ((decide ((moveL right ((ofL true l) ++ [(⟨p % 8, a⟩ : Need), (⟨p % 8, b⟩ : Need)])) = (moveL right ((ofL true l) ++ [(⟨p % 8, b⟩ : Need)])))) && (decide (((moveL right ((ofL true l) ++ [(⟨p % 8, a⟩ : Need), (⟨p % 8, b⟩ : Need)])).length : Int) > (p % 8))))) ≠ _; rw [hg8]; intro h; cases h) rfl rfl ?_
        refine opN rfl rfl rfl rfl (by show yv (.bool ((decide ((moveL right ((ofL true l) ++ [(⟨p % 8, a⟩ : Need), (⟨p % 8, b⟩ : Need)])) = (moveL right ((ofL true l) ++ [(⟨p % 8, b⟩ : Need)])))) && (decide (((moveL right ((ofL true l) ++ [(⟨p % 8, a⟩ : Need), (⟨p % 8, b⟩ : Need)])).length : Int) > (p % 8))))) ≠ _; rw [hg8]; intro h; cases h) rfl rfl ?_
        refine opN rfl rfl rfl rfl (by show yv (.bool ((decide ((moveL right ((ofL true l) ++ [(⟨p % 8, a⟩ : Need), (⟨p % 8, b⟩ : Need)])) = (moveL right ((ofL true l) ++ [(⟨p % 8, b⟩ : Need)])))) && (decide (((moveL right ((ofL true l) ++ [(⟨p % 8, a⟩ : Need), (⟨p % 8, b⟩ : Need)])).length : Int) > (p % 8))))) ≠ _; rw [hg8]; intro h; cases h) rfl rfl ?_
        refine opN rfl rfl rfl rfl (by show yv (.bool ((decide ((moveL right ((ofL true l) ++ [(⟨p % 8, a⟩ : Need), (⟨p % 8, b⟩ : Need)])) = (moveL right ((ofL true l) ++ [(⟨p % 8, b⟩ : Need)])))) && (decide (((moveL right ((ofL true l) ++ [(⟨p % 8, a⟩ : Need), (⟨p % 8, b⟩ : Need)])).length : Int) > (p % 8))))) ≠ _; rw [hg8]; intro h; cases h) rfl rfl ?_
        refine opN rfl rfl rfl rfl (by show yv (.bool ((decide ((moveL right ((ofL true l) ++ [(⟨p % 8, a⟩ : Need), (⟨p % 8, b⟩ : Need)])) = (moveL right ((ofL true l) ++ [(⟨p % 8, b⟩ : Need)])))) && (decide (((moveL right ((ofL true l) ++ [(⟨p % 8, a⟩ : Need), (⟨p % 8, b⟩ : Need)])).length : Int) > (p % 8))))) ≠ _; rw [hg8]; intro h; cases h) rfl rfl ?_
        refine opN rfl rfl rfl rfl (by show yv (.bool ((decide ((moveL right ((ofL true l) ++ [(⟨p % 8, a⟩ : Need), (⟨p % 8, b⟩ : Need)])) = (moveL right ((ofL true l) ++ [(⟨p % 8, b⟩ : Need)])))) && (decide (((moveL right ((ofL true l) ++ [(⟨p % 8, a⟩ : Need), (⟨p % 8, b⟩ : Need)])).length : Int) > (p % 8))))) ≠ _; rw [hg8]; intro h; cases h) rfl rfl ?_
        refine opG rfl (aop_pick (b := ((decide ((moveL right ((ofL true l) ++ [(⟨p % 8, a⟩ : Need), (⟨p % 8, b⟩ : Need)])) = (moveL right ((ofL true l) ++ [(⟨p % 8, b⟩ : Need)])))) && (decide (((moveL right ((ofL true l) ++ [(⟨p % 8, a⟩ : Need), (⟨p % 8, b⟩ : Need)])).length : Int) > (p % 8))))) rfl rfl rfl rfl (by rw [hg8] <;> rfl) ?_)
        refine op0 ?_
        exact imp_env (lee_both 72 _ _ (by rw [hg8] <;> rfl) (lee_out 71 _ rfl (lee_out 70 _ rfl (lee_out 69 _ rfl (lee_out 68 _ rfl (lee_out 67 _ rfl (lee_out 66 _ rfl (lee_same _))))))))
    refine opG rfl (aop_move (av := .v (.bool (((decide ((moveL right ((ofL true l) ++ [(⟨p % 8, a⟩ : Need), (⟨p % 8, b⟩ : Need)])) = (moveL right ((ofL true l) ++ [(⟨p % 8, b⟩ : Need)])))) && (decide (((moveL right ((ofL true l) ++ [(⟨p % 8, a⟩ : Need), (⟨p % 8, b⟩ : Need)])).length : Int) > (p % 8)))) && (((moveL right ((ofL true l) ++ [(⟨p % 8, a⟩ : Need), (⟨p % 8, b⟩ : Need)])).getD ((p % 8).toNat) false) == b)))) (.inr rfl) rfl rfl rfl ?_)
    refine op0 ?_
    show AWP _ _ _ _ _
    refine awp_imp ⟨(upd none_ 10 (.v (.bool (((decide ((moveL right ((ofL true l) ++ [(⟨p % 8, a⟩ : Need), (⟨p % 8, b⟩ : Need)])) = (moveL right ((ofL true l) ++ [(⟨p % 8, b⟩ : Need)])))) && (decide (((moveL right ((ofL true l) ++ [(⟨p % 8, a⟩ : Need), (⟨p % 8, b⟩ : Need)])).length : Int) > (p % 8)))) && (((moveL right ((ofL true l) ++ [(⟨p % 8, a⟩ : Need), (⟨p % 8, b⟩ : Need)])).getD ((p % 8).toNat) false) == b))))), (updO (updO (updO (updO (updO (updO (updO (updO noOb 51 (.live ⟨(enc eN (ofL true l)), 30, 2⟩)) 52 (.live ⟨(enc eN (ofL true l)), 31, 2⟩)) 51 .dead) 53 (.live ⟨(enc eN ((ofL true l) ++ [(⟨p % 8, a⟩ : Need), (⟨p % 8, b⟩ : Need)])), 30, 2⟩)) 52 .dead) 54 (.live ⟨(enc eN ((ofL true l) ++ [(⟨p % 8, b⟩ : Need)])), 31, 2⟩)) 55 (.live ⟨(enc eB (moveL right ((ofL true l) ++ [(⟨p % 8, a⟩ : Need), (⟨p % 8, b⟩ : Need)]))), 4, 1⟩)) 56 (.live ⟨(enc eB (moveL right ((ofL true l) ++ [(⟨p % 8, b⟩ : Need)]))), 4, 1⟩))⟩ (imp_le ⟨(lee_upd 10 _ rfl (lee_none _)), fun _ => .inl rfl⟩) ?_
    refine awp_ret ?_
    exact fret (av := .v (.bool (((decide ((moveL right ((ofL true l) ++ [(⟨p % 8, a⟩ : Need), (⟨p % 8, b⟩ : Need)])) = (moveL right ((ofL true l) ++ [(⟨p % 8, b⟩ : Need)])))) && (decide (((moveL right ((ofL true l) ++ [(⟨p % 8, a⟩ : Need), (⟨p % 8, b⟩ : Need)])).length : Int) > (p % 8)))) && (((moveL right ((ofL true l) ++ [(⟨p % 8, a⟩ : Need), (⟨p % 8, b⟩ : Need)])).getD ((p % 8).toNat) false) == b)))) rfl rfl (by rw [twice_law])

set_option maxRecDepth 10000 in
set_option maxHeartbeats 1000000 in
theorem p_wrong (p : Int) (r : Bool) (right : List Bool) (hl : right.length ≤ 4294967296) : Fn Try.prog 33 [.agg [.v (.int .i64 p), .v (.bool r)], .ro right.length (enc eB right)] (.v (.bool (hasB right p != r))) := by
  refine fnE_of_body (N := 12) Try.func33 rfl rfl (resOf1 rfl) (by simp) (fun w0 X => ?_)
  refine seqR ?_
  refine opG rfl (aop_box 51 rfl rfl rfl rfl rfl rfl rfl ?_)
  refine opG rfl (aop_move (av := .v (.bool false)) (.inr rfl) rfl rfl rfl ?_)
  refine op0 ?_
  show AWP _ _ _ _ _
  refine awp_seq ?_
  refine awp_draw (m := 7) [(11, .v (.bool ((hasB right p) != r))), (10, .v (.bool r)), (9, .pt 51 1), (8, .v (.bool (hasB right p))), (7, .v (.int .i64 p)), (6, .pt 51 0), (5, .ro right.length (enc eB right))] mixed (by kernel_rfl) ?_ ?_
  · refine ⟨?_, ?_, ?_, ?_, ?_, ?_, ?_, trivial⟩
    · exact ⟨5, rfl, blt_lt rfl, fun st hob hE => aop_move (av := .ro right.length (enc eB right)) (.inl rfl) rfl rfl (hE 1 rfl) (by rw [hob]; rfl)⟩
    · exact ⟨6, rfl, blt_lt rfl, fun st hob hE => aop_fieldAddr (av := .pt 51 0) (av' := .pt 51 0) rfl rfl rfl ft30_0 sz3 (hE 2 rfl) rfl rfl (by rw [hob]; rfl)⟩
    · exact ⟨7, rfl, blt_lt rfl, fun st hob hE => aop_ld (av := .v (.int .i64 p)) rfl rfl rfl ag3 (hE 6 rfl) (by rw [hob]; rfl) (by rw [hob]; rfl)⟩
    · exact ⟨8, rfl, blt_lt rfl, fun st hob hE => call_ (p_has right p (by first | omega | (simp; done) | decide | (simp; omega) | (simp at *; omega))) rfl rfl rfl rfl rfl bd25 (by show [st.env 5, st.env 7] ++ _ = _; rw [hE 5 rfl, hE 7 rfl]; rfl) (by rw [hob]; rfl)⟩
    · exact ⟨9, rfl, blt_lt rfl, fun st hob hE => aop_fieldAddr (av := .pt 51 0) (av' := .pt 51 1) rfl rfl rfl ft30_1 sz4 (hE 2 rfl) rfl rfl (by rw [hob]; rfl)⟩
    · exact ⟨10, rfl, blt_lt rfl, fun st hob hE => aop_ld (av := .v (.bool r)) rfl rfl rfl ag4 (hE 9 rfl) (by rw [hob]; rfl) (by rw [hob]; rfl)⟩
    · exact ⟨11, rfl, blt_lt rfl, fun st hob hE => aop_neB rfl rfl rfl (hE 8 rfl) (hE 10 rfl) ut4 (by rw [hob]; rfl)⟩
  refine opG rfl (aop_move (av := .v (.bool ((hasB right p) != r))) (.inr rfl) rfl rfl rfl ?_)
  refine op0 ?_
  show AWP _ _ _ _ _
  refine awp_ret ?_
  exact fret (av := .v (.bool ((hasB right p) != r))) rfl rfl rfl

set_option maxRecDepth 10000 in
set_option maxHeartbeats 1000000 in
theorem p_Moves1 (p : Int) (r : Bool) (right : List Bool) (hl : right.length ≤ 4294967296) : Fn Try.prog 32 [.agg [.v (.int .i64 p), .v (.bool r)], .rp [.ro right.length (enc eB right)]] (.v (.bool (!(hasB right p != r)))) := by
  refine fnE_of_body (N := 8) Try.func32 rfl rfl (resOf1 rfl) (by simp) (fun w0 X => ?_)
  refine seqR ?_
  refine opG rfl (aop_box 51 rfl rfl rfl rfl rfl rfl rfl ?_)
  refine opG rfl (aop_move (av := .v (.bool false)) (.inr rfl) rfl rfl rfl ?_)
  refine op0 ?_
  show AWP _ _ _ _ _
  refine seqR ?_
  refine opG rfl (aop_ldB (cells' := [.v (.int .i64 p), .v (.bool r)]) rfl rfl rfl ag30 sz30 rfl rfl rfl rfl ?_)
  refine opG rfl (aop_ld (av := .ro right.length (enc eB right)) rfl rfl rfl ag23 rfl rfl ?_)
  refine opG rfl (call_ (p_wrong p r right (by first | omega | (simp; done) | decide | (simp; omega) | (simp at *; omega))) rfl rfl rfl rfl rfl bd33 rfl ?_)
  refine opG rfl (aop_not rfl rfl rfl rfl ?_)
  refine opG rfl (aop_move (av := .v (.bool (!(hasB right p != r)))) (.inr rfl) rfl rfl rfl ?_)
  refine op0 ?_
  show AWP _ _ _ _ _
  refine awp_imp ⟨(upd none_ 3 (.v (.bool (!(hasB right p != r))))), (updO noOb 51 (.live ⟨[.v (.int .i64 p), .v (.bool r)], 30, 1⟩))⟩ (imp_le ⟨(lee_upd 3 _ rfl (lee_none _)), fun _ => .inl rfl⟩) ?_
  refine awp_ret ?_
  exact fret (av := .v (.bool (!(hasB right p != r)))) rfl rfl rfl

set_option maxRecDepth 10000 in
set_option maxHeartbeats 1000000 in
theorem p_Stands1 (p : Int) (r : Bool) (right : List Bool) (hl : right.length ≤ 4294967296) : Fn Try.prog 35 [.agg [.v (.int .i64 p), .v (.bool r)], .rp [.ro right.length (enc eB right)]] (.v (.bool (hasB right p != r))) := by
  refine fnE_of_body (N := 7) Try.func35 rfl rfl (resOf1 rfl) (by simp) (fun w0 X => ?_)
  refine seqR ?_
  refine opG rfl (aop_box 51 rfl rfl rfl rfl rfl rfl rfl ?_)
  refine opG rfl (aop_move (av := .v (.bool false)) (.inr rfl) rfl rfl rfl ?_)
  refine op0 ?_
  show AWP _ _ _ _ _
  refine seqR ?_
  refine opG rfl (aop_ldB (cells' := [.v (.int .i64 p), .v (.bool r)]) rfl rfl rfl ag30 sz30 rfl rfl rfl rfl ?_)
  refine opG rfl (aop_ld (av := .ro right.length (enc eB right)) rfl rfl rfl ag23 rfl rfl ?_)
  refine opG rfl (call_ (p_wrong p r right (by first | omega | (simp; done) | decide | (simp; omega) | (simp at *; omega))) rfl rfl rfl rfl rfl bd33 rfl ?_)
  refine opG rfl (aop_move (av := .v (.bool (hasB right p != r))) (.inr rfl) rfl rfl rfl ?_)
  refine op0 ?_
  show AWP _ _ _ _ _
  refine awp_imp ⟨(upd none_ 3 (.v (.bool (hasB right p != r)))), (updO noOb 51 (.live ⟨[.v (.int .i64 p), .v (.bool r)], 30, 1⟩))⟩ (imp_le ⟨(lee_upd 3 _ rfl (lee_none _)), fun _ => .inl rfl⟩) ?_
  refine awp_ret ?_
  exact fret (av := .v (.bool (hasB right p != r))) rfl rfl rfl

set_option maxRecDepth 10000 in
set_option maxHeartbeats 1000000 in
theorem ixN_del (l : List Need) (right : List Bool) (hl : l.length ≤ 4294967296) (hr : right.length ≤ 4294967296) : Fn Try.prog 39 [.ro l.length (enc eN l), .fn 32 [.rp [.ro right.length (enc eB right)]]] (.v (.int .i64 (idxB (delB right) l))) := by
  refine fnE_of_body (N := 19) Try.func39 rfl rfl (resOf1 rfl) (by simp) (fun w0 X => ?_)
  refine seqR ?_
  refine opG rfl (aop_move (av := .v (.int .i64 0)) (.inr rfl) rfl rfl rfl ?_)
  refine op0 ?_
  show AWP _ _ _ _ _
  refine awp_seq ?_
  refine seqR ?_
  refine opG rfl (aop_move (av := .ro l.length (enc eN l)) (.inl rfl) rfl rfl rfl ?_)
  refine opG rfl (aop_len rfl rfl rfl rfl ut25 (len_ro rfl) ?_)
  refine opG rfl (aop_move (av := .v (.int .i64 0)) (.inl rfl) rfl rfl rfl ?_)
  refine op0 ?_
  show AWP _ _ _ _ _
  refine awp_imp ⟨(upd (upd (upd (upd (upd none_ 0 (.ro l.length (enc eN l))) 1 (.fn 32 [.rp [.ro right.length (enc eB right)]])) 4 (.v (.int .i64 0))) 7 (.v (.int .i64 (l.length : Int)))) 8 (.v (.int .i64 0))), noOb⟩ (imp_le ⟨(lee_upd 8 _ rfl (lee_upd 7 _ rfl (lee_upd 4 _ rfl (lee_upd 1 _ rfl (lee_upd 0 _ rfl (lee_none _)))))), fun _ => .inl rfl⟩) ?_
  refine awp_block ?_
  refine awp_countI (fun k => ⟨(upd (upd (upd (upd (upd none_ 0 (.ro l.length (enc eN l))) 1 (.fn 32 [.rp [.ro right.length (enc eB right)]])) 4 (.v (.int .i64 0))) 7 (.v (.int .i64 (l.length : Int)))) 8 (.v (.int .i64 (k : Int)))), noOb⟩) (fun k => (l.take k).any (delB right) = false) (l.length) ?_ (by simp) (fun k hk_k hinv => ?_)
  · skip
    exact imp_ler [] (ler0 (sr_same 8 (.v (.int .i64 (0 : Int))) rfl NoI.out (sr_same 7 (.v (.int .i64 (l.length : Int))) rfl NoI.out (sr_same 4 (.v (.int .i64 0)) rfl NoI.out (sr_same 1 (.fn 32 [.rp [.ro right.length (enc eB right)]]) rfl NoI.out (sr_same 0 (.ro l.length (enc eN l)) rfl NoI.out sr_none)))))) (keep_of rfl)
  refine seqR ?_
  refine opG rfl (aop_binI (u := (.bool (decide ((k : Int) < (l.length : Int))))) rfl rfl rfl rfl rfl trivial rfl ?_)
  refine op0 ?_
  show AWP _ _ _ _ _
  refine awp_seq ?_
  refine awp_cond (decide ((k : Int) < (l.length : Int))) rfl rfl (fun hc0 => ?_) (fun hc0 => ?_)
  · skip
    have hf1 := of_decide_eq_true hc0
    refine awp_skip ?_
    show AWP _ _ _ _ _
    refine awp_seq ?_
    refine awp_block ?_
    refine seqR ?_
    refine opG rfl (aop_move (av := .v (.int .i64 (k : Int))) (.inl rfl) rfl rfl rfl ?_)
    refine opG rfl (aop_move (av := .v (.int .i64 (k : Int))) (.inr rfl) rfl rfl rfl ?_)
    refine op0 ?_
    show AWP _ _ _ _ _
    refine seqR ?_
    refine opG rfl (aop_move (av := .fn 32 [.rp [.ro right.length (enc eB right)]]) (.inl rfl) rfl rfl rfl ?_)
    refine opG rfl (aop_move (av := .ro l.length (enc eN l)) (.inl rfl) rfl rfl rfl ?_)
    refine opG rfl (aop_move (av := .v (.int .i64 (k : Int))) (.inl rfl) rfl rfl rfl ?_)
    refine opG rfl (aop_ixE dN rfl rfl rfl ut25 sz30 rfl rfl (fun _ => rfl) rfl (by first | omega | (simp; done) | decide | (simp; omega) | (simp at *; omega)) ?_)
    refine opG rfl (aop_ldB (cells' := [.v (.int .i64 ((l.getD k dN).point)), .v (.bool ((l.getD k dN).right))]) rfl rfl rfl ag30 sz30 rfl rfl rfl rfl ?_)
    refine opG rfl (call_ (p_Moves1 ((l.getD k dN).point) ((l.getD k dN).right) right (by first | omega | (simp; done) | decide | (simp; omega) | (simp at *; omega))) rfl rfl rfl rfl rfl bd32 rfl ?_)
    refine op0 ?_
    show AWP _ _ _ _ _
    refine awp_imp ⟨(upd (upd (upd (upd (upd (upd (upd none_ 0 (.ro l.length (enc eN l))) 1 (.fn 32 [.rp [.ro right.length (enc eB right)]])) 4 (.v (.int .i64 0))) 5 (.v (.int .i64 (k : Int)))) 7 (.v (.int .i64 (l.length : Int)))) 8 (.v (.int .i64 (k : Int)))) 16 (.v (.bool (!(hasB right ((l.getD k dN).point) != ((l.getD k dN).right)))))), noOb⟩ (imp_le ⟨(lee_upd 16 _ rfl (lee_upd 8 _ rfl (lee_upd 7 _ rfl (lee_upd 5 _ rfl (lee_upd 4 _ rfl (lee_upd 1 _ rfl (lee_upd 0 _ rfl (lee_none _)))))))), fun _ => .inl rfl⟩) ?_
    refine awp_cond (!(hasB right ((l.getD k dN).point) != ((l.getD k dN).right))) rfl rfl (fun hc1 => ?_) (fun hc1 => ?_)
    · skip
      refine seqR ?_
      refine opG rfl (aop_move (av := .v (.int .i64 (k : Int))) (.inl rfl) rfl rfl rfl ?_)
      refine opG rfl (aop_move (av := .v (.int .i64 (k : Int))) (.inr rfl) rfl rfl rfl ?_)
      refine op0 ?_
      show AWP _ _ _ _ _
      refine awp_ret ?_
      exact fret (av := .v (.int .i64 (k : Int))) rfl rfl (by rw [idxB_stop (f := delB right) dN (by omega) hinv hc1] <;> rfl)
    · skip
      refine awp_skip ?_
      show AWP _ _ _ _ _
      refine regR ?_
      refine opG rfl (aop_binI (u := (.int .i64 ((k + 1 : Nat) : Int))) rfl rfl rfl rfl rfl trivial (addN (by omega)) ?_)
      refine opG rfl (aop_move (av := .v (.int .i64 ((k + 1 : Nat) : Int))) (.inl rfl) rfl rfl rfl ?_)
      refine op0 ?_
      show _ ∧ _
      refine ⟨by omega, (any_step dN (by omega) hinv hc1), ?_⟩
      exact imp_ler [] (ler0 (sr_same 8 (.v (.int .i64 ((k + 1) : Int))) rfl NoI.out (sr_same 7 (.v (.int .i64 (l.length : Int))) rfl NoI.out (sr_same 4 (.v (.int .i64 0)) rfl NoI.out (sr_same 1 (.fn 32 [.rp [.ro right.length (enc eB right)]]) rfl NoI.out (sr_same 0 (.ro l.length (enc eN l)) rfl NoI.out sr_none)))))) (keep_of rfl)
  · skip
    have hf2 := of_decide_eq_false hc0
    refine awp_exit ?_
    show AWP _ _ _ _ _
    refine seqR ?_
    refine opG rfl (aop_move (av := .v (.int .i64 (-1))) (.inr rfl) rfl rfl rfl ?_)
    refine op0 ?_
    show AWP _ _ _ _ _
    refine awp_ret ?_
    exact fret (av := .v (.int .i64 (-1))) rfl rfl (by rw [idxB_end (f := delB right) (by omega) hinv] <;> rfl)

set_option maxRecDepth 10000 in
set_option maxHeartbeats 1000000 in
theorem ixN_wr (l : List Need) (right : List Bool) (hl : l.length ≤ 4294967296) (hr : right.length ≤ 4294967296) : Fn Try.prog 39 [.ro l.length (enc eN l), .fn 35 [.rp [.ro right.length (enc eB right)]]] (.v (.int .i64 (idxB (wrB right) l))) := by
  refine fnE_of_body (N := 19) Try.func39 rfl rfl (resOf1 rfl) (by simp) (fun w0 X => ?_)
  refine seqR ?_
  refine opG rfl (aop_move (av := .v (.int .i64 0)) (.inr rfl) rfl rfl rfl ?_)
  refine op0 ?_
  show AWP _ _ _ _ _
  refine awp_seq ?_
  refine seqR ?_
  refine opG rfl (aop_move (av := .ro l.length (enc eN l)) (.inl rfl) rfl rfl rfl ?_)
  refine opG rfl (aop_len rfl rfl rfl rfl ut25 (len_ro rfl) ?_)
  refine opG rfl (aop_move (av := .v (.int .i64 0)) (.inl rfl) rfl rfl rfl ?_)
  refine op0 ?_
  show AWP _ _ _ _ _
  refine awp_imp ⟨(upd (upd (upd (upd (upd none_ 0 (.ro l.length (enc eN l))) 1 (.fn 35 [.rp [.ro right.length (enc eB right)]])) 4 (.v (.int .i64 0))) 7 (.v (.int .i64 (l.length : Int)))) 8 (.v (.int .i64 0))), noOb⟩ (imp_le ⟨(lee_upd 8 _ rfl (lee_upd 7 _ rfl (lee_upd 4 _ rfl (lee_upd 1 _ rfl (lee_upd 0 _ rfl (lee_none _)))))), fun _ => .inl rfl⟩) ?_
  refine awp_block ?_
  refine awp_countI (fun k => ⟨(upd (upd (upd (upd (upd none_ 0 (.ro l.length (enc eN l))) 1 (.fn 35 [.rp [.ro right.length (enc eB right)]])) 4 (.v (.int .i64 0))) 7 (.v (.int .i64 (l.length : Int)))) 8 (.v (.int .i64 (k : Int)))), noOb⟩) (fun k => (l.take k).any (wrB right) = false) (l.length) ?_ (by simp) (fun k hk_k hinv => ?_)
  · skip
    exact imp_ler [] (ler0 (sr_same 8 (.v (.int .i64 (0 : Int))) rfl NoI.out (sr_same 7 (.v (.int .i64 (l.length : Int))) rfl NoI.out (sr_same 4 (.v (.int .i64 0)) rfl NoI.out (sr_same 1 (.fn 35 [.rp [.ro right.length (enc eB right)]]) rfl NoI.out (sr_same 0 (.ro l.length (enc eN l)) rfl NoI.out sr_none)))))) (keep_of rfl)
  refine seqR ?_
  refine opG rfl (aop_binI (u := (.bool (decide ((k : Int) < (l.length : Int))))) rfl rfl rfl rfl rfl trivial rfl ?_)
  refine op0 ?_
  show AWP _ _ _ _ _
  refine awp_seq ?_
  refine awp_cond (decide ((k : Int) < (l.length : Int))) rfl rfl (fun hc0 => ?_) (fun hc0 => ?_)
  · skip
    have hf1 := of_decide_eq_true hc0
    refine awp_skip ?_
    show AWP _ _ _ _ _
    refine awp_seq ?_
    refine awp_block ?_
    refine seqR ?_
    refine opG rfl (aop_move (av := .v (.int .i64 (k : Int))) (.inl rfl) rfl rfl rfl ?_)
    refine opG rfl (aop_move (av := .v (.int .i64 (k : Int))) (.inr rfl) rfl rfl rfl ?_)
    refine op0 ?_
    show AWP _ _ _ _ _
    refine seqR ?_
    refine opG rfl (aop_move (av := .fn 35 [.rp [.ro right.length (enc eB right)]]) (.inl rfl) rfl rfl rfl ?_)
    refine opG rfl (aop_move (av := .ro l.length (enc eN l)) (.inl rfl) rfl rfl rfl ?_)
    refine opG rfl (aop_move (av := .v (.int .i64 (k : Int))) (.inl rfl) rfl rfl rfl ?_)
    refine opG rfl (aop_ixE dN rfl rfl rfl ut25 sz30 rfl rfl (fun _ => rfl) rfl (by first | omega | (simp; done) | decide | (simp; omega) | (simp at *; omega)) ?_)
    refine opG rfl (aop_ldB (cells' := [.v (.int .i64 ((l.getD k dN).point)), .v (.bool ((l.getD k dN).right))]) rfl rfl rfl ag30 sz30 rfl rfl rfl rfl ?_)
    refine opG rfl (call_ (p_Stands1 ((l.getD k dN).point) ((l.getD k dN).right) right (by first | omega | (simp; done) | decide | (simp; omega) | (simp at *; omega))) rfl rfl rfl rfl rfl bd35 rfl ?_)
    refine op0 ?_
    show AWP _ _ _ _ _
    refine awp_imp ⟨(upd (upd (upd (upd (upd (upd (upd none_ 0 (.ro l.length (enc eN l))) 1 (.fn 35 [.rp [.ro right.length (enc eB right)]])) 4 (.v (.int .i64 0))) 5 (.v (.int .i64 (k : Int)))) 7 (.v (.int .i64 (l.length : Int)))) 8 (.v (.int .i64 (k : Int)))) 16 (.v (.bool (hasB right ((l.getD k dN).point) != ((l.getD k dN).right))))), noOb⟩ (imp_le ⟨(lee_upd 16 _ rfl (lee_upd 8 _ rfl (lee_upd 7 _ rfl (lee_upd 5 _ rfl (lee_upd 4 _ rfl (lee_upd 1 _ rfl (lee_upd 0 _ rfl (lee_none _)))))))), fun _ => .inl rfl⟩) ?_
    refine awp_cond (hasB right ((l.getD k dN).point) != ((l.getD k dN).right)) rfl rfl (fun hc1 => ?_) (fun hc1 => ?_)
    · skip
      refine seqR ?_
      refine opG rfl (aop_move (av := .v (.int .i64 (k : Int))) (.inl rfl) rfl rfl rfl ?_)
      refine opG rfl (aop_move (av := .v (.int .i64 (k : Int))) (.inr rfl) rfl rfl rfl ?_)
      refine op0 ?_
      show AWP _ _ _ _ _
      refine awp_ret ?_
      exact fret (av := .v (.int .i64 (k : Int))) rfl rfl (by rw [idxB_stop (f := wrB right) dN (by omega) hinv hc1] <;> rfl)
    · skip
      refine awp_skip ?_
      show AWP _ _ _ _ _
      refine regR ?_
      refine opG rfl (aop_binI (u := (.int .i64 ((k + 1 : Nat) : Int))) rfl rfl rfl rfl rfl trivial (addN (by omega)) ?_)
      refine opG rfl (aop_move (av := .v (.int .i64 ((k + 1 : Nat) : Int))) (.inl rfl) rfl rfl rfl ?_)
      refine op0 ?_
      show _ ∧ _
      refine ⟨by omega, (any_step dN (by omega) hinv hc1), ?_⟩
      exact imp_ler [] (ler0 (sr_same 8 (.v (.int .i64 ((k + 1) : Int))) rfl NoI.out (sr_same 7 (.v (.int .i64 (l.length : Int))) rfl NoI.out (sr_same 4 (.v (.int .i64 0)) rfl NoI.out (sr_same 1 (.fn 35 [.rp [.ro right.length (enc eB right)]]) rfl NoI.out (sr_same 0 (.ro l.length (enc eN l)) rfl NoI.out sr_none)))))) (keep_of rfl)
  · skip
    have hf2 := of_decide_eq_false hc0
    refine awp_exit ?_
    show AWP _ _ _ _ _
    refine seqR ?_
    refine opG rfl (aop_move (av := .v (.int .i64 (-1))) (.inr rfl) rfl rfl rfl ?_)
    refine op0 ?_
    show AWP _ _ _ _ _
    refine awp_ret ?_
    exact fret (av := .v (.int .i64 (-1))) rfl rfl (by rw [idxB_end (f := wrB right) (by omega) hinv] <;> rfl)

set_option maxRecDepth 10000 in
set_option maxHeartbeats 1000000 in
theorem coN_wr (l : List Need) (right : List Bool) (hl : l.length ≤ 4294967296) (hr : right.length ≤ 4294967296) : Fn Try.prog 34 [.ro l.length (enc eN l), .fn 35 [.rp [.ro right.length (enc eB right)]]] (.v (.bool (l.any (wrB right)))) := by
  refine fnE_of_body (N := 9) Try.func34 rfl rfl (resOf1 rfl) (by simp) (fun w0 X => ?_)
  refine seqR ?_
  refine opG rfl (aop_move (av := .v (.bool false)) (.inr rfl) rfl rfl rfl ?_)
  refine op0 ?_
  show AWP _ _ _ _ _
  refine seqR ?_
  refine opG rfl (aop_move (av := .ro l.length (enc eN l)) (.inl rfl) rfl rfl rfl ?_)
  refine opG rfl (aop_move (av := .fn 35 [.rp [.ro right.length (enc eB right)]]) (.inl rfl) rfl rfl rfl ?_)
  refine opG rfl (call_ (ixN_wr l right (by first | omega | (simp; done) | decide | (simp; omega) | (simp at *; omega)) (by first | omega | (simp; done) | decide | (simp; omega) | (simp at *; omega))) rfl rfl rfl rfl rfl bd39 rfl ?_)
  refine opG rfl (aop_binI (u := (.bool (decide ((idxB (wrB right) l) ≥ 0)))) rfl rfl rfl rfl rfl trivial rfl ?_)
  refine opG rfl (aop_move (av := .v (.bool (decide ((idxB (wrB right) l) ≥ 0)))) (.inr rfl) rfl rfl rfl ?_)
  refine op0 ?_
  show AWP _ _ _ _ _
  refine awp_imp ⟨(upd none_ 4 (.v (.bool (decide ((idxB (wrB right) l) ≥ 0))))), noOb⟩ (imp_le ⟨(lee_upd 4 _ rfl (lee_none _)), fun _ => .inl rfl⟩) ?_
  refine awp_ret ?_
  exact fret (av := .v (.bool (decide ((idxB (wrB right) l) ≥ 0)))) rfl rfl (by rw [idxB_any dN] <;> rfl)

set_option maxRecDepth 10000 in
set_option maxHeartbeats 1000000 in
theorem p_Stands (needs : List Need) (right : List Bool) (hl : needs.length ≤ 4294967296) (hr : right.length ≤ 4294967296) : Fn Try.prog 20 [.ro needs.length (enc eN needs), .ro right.length (enc eB right)] (.v (.bool (!(needs.any (wrB right))))) := by
  refine fnE_of_body (N := 9) Try.func20 rfl rfl (resOf1 rfl) (by simp) (fun w0 X => ?_)
  refine seqR ?_
  refine opG rfl (aop_box 51 rfl rfl rfl rfl rfl rfl rfl ?_)
  refine opG rfl (aop_move (av := .v (.bool false)) (.inr rfl) rfl rfl rfl ?_)
  refine op0 ?_
  show AWP _ _ _ _ _
  refine seqR ?_
  refine opG rfl (aop_move (av := .ro needs.length (enc eN needs)) (.inl rfl) rfl rfl rfl ?_)
  refine opG rfl (aop_makeFunc (caps := [.tmp 3]) rfl rfl rfl rfl ?_)
  refine opG rfl (callL_ (coN_wr needs right (by first | omega | (simp; done) | decide | (simp; omega) | (simp at *; omega)) (by first | omega | (simp; done) | decide | (simp; omega) | (simp at *; omega))) rfl rfl rfl rfl rfl bd34 (lends_cons (lend_n (av := .ro needs.length (enc eN needs))) (lends_cons (lend_fn (lends_cons (lend_pt rfl (lends_cons (lend_n (av := .ro right.length (enc eB right))) lends_nil)) lends_nil)) lends_nil)) ?_)
  refine opG rfl (aop_not rfl rfl rfl rfl ?_)
  refine opG rfl (aop_move (av := .v (.bool (!(needs.any (wrB right))))) (.inr rfl) rfl rfl rfl ?_)
  refine op0 ?_
  show AWP _ _ _ _ _
  refine awp_imp ⟨(upd none_ 4 (.v (.bool (!(needs.any (wrB right)))))), (updO noOb 51 (.live ⟨[.ro right.length (enc eB right)], 23, 1⟩))⟩ (imp_le ⟨(lee_upd 4 _ rfl (lee_none _)), fun _ => .inl rfl⟩) ?_
  refine awp_ret ?_
  exact fret (av := .v (.bool (!(needs.any (wrB right))))) rfl rfl rfl

set_option maxRecDepth 10000 in
set_option maxHeartbeats 1000000 in
theorem r14_Moves (needs : List Need) (right : List Bool) (hl : needs.length ≤ 4294967296) (hr : right.length ≤ 4294967296) : FnO Try.prog 19 [.ro needs.length (enc eN needs), .ro right.length (enc eB right)] (.sl 0 0 ((movesL needs right).length)) [⟨(enc eN (movesL needs right)), 31, 2⟩] := by
  refine fnE_of_body (N := 34) Try.func19 rfl rfl (resOf1 rfl) (by simp) (fun w0 X => ?_)
  refine seqR ?_
  refine opG rfl (aop_move (av := .v (.slice none 0 0)) (.inr rfl) rfl rfl rfl ?_)
  refine op0 ?_
  show AWP _ _ _ _ _
  refine seqR ?_
  refine opG rfl (aop_move (av := .v (.slice none 0 0)) (.inr rfl) rfl rfl rfl ?_)
  refine op0 ?_
  show AWP _ _ _ _ _
  refine awp_seq ?_
  refine seqR ?_
  refine opG rfl (aop_move (av := .v (.int .i64 0)) (.inr rfl) rfl rfl rfl ?_)
  refine op0 ?_
  show AWP _ _ _ _ _
  refine awp_block ?_
  refine awp_countI (fun k => ⟨(upd (upd (upd (upd (upd none_ 0 (.ro needs.length (enc eN needs))) 1 (.ro right.length (enc eB right))) 4 (.v (.slice none 0 0))) 5 (.sl 1 0 ((movesL (needs.take k) right).length))) 6 (.v (.int .i64 (k : Int)))), (updO noOb 1 (.live ⟨(enc eN (movesL (needs.take k) right)), 31, 2⟩))⟩) (fun k => True) (needs.length) ?_ trivial (fun k hk_k hinv => ?_)
  · skip
    refine (imp_adopt 5 51 31 2 rfl rfl).trans ?_
    exact imp_ler [(51, 1)] (ler1 51 1 _ _ rfl rfl (NoIL.out (l := [])) (sr_same 6 (.v (.int .i64 (0 : Int))) rfl NoI.out (sr_map 5 (.sl 1 0 ((movesL (needs.take 0) right).length)) (by first | exact Ok.sl _ _ _ (by simp) | exact Ok.pt _ _ (by simp)) rfl (sr_same 4 (.v (.slice none 0 0)) rfl NoI.out (sr_same 1 (.ro right.length (enc eB right)) rfl NoI.out (sr_same 0 (.ro needs.length (enc eN needs)) rfl NoI.out sr_none)))))) (keep_of rfl)
  have hml := movesL_len (needs.take k) right
  have htk : (needs.take k).length ≤ needs.length := by simp; omega
  refine awp_seq ?_
  refine seqR ?_
  refine opG rfl (aop_move (av := .v (.int .i64 (k : Int))) (.inl rfl) rfl rfl rfl ?_)
  refine opG rfl (aop_move (av := .ro needs.length (enc eN needs)) (.inl rfl) rfl rfl rfl ?_)
  refine opG rfl (aop_len rfl rfl rfl rfl ut26 (len_ro rfl) ?_)
  refine opG rfl (aop_binI (u := (.bool (decide ((k : Int) < (needs.length : Int))))) rfl rfl rfl rfl rfl trivial rfl ?_)
  refine op0 ?_
  show AWP _ _ _ _ _
  refine awp_imp ⟨(upd (upd (upd (upd (upd (upd none_ 0 (.ro needs.length (enc eN needs))) 1 (.ro right.length (enc eB right))) 4 (.v (.slice none 0 0))) 5 (.sl 1 0 ((movesL (needs.take k) right).length))) 6 (.v (.int .i64 (k : Int)))) 10 (.v (.bool (decide ((k : Int) < (needs.length : Int)))))), (updO noOb 1 (.live ⟨(enc eN (movesL (needs.take k) right)), 31, 2⟩))⟩ (imp_le ⟨(lee_upd 10 _ rfl (lee_upd 6 _ rfl (lee_upd 5 _ rfl (lee_upd 4 _ rfl (lee_upd 1 _ rfl (lee_upd 0 _ rfl (lee_none _))))))), fun _ => .inl rfl⟩) ?_
  refine awp_cond (decide ((k : Int) < (needs.length : Int))) rfl rfl (fun hc0 => ?_) (fun hc0 => ?_)
  · skip
    have hf1 := of_decide_eq_true hc0
    refine awp_skip ?_
    show AWP _ _ _ _ _
    refine awp_seq ?_
    refine awp_block ?_
    refine awp_seq ?_
    refine awp_draw (m := 13) [(25, .v (.bool ((hasB right ((needs.getD k dN).point)) != ((needs.getD k dN).right)))), (24, .v (.bool ((needs.getD k dN).right))), (23, .rp (([.v (.bool ((needs.getD k dN).right))] : List AV) ++ ((enc eN needs).drop ((k + 1) * 2)))), (22, .rp (([.v (.int .i64 ((needs.getD k dN).point)), .v (.bool ((needs.getD k dN).right))] : List AV) ++ ((enc eN needs).drop ((k + 1) * 2)))), (21, .v (.int .i64 (k : Int))), (20, .ro needs.length (enc eN needs)), (19, .v (.bool (hasB right ((needs.getD k dN).point)))), (18, .v (.int .i64 ((needs.getD k dN).point))), (17, .rp (([.v (.int .i64 ((needs.getD k dN).point)), .v (.bool ((needs.getD k dN).right))] : List AV) ++ ((enc eN needs).drop ((k + 1) * 2)))), (16, .rp (([.v (.int .i64 ((needs.getD k dN).point)), .v (.bool ((needs.getD k dN).right))] : List AV) ++ ((enc eN needs).drop ((k + 1) * 2)))), (15, .v (.int .i64 (k : Int))), (14, .ro needs.length (enc eN needs)), (13, .ro right.length (enc eB right))] mixed (by kernel_rfl) ?_ ?_
    · refine ⟨?_, ?_, ?_, ?_, ?_, ?_, ?_, ?_, ?_, ?_, ?_, ?_, ?_, trivial⟩
      · exact ⟨13, rfl, blt_lt rfl, fun st hob hE => aop_move (av := .ro right.length (enc eB right)) (.inl rfl) rfl rfl (hE 1 rfl) (by rw [hob]; rfl)⟩
      · exact ⟨14, rfl, blt_lt rfl, fun st hob hE => aop_move (av := .ro needs.length (enc eN needs)) (.inl rfl) rfl rfl (hE 0 rfl) (by rw [hob]; rfl)⟩
      · exact ⟨15, rfl, blt_lt rfl, fun st hob hE => aop_move (av := .v (.int .i64 (k : Int))) (.inl rfl) rfl rfl (hE 6 rfl) (by rw [hob]; rfl)⟩
      · exact ⟨16, rfl, blt_lt rfl, fun st hob hE => aop_ixE dN rfl rfl rfl ut26 sz31 (hE 14 rfl) (hE 15 rfl) (fun _ => rfl) rfl (by first | omega | (simp; done) | decide | (simp; omega) | (simp at *; omega)) (by rw [hob]; rfl)⟩
      · exact ⟨17, rfl, blt_lt rfl, fun st hob hE => aop_fieldAddr (av := .rp (([.v (.int .i64 ((needs.getD k dN).point)), .v (.bool ((needs.getD k dN).right))] : List AV) ++ ((enc eN needs).drop ((k + 1) * 2)))) (av' := .rp (([.v (.int .i64 ((needs.getD k dN).point)), .v (.bool ((needs.getD k dN).right))] : List AV) ++ ((enc eN needs).drop ((k + 1) * 2)))) rfl rfl rfl ft31_0 sz3 (hE 16 rfl) rfl rfl (by rw [hob]; rfl)⟩
      · exact ⟨18, rfl, blt_lt rfl, fun st hob hE => aop_ld (av := .v (.int .i64 ((needs.getD k dN).point))) rfl rfl rfl ag3 (hE 17 rfl) rfl (by rw [hob]; rfl)⟩
      · exact ⟨19, rfl, blt_lt rfl, fun st hob hE => call_ (r14_stands right ((needs.getD k dN).point) (by first | omega | (simp; done) | decide | (simp; omega) | (simp at *; omega))) rfl rfl rfl rfl rfl bd22 (by show [st.env 13, st.env 18] ++ _ = _; rw [hE 13 rfl, hE 18 rfl]; rfl) (by rw [hob]; rfl)⟩
      · exact ⟨20, rfl, blt_lt rfl, fun st hob hE => aop_move (av := .ro needs.length (enc eN needs)) (.inl rfl) rfl rfl (hE 0 rfl) (by rw [hob]; rfl)⟩
      · exact ⟨21, rfl, blt_lt rfl, fun st hob hE => aop_move (av := .v (.int .i64 (k : Int))) (.inl rfl) rfl rfl (hE 6 rfl) (by rw [hob]; rfl)⟩
      · exact ⟨22, rfl, blt_lt rfl, fun st hob hE => aop_ixE dN rfl rfl rfl ut26 sz31 (hE 20 rfl) (hE 21 rfl) (fun _ => rfl) rfl (by first | omega | (simp; done) | decide | (simp; omega) | (simp at *; omega)) (by rw [hob]; rfl)⟩
      · exact ⟨23, rfl, blt_lt rfl, fun st hob hE => aop_fieldAddr (av := .rp (([.v (.int .i64 ((needs.getD k dN).point)), .v (.bool ((needs.getD k dN).right))] : List AV) ++ ((enc eN needs).drop ((k + 1) * 2)))) (av' := .rp (([.v (.bool ((needs.getD k dN).right))] : List AV) ++ ((enc eN needs).drop ((k + 1) * 2)))) rfl rfl rfl ft31_1 sz4 (hE 22 rfl) rfl rfl (by rw [hob]; rfl)⟩
      · exact ⟨24, rfl, blt_lt rfl, fun st hob hE => aop_ld (av := .v (.bool ((needs.getD k dN).right))) rfl rfl rfl ag4 (hE 23 rfl) rfl (by rw [hob]; rfl)⟩
      · exact ⟨25, rfl, blt_lt rfl, fun st hob hE => aop_neB rfl rfl rfl (hE 19 rfl) (hE 24 rfl) ut4 (by rw [hob]; rfl)⟩
    refine op0 ?_
    show AWP _ _ _ _ _
    refine awp_cond ((hasB right ((needs.getD k dN).point)) != ((needs.getD k dN).right)) rfl rfl (fun hc1 => ?_) (fun hc1 => ?_)
    · skip
      refine regR ?_
      refine opG rfl (aop_move (av := .sl 1 0 ((movesL (needs.take k) right).length)) (.inl rfl) rfl rfl rfl ?_)
      refine opG rfl (aop_move (av := .ro needs.length (enc eN needs)) (.inl rfl) rfl rfl rfl ?_)
      refine opG rfl (aop_move (av := .v (.int .i64 (k : Int))) (.inl rfl) rfl rfl rfl ?_)
      refine opG rfl (aop_ixE dN rfl rfl rfl ut26 sz31 rfl rfl (fun _ => rfl) rfl (by first | omega | (simp; done) | decide | (simp; omega) | (simp at *; omega)) ?_)
      refine opG rfl (aop_ldB (cells' := [.v (.int .i64 ((needs.getD k dN).point)), .v (.bool ((needs.getD k dN).right))]) rfl rfl rfl ag31 sz31 rfl rfl rfl rfl ?_)
      refine opG rfl (aop_lit rfl rfl rfl ut26 iz31 (by decide) (by decide) rfl rfl ?_)
      refine opG rfl (aop_app1 (f := eN) (l := movesL (needs.take k) right) 52 (⟨(needs.getD k dN).point, (needs.getD k dN).right⟩ : Need) rfl rfl rfl rfl ut26 in31 rfl (by decide) rfl rfl rfl rfl rfl rfl (fun _ => rfl) rfl rfl (by first | omega | (simp; done) | decide | (simp; omega) | (simp at *; omega)) (by first | omega | (simp; done) | decide | (simp; omega) | (simp at *; omega)) rfl ?_)
      refine opG rfl (aop_move (av := .sl 52 0 (((movesL (needs.take k) right) ++ [(⟨(needs.getD k dN).point, (needs.getD k dN).right⟩ : Need)]).length)) (.inr rfl) rfl rfl rfl ?_)
      refine op0 ?_
      show AWP _ _ _ _ _
      refine awp_imp ⟨(upd (upd (upd (upd (upd none_ 0 (.ro needs.length (enc eN needs))) 1 (.ro right.length (enc eB right))) 4 (.v (.slice none 0 0))) 5 (.sl 52 0 (((movesL (needs.take k) right) ++ [(⟨(needs.getD k dN).point, (needs.getD k dN).right⟩ : Need)]).length))) 6 (.v (.int .i64 (k : Int)))), (updO (updO (updO noOb 1 (.live ⟨(enc eN (movesL (needs.take k) right)), 31, 2⟩)) 1 .dead) 52 (.live ⟨(enc eN ((movesL (needs.take k) right) ++ [(⟨(needs.getD k dN).point, (needs.getD k dN).right⟩ : Need)])), 31, 2⟩))⟩ (imp_le ⟨(lee_upd 6 _ rfl (lee_upd 5 _ rfl (lee_upd 4 _ rfl (lee_upd 1 _ rfl (lee_upd 0 _ rfl (lee_none _)))))), fun _ => .inl rfl⟩) ?_
      refine regR ?_
      refine opG rfl (aop_move (av := .v (.int .i64 (k : Int))) (.inl rfl) rfl rfl rfl ?_)
      refine opG rfl (aop_binI (u := (.int .i64 ((k + 1 : Nat) : Int))) rfl rfl rfl rfl rfl trivial (addN (by omega)) ?_)
      refine opG rfl (aop_move (av := .v (.int .i64 ((k + 1 : Nat) : Int))) (.inr rfl) rfl rfl rfl ?_)
      refine op0 ?_
      show _ ∧ _
      have hs := movesL_on (needs := needs) (right := right) (k := k) (by omega) hc1
      refine ⟨by omega, trivial, ?_⟩
      exact imp_ler [(52, 1)] (ler1 52 1 _ _ rfl (by exact congrArg (fun l_ => LObj.mk (enc eN l_) 31 2) hs.symm) (NoIL.out (l := (enc eN ((movesL (needs.take k) right) ++ [(⟨(needs.getD k dN).point, (needs.getD k dN).right⟩ : Need)])))) (sr_same 6 (.v (.int .i64 ((k + 1) : Int))) rfl NoI.out (sr_map 5 (.sl 1 0 ((movesL (needs.take (k + 1)) right).length)) (by first | exact Ok.sl _ _ _ (by simp) | exact Ok.pt _ _ (by simp)) (by exact congrArg (AV.sl 1 0) (congrArg List.length hs)) (sr_same 4 (.v (.slice none 0 0)) rfl NoI.out (sr_same 1 (.ro right.length (enc eB right)) rfl NoI.out (sr_same 0 (.ro needs.length (enc eN needs)) rfl NoI.out sr_none)))))) (keep_of rfl)
    · skip
      refine awp_skip ?_
      show AWP _ _ _ _ _
      refine regR ?_
      refine opG rfl (aop_move (av := .v (.int .i64 (k : Int))) (.inl rfl) rfl rfl rfl ?_)
      refine opG rfl (aop_binI (u := (.int .i64 ((k + 1 : Nat) : Int))) rfl rfl rfl rfl rfl trivial (addN (by omega)) ?_)
      refine opG rfl (aop_move (av := .v (.int .i64 ((k + 1 : Nat) : Int))) (.inr rfl) rfl rfl rfl ?_)
      refine op0 ?_
      show _ ∧ _
      have hs := movesL_off (needs := needs) (right := right) (k := k) (by omega) hc1
      refine ⟨by omega, trivial, ?_⟩
      exact imp_ler [(1, 1)] (ler1 1 1 _ _ rfl (by exact congrArg (fun l_ => LObj.mk (enc eN l_) 31 2) hs.symm) (NoIL.out (l := (enc eN (movesL (needs.take k) right)))) (sr_same 6 (.v (.int .i64 ((k + 1) : Int))) rfl NoI.out (sr_map 5 (.sl 1 0 ((movesL (needs.take (k + 1)) right).length)) (by first | exact Ok.sl _ _ _ (by simp) | exact Ok.pt _ _ (by simp)) (by exact congrArg (AV.sl 1 0) (congrArg List.length hs)) (sr_same 4 (.v (.slice none 0 0)) rfl NoI.out (sr_same 1 (.ro right.length (enc eB right)) rfl NoI.out (sr_same 0 (.ro needs.length (enc eN needs)) rfl NoI.out sr_none)))))) (keep_of rfl)
  · skip
    have hf2 := of_decide_eq_false hc0
    refine awp_exit ?_
    show AWP _ _ _ _ _
    refine seqR ?_
    refine opG rfl (aop_move (av := .sl 1 0 ((movesL (needs.take k) right).length)) (.inl rfl) rfl rfl rfl ?_)
    refine opG rfl (aop_move (av := .sl 1 0 ((movesL (needs.take k) right).length)) (.inr rfl) rfl rfl rfl ?_)
    refine op0 ?_
    show AWP _ _ _ _ _
    refine awp_ret ?_
    have he : movesL (needs.take k) right = movesL needs right := by rw [List.take_of_length_le (by omega)]
    exact fretO 1 rfl rfl rfl (congrArg List.length he) (congrArg (fun l_ => LObj.mk (enc eN l_) 31 2) he)

set_option maxRecDepth 10000 in
set_option maxHeartbeats 1000000 in
theorem delN (l : List Need) (right : List Bool) (hl : l.length ≤ 4294967296) (hr : right.length ≤ 4294967296) : FnGO Try.prog 30 [⟨(enc eN l), 30, 2⟩] [.sl 0 0 l.length, .fn 32 [.rp [.ro right.length (enc eB right)]]] (.sl 0 0 ((movesL l right).length)) [.live ⟨(enc eN (movesL l right ++ List.replicate (l.length - (movesL l right).length) dN)), 30, 2⟩] := by
  refine fnG_of_body (N := 42) 1 rfl Try.func30 rfl rfl (resOf1 rfl) (by simp) (fun w0 G C => ?_)
  refine seqR ?_
  refine opG rfl (aop_move (av := .v (.slice none 0 0)) (.inr rfl) rfl rfl rfl ?_)
  refine op0 ?_
  show AWP _ _ _ _ _
  refine seqR ?_
  refine opG rfl (aop_move (av := .sl 0 0 l.length) (.inl rfl) rfl rfl rfl ?_)
  refine opG rfl (aop_move (av := .fn 32 [.rp [.ro right.length (enc eB right)]]) (.inl rfl) rfl rfl rfl ?_)
  refine opG rfl (callL_ (ixN_del l right (by first | omega | (simp; done) | decide | (simp; omega) | (simp at *; omega)) (by first | omega | (simp; done) | decide | (simp; omega) | (simp at *; omega))) rfl rfl rfl rfl rfl bd39 (lends_cons (lend_s (id := 0) (n := l.length) (o := ⟨(enc eN l), 30, 2⟩) rfl (enc_len (fun _ => rfl) rfl)) (lends_cons (lend_n (av := .fn 32 [.rp [.ro right.length (enc eB right)]])) lends_nil)) ?_)
  refine opG rfl (aop_move (av := .v (.int .i64 (idxB (delB right) l))) (.inr rfl) rfl rfl rfl ?_)
  refine op0 ?_
  show AWP _ _ _ _ _
  refine awp_imp ⟨(upd (upd (upd (upd none_ 0 (.sl 0 0 l.length)) 1 (.fn 32 [.rp [.ro right.length (enc eB right)]])) 4 (.v (.slice none 0 0))) 5 (.v (.int .i64 (idxB (delB right) l)))), (updO noOb 0 (.live ⟨(enc eN l), 30, 2⟩))⟩ (imp_le ⟨(lee_upd 5 _ rfl (lee_upd 4 _ rfl (lee_upd 1 _ rfl (lee_upd 0 _ rfl (lee_none _))))), fun _ => .inl rfl⟩) ?_
  refine awp_seq ?_
  refine seqR ?_
  refine opG rfl (aop_move (av := .v (.int .i64 (idxB (delB right) l))) (.inl rfl) rfl rfl rfl ?_)
  refine opG rfl (aop_binI (u := (.bool ((idxB (delB right) l) == (-1)))) rfl rfl rfl rfl rfl trivial rfl ?_)
  refine op0 ?_
  show AWP _ _ _ _ _
  refine awp_cond ((idxB (delB right) l) == (-1)) rfl rfl (fun hc0 => ?_) (fun hc0 => ?_)
  · skip
    have hf1 := (beq_iff_eq).1 hc0
    have hn0 : l.any (delB right) = false := by
      cases ha : l.any (delB right) with
      | false => rfl
      | true => obtain ⟨k, h1, h2, h3⟩ := any_first dN l ha; rw [idxB_stop dN h1 h2 h3] at hf1; omega
    have hm0 := movesL_none hn0
    refine seqR ?_
    refine opG rfl (aop_move (av := .sl 0 0 l.length) (.inl rfl) rfl rfl rfl ?_)
    refine opG rfl (aop_move (av := .sl 0 0 l.length) (.inr rfl) rfl rfl rfl ?_)
    refine op0 ?_
    show AWP _ _ _ _ _
    refine awp_imp ⟨(upd (upd (upd (upd none_ 0 (.sl 0 0 l.length)) 1 (.fn 32 [.rp [.ro right.length (enc eB right)]])) 4 (.sl 0 0 l.length)) 5 (.v (.int .i64 (idxB (delB right) l)))), (updO noOb 0 (.live ⟨(enc eN l), 30, 2⟩))⟩ (imp_le ⟨(lee_upd 5 _ rfl (lee_upd 4 _ rfl (lee_upd 1 _ rfl (lee_upd 0 _ rfl (lee_none _))))), fun _ => .inl rfl⟩) ?_
    refine awp_imp ⟨(upd none_ 4 (.sl 0 0 ((movesL l right).length))), (updO noOb 0 (.live ⟨(enc eN (movesL l right ++ List.replicate (l.length - (movesL l right).length) dN)), 30, 2⟩))⟩ ?_ ?_
    · skip
      exact imp_ler [(0, 0)] (lerL [(0, 0)] [((0, 0), .live ⟨(enc eN (movesL l right ++ List.replicate (l.length - (movesL l right).length) dN)), 30, 2⟩)] rfl (by decide) (by decide) ⟨row_no (o := ⟨(enc eN l), 30, 2⟩) rfl (by exact congrArg (fun l_ => LObj.mk (enc eN l_) 30 2) (by rw [hm0]; simp)), trivial⟩ (sr_map 4 (.sl 0 0 ((movesL l right).length)) (by first | exact Ok.sl _ _ _ (by simp) | exact Ok.pt _ _ (by simp)) (by exact congrArg (AV.sl 0 0) (by rw [hm0])) sr_none)) (keep_of rfl)
    refine awp_ret ?_
    exact fretG rfl rfl rfl rfl
  · skip
    have hf2 := (beq_eq_false_iff_ne).1 hc0
    obtain ⟨i0, hi, hlt, hpre, hdel⟩ := idxB_found dN (show ¬ idxB (delB right) l = -1 from fun e => hf2 e)
    refine awp_skip ?_
    show AWP _ _ _ _ _
    refine awp_seq ?_
    refine seqR ?_
    refine opG rfl (aop_move (av := .v (.int .i64 (idxB (delB right) l))) (.inl rfl) rfl rfl rfl ?_)
    refine opG rfl (aop_binI (u := (.int .i64 ((idxB (delB right) l) + 1))) rfl rfl rfl rfl rfl trivial (addI (by omega)) ?_)
    refine opG rfl (aop_move (av := .v (.int .i64 ((idxB (delB right) l) + 1))) (.inr rfl) rfl rfl rfl ?_)
    refine op0 ?_
    show AWP _ _ _ _ _
    refine awp_imp ⟨(upd (upd (upd (upd (upd none_ 0 (.sl 0 0 l.length)) 1 (.fn 32 [.rp [.ro right.length (enc eB right)]])) 4 (.v (.slice none 0 0))) 5 (.v (.int .i64 (idxB (delB right) l)))) 6 (.v (.int .i64 ((idxB (delB right) l) + 1)))), (updO noOb 0 (.live ⟨(enc eN l), 30, 2⟩))⟩ (imp_le ⟨(lee_upd 6 _ rfl (lee_upd 5 _ rfl (lee_upd 4 _ rfl (lee_upd 1 _ rfl (lee_upd 0 _ rfl (lee_none _)))))), fun _ => .inl rfl⟩) ?_
    refine awp_block ?_
    refine awp_countI (fun k => ⟨(upd (upd (upd (upd (upd none_ 0 (.sl 0 0 l.length)) 1 (.fn 32 [.rp [.ro right.length (enc eB right)]])) 4 (.v (.slice none 0 0))) 5 (.v (.int .i64 (((delS right l (i0 + 1 + k)).2 : Nat) : Int)))) 6 (.v (.int .i64 ((i0 + 1 + k : Nat) : Int)))), (updO noOb 0 (.live ⟨(enc eN ((delS right l (i0 + 1 + k)).1)), 30, 2⟩))⟩) (fun k => True) ((l.length - (i0 + 1))) ?_ trivial (fun k hk_k hinv => ?_)
    · skip
      have hf0 := delS_first right hlt hpre hdel
      exact imp_ler [(0, 0)] (lerL [(0, 0)] [((0, 0), .live ⟨(enc eN ((delS right l (i0 + 1 + 0)).1)), 30, 2⟩)] rfl (by decide) (by decide) ⟨row_no (o := ⟨(enc eN l), 30, 2⟩) rfl (by exact congrArg (fun l_ => LObj.mk (enc eN l_) 30 2) (show (delS right l (i0 + 1 + 0)).1 = l by rw [show i0 + 1 + 0 = i0 + 1 from rfl, hf0])), trivial⟩ (sr_same 6 (.v (.int .i64 ((i0 + 1 + 0 : Nat) : Int))) (by exact congrArg (fun n_ : Int => AV.v (.int .i64 n_)) (show idxB (delB right) l + 1 = ((i0 + 1 + 0 : Nat) : Int) by omega)) NoI.out (sr_same 5 (.v (.int .i64 (((delS right l (i0 + 1 + 0)).2 : Nat) : Int))) (by exact congrArg (fun n_ : Int => AV.v (.int .i64 n_)) (show idxB (delB right) l = (((delS right l (i0 + 1 + 0)).2 : Nat) : Int) by rw [show i0 + 1 + 0 = i0 + 1 from rfl, hf0]; exact hi)) NoI.out (sr_same 4 (.v (.slice none 0 0)) rfl NoI.out (sr_same 1 (.fn 32 [.rp [.ro right.length (enc eB right)]]) rfl NoI.out (sr_map 0 (.sl 0 0 l.length) (by first | exact Ok.sl _ _ _ (by simp) | exact Ok.pt _ _ (by simp)) rfl sr_none)))))) (keep_of rfl)
    obtain ⟨hv1, hv2, hv3, hv4, hv5⟩ := delS_inv right l (i0 + 1 + k) (by omega)
    have hv6 := delS_lt right hlt hpre hdel k (by omega)
    refine awp_seq ?_
    refine seqR ?_
    refine opG rfl (aop_move (av := .v (.int .i64 ((i0 + 1 + k : Nat) : Int))) (.inl rfl) rfl rfl rfl ?_)
    refine opG rfl (aop_move (av := .sl 0 0 l.length) (.inl rfl) rfl rfl rfl ?_)
    refine opG rfl (aop_len rfl rfl rfl rfl ut25 (len_sl rfl) ?_)
    refine opG rfl (aop_binI (u := (.bool (decide (((i0 + 1 + k : Nat) : Int) < (l.length : Int))))) rfl rfl rfl rfl rfl trivial rfl ?_)
    refine op0 ?_
    show AWP _ _ _ _ _
    refine awp_imp ⟨(upd (upd (upd (upd (upd (upd none_ 0 (.sl 0 0 l.length)) 1 (.fn 32 [.rp [.ro right.length (enc eB right)]])) 4 (.v (.slice none 0 0))) 5 (.v (.int .i64 (((delS right l (i0 + 1 + k)).2 : Nat) : Int)))) 6 (.v (.int .i64 ((i0 + 1 + k : Nat) : Int)))) 19 (.v (.bool (decide (((i0 + 1 + k : Nat) : Int) < (l.length : Int)))))), (updO noOb 0 (.live ⟨(enc eN ((delS right l (i0 + 1 + k)).1)), 30, 2⟩))⟩ (imp_le ⟨(lee_upd 19 _ rfl (lee_upd 6 _ rfl (lee_upd 5 _ rfl (lee_upd 4 _ rfl (lee_upd 1 _ rfl (lee_upd 0 _ rfl (lee_none _))))))), fun _ => .inl rfl⟩) ?_
    refine awp_cond (decide (((i0 + 1 + k : Nat) : Int) < (l.length : Int))) rfl rfl (fun hc1 => ?_) (fun hc1 => ?_)
    · skip
      have hf3 := of_decide_eq_true hc1
      refine awp_skip ?_
      show AWP _ _ _ _ _
      refine awp_seq ?_
      refine awp_block ?_
      refine seqR ?_
      refine opG rfl (aop_move (av := .sl 0 0 l.length) (.inl rfl) rfl rfl rfl ?_)
      refine opG rfl (aop_move (av := .v (.int .i64 ((i0 + 1 + k : Nat) : Int))) (.inl rfl) rfl rfl rfl ?_)
      refine opG rfl (aop_ixO (k := i0 + 1 + k) rfl rfl rfl ut25 sz30 rfl rfl (by first | omega | (simp; done) | decide | (simp; omega) | (simp at *; omega)) ?_)
      refine opG rfl (aop_ldOA (f := eN) dN rfl rfl rfl ag30 sz30 rfl rfl rfl (fun _ => rfl) (by first | omega | (simp; done) | decide | (simp; omega) | (simp at *; omega)) rfl ?_)
      refine opG rfl (aop_alloc 51 rfl rfl rfl rfl ze30 rfl ?_)
      refine opG rfl (aop_store rfl rfl rfl sz30 rfl rfl rfl rfl rfl (Nat.le_of_ble_eq_true rfl) rfl rfl ?_)
      refine op0 ?_
      show AWP _ _ _ _ _
      refine awp_imp ⟨(upd (upd (upd (upd (upd (upd none_ 0 (.sl 0 0 l.length)) 1 (.fn 32 [.rp [.ro right.length (enc eB right)]])) 4 (.v (.slice none 0 0))) 5 (.v (.int .i64 (((delS right l (i0 + 1 + k)).2 : Nat) : Int)))) 6 (.v (.int .i64 ((i0 + 1 + k : Nat) : Int)))) 7 (.pt 51 0)), (updO (updO (updO noOb 0 (.live ⟨(enc eN ((delS right l (i0 + 1 + k)).1)), 30, 2⟩)) 51 (.live ⟨[.v (.int .i64 0), .v (.bool false)], 30, 1⟩)) 51 (.live ⟨[.v (.int .i64 ((((delS right l (i0 + 1 + k)).1).getD (i0 + 1 + k) dN).point)), .v (.bool ((((delS right l (i0 + 1 + k)).1).getD (i0 + 1 + k) dN).right))], 30, 1⟩))⟩ (imp_le ⟨(lee_upd 7 _ rfl (lee_upd 6 _ rfl (lee_upd 5 _ rfl (lee_upd 4 _ rfl (lee_upd 1 _ rfl (lee_upd 0 _ rfl (lee_none _))))))), fun _ => .inl rfl⟩) ?_
      refine seqR ?_
      refine opG rfl (aop_move (av := .fn 32 [.rp [.ro right.length (enc eB right)]]) (.inl rfl) rfl rfl rfl ?_)
      refine opG rfl (aop_ldB (cells' := [.v (.int .i64 ((((delS right l (i0 + 1 + k)).1).getD (i0 + 1 + k) dN).point)), .v (.bool ((((delS right l (i0 + 1 + k)).1).getD (i0 + 1 + k) dN).right))]) rfl rfl rfl ag30 sz30 rfl rfl rfl rfl ?_)
      refine opG rfl (call_ (p_Moves1 ((((delS right l (i0 + 1 + k)).1).getD (i0 + 1 + k) dN).point) ((((delS right l (i0 + 1 + k)).1).getD (i0 + 1 + k) dN).right) right (by first | omega | (simp; done) | decide | (simp; omega) | (simp at *; omega))) rfl rfl rfl rfl rfl bd32 rfl ?_)
      refine opG rfl (aop_not rfl rfl rfl rfl ?_)
      refine op0 ?_
      show AWP _ _ _ _ _
      refine awp_imp ⟨(upd (upd (upd (upd (upd (upd (upd none_ 0 (.sl 0 0 l.length)) 1 (.fn 32 [.rp [.ro right.length (enc eB right)]])) 4 (.v (.slice none 0 0))) 5 (.v (.int .i64 (((delS right l (i0 + 1 + k)).2 : Nat) : Int)))) 6 (.v (.int .i64 ((i0 + 1 + k : Nat) : Int)))) 7 (.pt 51 0)) 29 (.v (.bool (!(!(hasB right ((((delS right l (i0 + 1 + k)).1).getD (i0 + 1 + k) dN).point) != ((((delS right l (i0 + 1 + k)).1).getD (i0 + 1 + k) dN).right))))))), (updO (updO (updO noOb 0 (.live ⟨(enc eN ((delS right l (i0 + 1 + k)).1)), 30, 2⟩)) 51 (.live ⟨[.v (.int .i64 0), .v (.bool false)], 30, 1⟩)) 51 (.live ⟨[.v (.int .i64 ((((delS right l (i0 + 1 + k)).1).getD (i0 + 1 + k) dN).point)), .v (.bool ((((delS right l (i0 + 1 + k)).1).getD (i0 + 1 + k) dN).right))], 30, 1⟩))⟩ (imp_le ⟨(lee_upd 29 _ rfl (lee_upd 7 _ rfl (lee_upd 6 _ rfl (lee_upd 5 _ rfl (lee_upd 4 _ rfl (lee_upd 1 _ rfl (lee_upd 0 _ rfl (lee_none _)))))))), fun _ => .inl rfl⟩) ?_
      refine awp_cond (!(!(hasB right ((((delS right l (i0 + 1 + k)).1).getD (i0 + 1 + k) dN).point) != ((((delS right l (i0 + 1 + k)).1).getD (i0 + 1 + k) dN).right)))) rfl rfl (fun hc2 => ?_) (fun hc2 => ?_)
      · skip
        have hf4 := not_t hc2
        refine seqR ?_
        refine opG rfl (aop_move (av := .sl 0 0 l.length) (.inl rfl) rfl rfl rfl ?_)
        refine opG rfl (aop_move (av := .v (.int .i64 (((delS right l (i0 + 1 + k)).2 : Nat) : Int))) (.inl rfl) rfl rfl rfl ?_)
        refine opG rfl (aop_ldB (cells' := [.v (.int .i64 ((((delS right l (i0 + 1 + k)).1).getD (i0 + 1 + k) dN).point)), .v (.bool ((((delS right l (i0 + 1 + k)).1).getD (i0 + 1 + k) dN).right))]) rfl rfl rfl ag30 sz30 rfl rfl rfl rfl ?_)
        refine opG rfl (aop_ixO (k := (delS right l (i0 + 1 + k)).2) rfl rfl rfl ut25 sz30 rfl rfl (by first | omega | (simp; done) | decide | (simp; omega) | (simp at *; omega)) ?_)
        refine opG rfl (aop_storeE (f := eN) (l := (delS right l (i0 + 1 + k)).1) (l' := ((delS right l (i0 + 1 + k)).1).set ((delS right l (i0 + 1 + k)).2) (⟨(((delS right l (i0 + 1 + k)).1).getD (i0 + 1 + k) dN).point, (((delS right l (i0 + 1 + k)).1).getD (i0 + 1 + k) dN).right⟩ : Need)) (⟨(((delS right l (i0 + 1 + k)).1).getD (i0 + 1 + k) dN).point, (((delS right l (i0 + 1 + k)).1).getD (i0 + 1 + k) dN).right⟩ : Need) rfl rfl rfl sz30 rfl rfl rfl rfl rfl (fun _ => rfl) (by first | omega | (simp; done) | decide | (simp; omega) | (simp at *; omega)) rfl rfl ?_)
        refine op0 ?_
        show AWP _ _ _ _ _
        refine awp_imp ⟨(upd (upd (upd (upd (upd (upd none_ 0 (.sl 0 0 l.length)) 1 (.fn 32 [.rp [.ro right.length (enc eB right)]])) 4 (.v (.slice none 0 0))) 5 (.v (.int .i64 (((delS right l (i0 + 1 + k)).2 : Nat) : Int)))) 6 (.v (.int .i64 ((i0 + 1 + k : Nat) : Int)))) 7 (.pt 51 0)), (updO (updO (updO (updO noOb 0 (.live ⟨(enc eN ((delS right l (i0 + 1 + k)).1)), 30, 2⟩)) 51 (.live ⟨[.v (.int .i64 0), .v (.bool false)], 30, 1⟩)) 51 (.live ⟨[.v (.int .i64 ((((delS right l (i0 + 1 + k)).1).getD (i0 + 1 + k) dN).point)), .v (.bool ((((delS right l (i0 + 1 + k)).1).getD (i0 + 1 + k) dN).right))], 30, 1⟩)) 0 (.live ⟨(enc eN (((delS right l (i0 + 1 + k)).1).set ((delS right l (i0 + 1 + k)).2) (⟨(((delS right l (i0 + 1 + k)).1).getD (i0 + 1 + k) dN).point, (((delS right l (i0 + 1 + k)).1).getD (i0 + 1 + k) dN).right⟩ : Need))), 30, 2⟩))⟩ (imp_le ⟨(lee_upd 7 _ rfl (lee_upd 6 _ rfl (lee_upd 5 _ rfl (lee_upd 4 _ rfl (lee_upd 1 _ rfl (lee_upd 0 _ rfl (lee_none _))))))), fun _ => .inl rfl⟩) ?_
        refine regR ?_
        refine opG rfl (aop_move (av := .v (.int .i64 (((delS right l (i0 + 1 + k)).2 : Nat) : Int))) (.inl rfl) rfl rfl rfl ?_)
        refine opG rfl (aop_binI (u := (.int .i64 (((delS right l (i0 + 1 + k)).2 + 1 : Nat) : Int))) rfl rfl rfl rfl rfl trivial (addN (by omega)) ?_)
        refine opG rfl (aop_move (av := .v (.int .i64 (((delS right l (i0 + 1 + k)).2 + 1 : Nat) : Int))) (.inr rfl) rfl rfl rfl ?_)
        refine op0 ?_
        show AWP _ _ _ _ _
        refine regR ?_
        refine opG rfl (aop_move (av := .v (.int .i64 ((i0 + 1 + k : Nat) : Int))) (.inl rfl) rfl rfl rfl ?_)
        refine opG rfl (aop_binI (u := (.int .i64 ((i0 + 1 + k + 1 : Nat) : Int))) rfl rfl rfl rfl rfl trivial (addN (by omega)) ?_)
        refine opG rfl (aop_move (av := .v (.int .i64 ((i0 + 1 + k + 1 : Nat) : Int))) (.inr rfl) rfl rfl rfl ?_)
        refine op0 ?_
        show _ ∧ _
        have hs := delS_keep right (l := l) (j := i0 + 1 + k) (by omega) (by simpa [delB] using hc2)
        refine ⟨by omega, trivial, ?_⟩
        exact imp_ler [(0, 0)] (lerL [(0, 0)] [((0, 0), .live ⟨(enc eN ((delS right l (i0 + 1 + (k + 1))).1)), 30, 2⟩)] rfl (by decide) (by decide) ⟨row_no (o := ⟨(enc eN (((delS right l (i0 + 1 + k)).1).set ((delS right l (i0 + 1 + k)).2) (⟨(((delS right l (i0 + 1 + k)).1).getD (i0 + 1 + k) dN).point, (((delS right l (i0 + 1 + k)).1).getD (i0 + 1 + k) dN).right⟩ : Need))), 30, 2⟩) rfl (by exact congrArg (fun l_ => LObj.mk (enc eN l_) 30 2) (congrArg Prod.fst hs)), trivial⟩ (sr_same 6 (.v (.int .i64 ((i0 + 1 + (k + 1) : Nat) : Int))) rfl NoI.out (sr_same 5 (.v (.int .i64 (((delS right l (i0 + 1 + (k + 1))).2 : Nat) : Int))) (by exact congrArg (fun n_ : Int => AV.v (.int .i64 n_)) (congrArg (fun q : List Need × Nat => ((q.2 : Nat) : Int)) hs.symm)) NoI.out (sr_same 4 (.v (.slice none 0 0)) rfl NoI.out (sr_same 1 (.fn 32 [.rp [.ro right.length (enc eB right)]]) rfl NoI.out (sr_map 0 (.sl 0 0 l.length) (by first | exact Ok.sl _ _ _ (by simp) | exact Ok.pt _ _ (by simp)) rfl sr_none)))))) (keep_of rfl)
      · skip
        have hf5 := not_f hc2
        refine awp_skip ?_
        show AWP _ _ _ _ _
        refine regR ?_
        refine opG rfl (aop_move (av := .v (.int .i64 ((i0 + 1 + k : Nat) : Int))) (.inl rfl) rfl rfl rfl ?_)
        refine opG rfl (aop_binI (u := (.int .i64 ((i0 + 1 + k + 1 : Nat) : Int))) rfl rfl rfl rfl rfl trivial (addN (by omega)) ?_)
        refine opG rfl (aop_move (av := .v (.int .i64 ((i0 + 1 + k + 1 : Nat) : Int))) (.inr rfl) rfl rfl rfl ?_)
        refine op0 ?_
        show _ ∧ _
        have hs := delS_drop right (l := l) (j := i0 + 1 + k) (by omega) (by simpa [delB] using hc2)
        refine ⟨by omega, trivial, ?_⟩
        exact imp_ler [(0, 0)] (lerL [(0, 0)] [((0, 0), .live ⟨(enc eN ((delS right l (i0 + 1 + (k + 1))).1)), 30, 2⟩)] rfl (by decide) (by decide) ⟨row_no (o := ⟨(enc eN ((delS right l (i0 + 1 + k)).1)), 30, 2⟩) rfl (by exact congrArg (fun l_ => LObj.mk (enc eN l_) 30 2) (congrArg Prod.fst hs)), trivial⟩ (sr_same 6 (.v (.int .i64 ((i0 + 1 + (k + 1) : Nat) : Int))) rfl NoI.out (sr_same 5 (.v (.int .i64 (((delS right l (i0 + 1 + (k + 1))).2 : Nat) : Int))) (by exact congrArg (fun n_ : Int => AV.v (.int .i64 n_)) (congrArg (fun q : List Need × Nat => ((q.2 : Nat) : Int)) hs.symm)) NoI.out (sr_same 4 (.v (.slice none 0 0)) rfl NoI.out (sr_same 1 (.fn 32 [.rp [.ro right.length (enc eB right)]]) rfl NoI.out (sr_map 0 (.sl 0 0 l.length) (by first | exact Ok.sl _ _ _ (by simp) | exact Ok.pt _ _ (by simp)) rfl sr_none)))))) (keep_of rfl)
    · skip
      have hf6 := of_decide_eq_false hc1
      refine awp_exit ?_
      show AWP _ _ _ _ _
      refine seqR ?_
      refine opG rfl (aop_move (av := .sl 0 0 l.length) (.inl rfl) rfl rfl rfl ?_)
      refine opG rfl (aop_move (av := .v (.int .i64 (((delS right l (i0 + 1 + k)).2 : Nat) : Int))) (.inl rfl) rfl rfl rfl ?_)
      refine opG rfl (aop_sliceFrom (l := (delS right l (i0 + 1 + k)).2) (ob := ⟨(enc eN ((delS right l (i0 + 1 + k)).1)), 30, 2⟩) rfl rfl rfl ut25 sz30 rfl rfl rfl ⟨_, rfl⟩ (by first | omega | (simp; done) | decide | (simp; omega) | (simp at *; omega)) ?_)
      refine opG rfl (aop_clear (n := l.length - ((delS right l (i0 + 1 + k)).2)) (ob := ⟨(enc eN ((delS right l (i0 + 1 + k)).1)), 30, 2⟩) rfl rfl rfl rfl ut25 (run_zero_ ze30) rfl rfl rfl (by first | omega | (simp; done) | decide | (simp; omega) | (simp at *; omega)) (by show _ + (l.length - (delS right l (i0 + 1 + k)).2) * 2 ≤ (enc eN (delS right l (i0 + 1 + k)).1).length; rw [enc_length (f := eN) (s := 2) (fun _ => rfl)]; omega) (clear_row (by omega)) ?_)
      refine op0 ?_
      show AWP _ _ _ _ _
      refine awp_imp ⟨(upd (upd (upd none_ 0 (.sl 0 0 l.length)) 4 (.v (.slice none 0 0))) 5 (.v (.int .i64 (((delS right l (i0 + 1 + k)).2 : Nat) : Int)))), (updO (updO noOb 0 (.live ⟨(enc eN ((delS right l (i0 + 1 + k)).1)), 30, 2⟩)) 0 (.live ⟨(enc eN ((delS right l (i0 + 1 + k)).1.take (delS right l (i0 + 1 + k)).2 ++ List.replicate (l.length - (delS right l (i0 + 1 + k)).2) dN)), 30, 2⟩))⟩ (imp_le ⟨(lee_upd 5 _ rfl (lee_upd 4 _ rfl (lee_upd 0 _ rfl (lee_none _)))), fun _ => .inl rfl⟩) ?_
      refine seqR ?_
      refine opG rfl (aop_move (av := .sl 0 0 l.length) (.inl rfl) rfl rfl rfl ?_)
      refine opG rfl (aop_move (av := .v (.int .i64 (((delS right l (i0 + 1 + k)).2 : Nat) : Int))) (.inl rfl) rfl rfl rfl ?_)
      refine opG rfl (aop_sliceOwn (hgh := (delS right l (i0 + 1 + k)).2) rfl rfl rfl ut25 sz30 rfl ⟨_, rfl⟩ (by first | omega | (simp; done) | decide | (simp; omega) | (simp at *; omega)) ?_)
      refine opG rfl (aop_move (av := .sl 0 0 ((delS right l (i0 + 1 + k)).2)) (.inr rfl) rfl rfl rfl ?_)
      refine op0 ?_
      show AWP _ _ _ _ _
      refine awp_imp ⟨(upd none_ 4 (.sl 0 0 ((delS right l (i0 + 1 + k)).2))), (updO (updO noOb 0 (.live ⟨(enc eN ((delS right l (i0 + 1 + k)).1)), 30, 2⟩)) 0 (.live ⟨(enc eN ((delS right l (i0 + 1 + k)).1.take (delS right l (i0 + 1 + k)).2 ++ List.replicate (l.length - (delS right l (i0 + 1 + k)).2) dN)), 30, 2⟩))⟩ (imp_le ⟨(lee_upd 4 _ rfl (lee_none _)), fun _ => .inl rfl⟩) ?_
      have hjk : i0 + 1 + k = l.length := by omega
      rw [hjk, List.take_of_length_le (Nat.le_refl _)] at hv4 hv5
      refine awp_imp ⟨(upd none_ 4 (.sl 0 0 ((movesL l right).length))), (updO noOb 0 (.live ⟨(enc eN (movesL l right ++ List.replicate (l.length - (movesL l right).length) dN)), 30, 2⟩))⟩ ?_ ?_
      · skip
        exact imp_ler [(0, 0)] (lerL [(0, 0)] [((0, 0), .live ⟨(enc eN (movesL l right ++ List.replicate (l.length - (movesL l right).length) dN)), 30, 2⟩)] rfl (by decide) (by decide) ⟨row_no (o := ⟨(enc eN ((delS right l (i0 + 1 + k)).1.take (delS right l (i0 + 1 + k)).2 ++ List.replicate (l.length - (delS right l (i0 + 1 + k)).2) dN)), 30, 2⟩) rfl (by exact congrArg (fun l_ => LObj.mk (enc eN l_) 30 2) (by rw [hjk, hv4, hv5])), trivial⟩ (sr_map 4 (.sl 0 0 ((movesL l right).length)) (by first | exact Ok.sl _ _ _ (by simp) | exact Ok.pt _ _ (by simp)) (by exact congrArg (AV.sl 0 0) (by rw [hjk, hv5])) sr_none)) (keep_of rfl)
      refine awp_ret ?_
      exact fretG rfl rfl rfl rfl

set_option maxRecDepth 10000 in
set_option maxHeartbeats 1000000 in
theorem p_Moves (needs : List Need) (right : List Bool) (hl : needs.length ≤ 4294967296) (hr : right.length ≤ 4294967296) : FnO Try.prog 18 [.ro needs.length (enc eN needs), .ro right.length (enc eB right)] (.sl 0 0 ((movesL needs right).length)) [⟨(enc eN (movesL needs right ++ List.replicate (needs.length - (movesL needs right).length) dN)), 30, 2⟩] := by
  refine fnE_of_body (N := 9) Try.func18 rfl rfl (resOf1 rfl) (by simp) (fun w0 X => ?_)
  refine seqR ?_
  refine opG rfl (aop_box 51 rfl rfl rfl rfl rfl rfl rfl ?_)
  refine opG rfl (aop_move (av := .v (.slice none 0 0)) (.inr rfl) rfl rfl rfl ?_)
  refine op0 ?_
  show AWP _ _ _ _ _
  refine seqR ?_
  refine opG rfl (aop_move (av := .ro needs.length (enc eN needs)) (.inl rfl) rfl rfl rfl ?_)
  refine opG rfl (callO_ 52 (cl_N needs (by first | omega | (simp; done) | decide | (simp; omega) | (simp at *; omega))) rfl rfl rfl rfl rfl bd31 (lends_cons (lend_n (av := .ro needs.length (enc eN needs))) lends_nil) (.sl _ _ _ trivial) (news1 news0) (free1 rfl) rfl rfl ?_)
  refine opG rfl (aop_makeFunc (caps := [.tmp 3]) rfl rfl rfl rfl ?_)
  refine opG rfl (callG_ true [52] [] (delN needs right (by first | omega | (simp; done) | decide | (simp; omega) | (simp at *; omega)) (by first | omega | (simp; done) | decide | (simp; omega) | (simp at *; omega))) rfl rfl rfl rfl rfl bd30 (by decide) ⟨giv_no (o := ⟨(enc eN needs), 30, 2⟩) rfl rfl, trivial⟩ ⟨(arg_own (.sl _ _ _ (by simp)) rfl), (arg_lent (lend_fn (lends_cons (lend_pt rfl (lends_cons (lend_n (av := .ro right.length (enc eB right))) lends_nil)) lends_nil))), trivial⟩ rfl trivial (fun _ => ⟨.sl _ _ _ trivial, ⟨(fun c hc => ((inferInstance : FlatL (enc eN (movesL needs right ++ List.replicate (needs.length - (movesL needs right).length) dN))).out c hc).mono (fun _ h => h.elim) id), trivial⟩⟩) rfl (place_cons (ost_no (cs := (enc eN (movesL needs right ++ List.replicate (needs.length - (movesL needs right).length) dN)))) place_nil) ?_)
  refine opG rfl (aop_move (av := .sl 52 0 ((movesL needs right).length)) (.inr rfl) rfl rfl rfl ?_)
  refine op0 ?_
  show AWP _ _ _ _ _
  refine awp_imp ⟨(upd none_ 4 (.sl 52 0 ((movesL needs right).length))), (updO (updO (updO noOb 51 (.live ⟨[.ro right.length (enc eB right)], 23, 1⟩)) 52 (.live ⟨(enc eN needs), 30, 2⟩)) 52 (.live ⟨(enc eN (movesL needs right ++ List.replicate (needs.length - (movesL needs right).length) dN)), 30, 2⟩))⟩ (imp_le ⟨(lee_upd 4 _ rfl (lee_none _)), fun _ => .inl rfl⟩) ?_
  refine awp_ret ?_
  exact fretO 52 rfl rfl rfl rfl rfl

set_option maxRecDepth 10000 in
set_option maxHeartbeats 1000000 in
theorem l14_PointMoves (l : List Need) (right : List Bool) (near : Bool)  : Fn Try.prog 6 [.ro l.length (enc eN l), .ro right.length (enc eB right), .v (.bool near)] (.v (.bool true)) := by
  refine fnE_of_body (N := 97) Try.func6 rfl rfl (resOf1 rfl) (by simp) (fun w0 X => ?_)
  refine seqR ?_
  refine opG rfl (aop_move (av := .v (.bool false)) (.inr rfl) rfl rfl rfl ?_)
  refine op0 ?_
  show AWP _ _ _ _ _
  refine awp_seq ?_
  refine seqR ?_
  refine opG rfl (call_ (l14_grows) rfl rfl rfl rfl rfl bd8 rfl ?_)
  refine opG rfl (aop_not rfl rfl rfl rfl ?_)
  refine opG rfl (aop_move (av := .v (.bool false)) (.inl rfl) rfl rfl rfl ?_)
  refine opY rfl rfl rfl rfl (aop_move (av := .ro l.length (enc eN l)) (.inl rfl) rfl rfl rfl ?_)
  refine opY rfl rfl rfl rfl (aop_len rfl rfl rfl rfl ut22 (len_ro rfl) ?_)
  refine opY rfl rfl rfl rfl (aop_binI (u := (.bool (decide ((l.length : Int) > 20)))) rfl rfl rfl rfl rfl trivial rfl ?_)
  refine opG rfl (aop_pick (b := false) (av := .v (.bool (decide ((l.length : Int) > 20)))) rfl rfl rfl rfl rfl ?_)
  refine opG rfl (aop_move (av := .v (.bool (decide ((l.length : Int) > 20)))) (.inl rfl) rfl rfl rfl ?_)
  refine aops_grp 4 23 (.v (.bool ((decide ((l.length : Int) > 20)) || (decide ((right.length : Int) > 20))))) ?_ ?_
  · rcases Bool.eq_false_or_eq_true (decide ((l.length : Int) > 20)) with hg1 | hg1
    · skip
      have hf2 := of_decide_eq_true hg1
      refine opN rfl rfl rfl rfl (by show yv (.bool (decide ((l.length : Int) > 20))) ≠ _; rw [hg1]; intro h; cases h) rfl rfl ?_
      refine opN rfl rfl rfl rfl (by show yv (.bool (decide ((l.length : Int) > 20))) ≠ _; rw [hg1]; intro h; cases h) rfl rfl ?_
      refine opN rfl rfl rfl rfl (by show yv (.bool (decide ((l.length : Int) > 20))) ≠ _; rw [hg1]; intro h; cases h) rfl rfl ?_
      refine opG rfl (aop_pick (b := (decide ((l.length : Int) > 20))) rfl rfl rfl rfl (by rw [hg1] <;> rfl) ?_)
      refine op0 ?_
      exact imp_env (lee_both 23 _ _ (by rw [hg1] <;> rfl) (lee_out 22 _ rfl (lee_out 21 _ rfl (lee_out 20 _ rfl (lee_same _)))))
    · skip
      have hf3 := of_decide_eq_false hg1
      refine opY rfl rfl rfl (by show AV.v (.bool (decide ((l.length : Int) > 20))) = _; rw [hg1]) (aop_move (av := .ro right.length (enc eB right)) (.inl rfl) rfl rfl rfl ?_)
      refine opY rfl rfl rfl (by show AV.v (.bool (decide ((l.length : Int) > 20))) = _; rw [hg1]) (aop_len rfl rfl rfl rfl ut23 (len_ro rfl) ?_)
      refine opY rfl rfl rfl (by show AV.v (.bool (decide ((l.length : Int) > 20))) = _; rw [hg1]) (aop_binI (u := (.bool (decide ((right.length : Int) > 20)))) rfl rfl rfl rfl rfl trivial rfl ?_)
      refine opG rfl (aop_pick (b := (decide ((l.length : Int) > 20))) rfl rfl rfl rfl (by rw [hg1] <;> rfl) ?_)
      refine op0 ?_
      exact imp_env (lee_both 23 _ _ (by rw [hg1] <;> rfl) (lee_out 22 _ rfl (lee_out 21 _ rfl (lee_out 20 _ rfl (lee_same _)))))
  refine op0 ?_
  show AWP _ _ _ _ _
  refine awp_imp ⟨(upd (upd (upd (upd (upd none_ 0 (.ro l.length (enc eN l))) 1 (.ro right.length (enc eB right))) 2 (.v (.bool near))) 6 (.v (.bool false))) 23 (.v (.bool ((decide ((l.length : Int) > 20)) || (decide ((right.length : Int) > 20)))))), noOb⟩ (imp_le ⟨(lee_upd 23 _ rfl (lee_upd 6 _ rfl (lee_upd 2 _ rfl (lee_upd 1 _ rfl (lee_upd 0 _ rfl (lee_none _)))))), fun _ => .inl rfl⟩) ?_
  refine awp_cond ((decide ((l.length : Int) > 20)) || (decide ((right.length : Int) > 20))) rfl rfl (fun hc0 => ?_) (fun hc0 => ?_)
  · skip
    refine seqR ?_
    refine opG rfl (call_ (l14_grows) rfl rfl rfl rfl rfl bd8 rfl ?_)
    refine opG rfl (aop_move (av := .v (.bool true)) (.inr rfl) rfl rfl rfl ?_)
    refine op0 ?_
    show AWP _ _ _ _ _
    refine awp_ret ?_
    exact fret (av := .v (.bool true)) rfl rfl (by simp)
  · skip
    obtain ⟨hf4a, hf4b⟩ := or_f hc0
    have hf5 := of_decide_eq_false hf4a
    have hf6 := of_decide_eq_false hf4b
    have hlo : (ofL near l).length = l.length := by simp [ofL]
    have hml := movesL_len (ofL near l) right
    have hm1 := moveL_len right (ofL near l)
    have hm2 := moveL_len right (movesL (ofL near l) right)
    refine awp_skip ?_
    show AWP _ _ _ _ _
    refine seqR ?_
    refine opG rfl (aop_move (av := .ro l.length (enc eN l)) (.inl rfl) rfl rfl rfl ?_)
    refine opG rfl (aop_move (av := .v (.bool near)) (.inl rfl) rfl rfl rfl ?_)
    refine opG rfl (callO_ 51 (l14_of l near (by first | omega | (simp; done) | decide | (simp; omega) | (simp at *; omega))) rfl rfl rfl rfl rfl bd9 (lends_cons (lend_n (av := .ro l.length (enc eN l))) (lends_cons (lend_n (av := .v (.bool near))) lends_nil)) (.tup _ (by intro c hc; simp at hc; rcases hc with rfl | rfl <;> exact .sl _ _ _ trivial)) (news1 (news1 news0)) (free2 rfl rfl) rfl rfl ?_)
    refine opG rfl (aop_move (av := .tup [.sl 51 0 ((ofL near l).length), .sl 52 0 ((ofL near l).length)]) (.inl rfl) rfl rfl rfl ?_)
    refine opG rfl (aop_extract rfl rfl rfl rfl rfl ?_)
    refine opG rfl (aop_extract rfl rfl rfl rfl rfl ?_)
    refine opG rfl (aop_move (av := .sl 51 0 ((ofL near l).length)) (.inr rfl) rfl rfl rfl ?_)
    refine opG rfl (aop_move (av := .sl 52 0 ((ofL near l).length)) (.inr rfl) rfl rfl rfl ?_)
    refine op0 ?_
    show AWP _ _ _ _ _
    refine awp_imp ⟨(upd (upd (upd (upd none_ 1 (.ro right.length (enc eB right))) 6 (.v (.bool false))) 7 (.sl 51 0 ((ofL near l).length))) 8 (.sl 52 0 ((ofL near l).length))), (updO (updO noOb 51 (.live ⟨(enc eN (ofL near l)), 30, 2⟩)) 52 (.live ⟨(enc eN (ofL near l)), 31, 2⟩))⟩ (imp_le ⟨(lee_upd 8 _ rfl (lee_upd 7 _ rfl (lee_upd 6 _ rfl (lee_upd 1 _ rfl (lee_none _))))), fun _ => .inl rfl⟩) ?_
    refine seqR ?_
    refine opG rfl (aop_move (av := .sl 51 0 ((ofL near l).length)) (.inl rfl) rfl rfl rfl ?_)
    refine opG rfl (aop_move (av := .ro right.length (enc eB right)) (.inl rfl) rfl rfl rfl ?_)
    refine opG rfl (callO_ 53 (p_Moves (ofL near l) right (by first | omega | (simp; done) | decide | (simp; omega) | (simp at *; omega)) (by first | omega | (simp; done) | decide | (simp; omega) | (simp at *; omega))) rfl rfl rfl rfl rfl bd18 (lends_cons (lend_s (id := 51) (n := (ofL near l).length) (o := ⟨(enc eN (ofL near l)), 30, 2⟩) rfl (enc_len (fun _ => rfl) rfl)) (lends_cons (lend_n (av := .ro right.length (enc eB right))) lends_nil)) (.sl _ _ _ trivial) (news1 news0) (free1 rfl) rfl rfl ?_)
    refine opG rfl (aop_move (av := .sl 52 0 ((ofL near l).length)) (.inl rfl) rfl rfl rfl ?_)
    refine opG rfl (aop_move (av := .ro right.length (enc eB right)) (.inl rfl) rfl rfl rfl ?_)
    refine opG rfl (callO_ 54 (r14_Moves (ofL near l) right (by first | omega | (simp; done) | decide | (simp; omega) | (simp at *; omega)) (by first | omega | (simp; done) | decide | (simp; omega) | (simp at *; omega))) rfl rfl rfl rfl rfl bd19 (lends_cons (lend_s (id := 52) (n := (ofL near l).length) (o := ⟨(enc eN (ofL near l)), 31, 2⟩) rfl (enc_len (fun _ => rfl) rfl)) (lends_cons (lend_n (av := .ro right.length (enc eB right))) lends_nil)) (.sl _ _ _ trivial) (news1 news0) (free1 rfl) rfl rfl ?_)
    refine opG rfl (aop_move (av := .sl 53 0 ((movesL (ofL near l) right).length)) (.inr rfl) rfl rfl rfl ?_)
    refine opG rfl (aop_move (av := .sl 54 0 ((movesL (ofL near l) right).length)) (.inr rfl) rfl rfl rfl ?_)
    refine op0 ?_
    show AWP _ _ _ _ _
    refine awp_imp ⟨(upd (upd (upd (upd (upd (upd none_ 1 (.ro right.length (enc eB right))) 6 (.v (.bool false))) 7 (.sl 51 0 ((ofL near l).length))) 8 (.sl 52 0 ((ofL near l).length))) 9 (.sl 53 0 ((movesL (ofL near l) right).length))) 10 (.sl 54 0 ((movesL (ofL near l) right).length))), (updO (updO (updO (updO noOb 51 (.live ⟨(enc eN (ofL near l)), 30, 2⟩)) 52 (.live ⟨(enc eN (ofL near l)), 31, 2⟩)) 53 (.live ⟨(enc eN (movesL (ofL near l) right ++ List.replicate ((ofL near l).length - (movesL (ofL near l) right).length) dN)), 30, 2⟩)) 54 (.live ⟨(enc eN (movesL (ofL near l) right)), 31, 2⟩))⟩ (imp_le ⟨(lee_upd 10 _ rfl (lee_upd 9 _ rfl (lee_upd 8 _ rfl (lee_upd 7 _ rfl (lee_upd 6 _ rfl (lee_upd 1 _ rfl (lee_none _))))))), fun _ => .inl rfl⟩) ?_
    refine awp_seq ?_
    refine seqR ?_
    refine opG rfl (aop_move (av := .sl 53 0 ((movesL (ofL near l) right).length)) (.inl rfl) rfl rfl rfl ?_)
    refine opG rfl (aop_len rfl rfl rfl rfl ut25 (len_sl rfl) ?_)
    refine opG rfl (aop_move (av := .sl 54 0 ((movesL (ofL near l) right).length)) (.inl rfl) rfl rfl rfl ?_)
    refine opG rfl (aop_len rfl rfl rfl rfl ut26 (len_sl rfl) ?_)
    refine opG rfl (aop_binI (u := (.bool (((movesL (ofL near l) right).length : Int) != ((movesL (ofL near l) right).length : Int)))) rfl rfl rfl rfl rfl trivial rfl ?_)
    refine opG rfl (aop_move (av := .v (.bool (((movesL (ofL near l) right).length : Int) != ((movesL (ofL near l) right).length : Int)))) (.inl rfl) rfl rfl rfl ?_)
    refine aops_grp 8 50 (.v (.bool ((((movesL (ofL near l) right).length : Int) != ((movesL (ofL near l) right).length : Int)) || ((!((ofL near l).any (wrB right))) != (((movesL (ofL near l) right).length : Int) == 0))))) ?_ ?_
    · rcases Bool.eq_false_or_eq_true (((movesL (ofL near l) right).length : Int) != ((movesL (ofL near l) right).length : Int)) with hg7 | hg7
      · skip
        have hf8 := (bne_iff_ne).1 hg7
        refine opN rfl rfl rfl rfl (by show yv (.bool (((movesL (ofL near l) right).length : Int) != ((movesL (ofL near l) right).length : Int))) ≠ _; rw [hg7]; intro h; cases h) rfl rfl ?_
        refine opN rfl rfl rfl rfl (by show yv (.bool (((movesL (ofL near l) right).length : Int) != ((movesL (ofL near l) right).length : Int))) ≠ _; rw [hg7]; intro h; cases h) rfl rfl ?_
        refine opN rfl rfl rfl rfl (by show yv (.bool (((movesL (ofL near l) right).length : Int) != ((movesL (ofL near l) right).length : Int))) ≠ _; rw [hg7]; intro h; cases h) rfl rfl ?_
        refine opN rfl rfl rfl rfl (by show yv (.bool (((movesL (ofL near l) right).length : Int) != ((movesL (ofL near l) right).length : Int))) ≠ _; rw [hg7]; intro h; cases h) rfl rfl ?_
        refine opN rfl rfl rfl rfl (by show yv (.bool (((movesL (ofL near l) right).length : Int) != ((movesL (ofL near l) right).length : Int))) ≠ _; rw [hg7]; intro h; cases h) rfl rfl ?_
        refine opN rfl rfl rfl rfl (by show yv (.bool (((movesL (ofL near l) right).length : Int) != ((movesL (ofL near l) right).length : Int))) ≠ _; rw [hg7]; intro h; cases h) rfl rfl ?_
        refine opN rfl rfl rfl rfl (by show yv (.bool (((movesL (ofL near l) right).length : Int) != ((movesL (ofL near l) right).length : Int))) ≠ _; rw [hg7]; intro h; cases h) rfl rfl ?_
        refine opG rfl (aop_pick (b := (((movesL (ofL near l) right).length : Int) != ((movesL (ofL near l) right).length : Int))) rfl rfl rfl rfl (by rw [hg7] <;> rfl) ?_)
        refine op0 ?_
        exact imp_env (lee_both 50 _ _ (by rw [hg7] <;> rfl) (lee_out 49 _ rfl (lee_out 48 _ rfl (lee_out 47 _ rfl (lee_out 46 _ rfl (lee_out 45 _ rfl (lee_out 44 _ rfl (lee_out 43 _ rfl (lee_same _)))))))))
      · skip
        have hf9 := (bne_eq_false_iff_eq).1 hg7
        refine opY rfl rfl rfl (by show AV.v (.bool (((movesL (ofL near l) right).length : Int) != ((movesL (ofL near l) right).length : Int))) = _; rw [hg7]) (aop_move (av := .sl 51 0 ((ofL near l).length)) (.inl rfl) rfl rfl rfl ?_)
        refine opY rfl rfl rfl (by show AV.v (.bool (((movesL (ofL near l) right).length : Int) != ((movesL (ofL near l) right).length : Int))) = _; rw [hg7]) (aop_move (av := .ro right.length (enc eB right)) (.inl rfl) rfl rfl rfl ?_)
        refine opY rfl rfl rfl (by show AV.v (.bool (((movesL (ofL near l) right).length : Int) != ((movesL (ofL near l) right).length : Int))) = _; rw [hg7]) (callL_ (p_Stands (ofL near l) right (by first | omega | (simp; done) | decide | (simp; omega) | (simp at *; omega)) (by first | omega | (simp; done) | decide | (simp; omega) | (simp at *; omega))) rfl rfl rfl rfl rfl bd20 (lends_cons (lend_s (id := 51) (n := (ofL near l).length) (o := ⟨(enc eN (ofL near l)), 30, 2⟩) rfl (enc_len (fun _ => rfl) rfl)) (lends_cons (lend_n (av := .ro right.length (enc eB right))) lends_nil)) ?_)
        refine opY rfl rfl rfl (by show AV.v (.bool (((movesL (ofL near l) right).length : Int) != ((movesL (ofL near l) right).length : Int))) = _; rw [hg7]) (aop_move (av := .sl 54 0 ((movesL (ofL near l) right).length)) (.inl rfl) rfl rfl rfl ?_)
        refine opY rfl rfl rfl (by show AV.v (.bool (((movesL (ofL near l) right).length : Int) != ((movesL (ofL near l) right).length : Int))) = _; rw [hg7]) (aop_len rfl rfl rfl rfl ut26 (len_sl rfl) ?_)
        refine opY rfl rfl rfl (by show AV.v (.bool (((movesL (ofL near l) right).length : Int) != ((movesL (ofL near l) right).length : Int))) = _; rw [hg7]) (aop_binI (u := (.bool (((movesL (ofL near l) right).length : Int) == 0))) rfl rfl rfl rfl rfl trivial rfl ?_)
        refine opY rfl rfl rfl (by show AV.v (.bool (((movesL (ofL near l) right).length : Int) != ((movesL (ofL near l) right).length : Int))) = _; rw [hg7]) (aop_neB rfl rfl rfl rfl rfl ut4 ?_)
        refine opG rfl (aop_pick (b := (((movesL (ofL near l) right).length : Int) != ((movesL (ofL near l) right).length : Int))) rfl rfl rfl rfl (by rw [hg7] <;> rfl) ?_)
        refine op0 ?_
        exact imp_env (lee_both 50 _ _ (by rw [hg7] <;> rfl) (lee_out 49 _ rfl (lee_out 48 _ rfl (lee_out 47 _ rfl (lee_out 46 _ rfl (lee_out 45 _ rfl (lee_out 44 _ rfl (lee_out 43 _ rfl (lee_same _)))))))))
    refine op0 ?_
    show AWP _ _ _ _ _
    refine awp_imp ⟨(upd (upd (upd (upd (upd (upd (upd none_ 1 (.ro right.length (enc eB right))) 6 (.v (.bool false))) 7 (.sl 51 0 ((ofL near l).length))) 8 (.sl 52 0 ((ofL near l).length))) 9 (.sl 53 0 ((movesL (ofL near l) right).length))) 10 (.sl 54 0 ((movesL (ofL near l) right).length))) 50 (.v (.bool ((((movesL (ofL near l) right).length : Int) != ((movesL (ofL near l) right).length : Int)) || ((!((ofL near l).any (wrB right))) != (((movesL (ofL near l) right).length : Int) == 0)))))), (updO (updO (updO (updO noOb 51 (.live ⟨(enc eN (ofL near l)), 30, 2⟩)) 52 (.live ⟨(enc eN (ofL near l)), 31, 2⟩)) 53 (.live ⟨(enc eN (movesL (ofL near l) right ++ List.replicate ((ofL near l).length - (movesL (ofL near l) right).length) dN)), 30, 2⟩)) 54 (.live ⟨(enc eN (movesL (ofL near l) right)), 31, 2⟩))⟩ (imp_le ⟨(lee_upd 50 _ rfl (lee_upd 10 _ rfl (lee_upd 9 _ rfl (lee_upd 8 _ rfl (lee_upd 7 _ rfl (lee_upd 6 _ rfl (lee_upd 1 _ rfl (lee_none _)))))))), fun _ => .inl rfl⟩) ?_
    refine awp_cond ((((movesL (ofL near l) right).length : Int) != ((movesL (ofL near l) right).length : Int)) || ((!((ofL near l).any (wrB right))) != (((movesL (ofL near l) right).length : Int) == 0))) rfl rfl (fun hc1 => ?_) (fun hc1 => ?_)
    · skip
      exfalso; rw [movesL_zero] at hc1; simp at hc1
    · skip
      obtain ⟨hf10a, hf10b⟩ := or_f hc1
      have hf11 := (bne_eq_false_iff_eq).1 hf10a
      refine awp_skip ?_
      show AWP _ _ _ _ _
      refine awp_seq ?_
      refine seqR ?_
      refine opG rfl (aop_move (av := .v (.int .i64 0)) (.inr rfl) rfl rfl rfl ?_)
      refine op0 ?_
      show AWP _ _ _ _ _
      refine awp_block ?_
      refine awp_countI (fun k => ⟨(upd (upd (upd (upd (upd (upd (upd none_ 1 (.ro right.length (enc eB right))) 6 (.v (.bool false))) 7 (.sl 1 0 ((ofL near l).length))) 8 (.sl 2 0 ((ofL near l).length))) 9 (.sl 3 0 ((movesL (ofL near l) right).length))) 10 (.sl 4 0 ((movesL (ofL near l) right).length))) 11 (.v (.int .i64 (k : Int)))), (updO (updO (updO (updO noOb 1 (.live ⟨(enc eN (ofL near l)), 30, 2⟩)) 2 (.live ⟨(enc eN (ofL near l)), 31, 2⟩)) 3 (.live ⟨(enc eN (movesL (ofL near l) right ++ List.replicate ((ofL near l).length - (movesL (ofL near l) right).length) dN)), 30, 2⟩)) 4 (.live ⟨(enc eN (movesL (ofL near l) right)), 31, 2⟩))⟩) (fun k => True) ((movesL (ofL near l) right).length) ?_ trivial (fun k hk_k hinv => ?_)
      · skip
        exact imp_ler [(51, 1), (52, 2), (53, 3), (54, 4)] (lerL [(51, 1), (52, 2), (53, 3), (54, 4)] [((51, 1), .live ⟨(enc eN (ofL near l)), 30, 2⟩), ((52, 2), .live ⟨(enc eN (ofL near l)), 31, 2⟩), ((53, 3), .live ⟨(enc eN (movesL (ofL near l) right ++ List.replicate ((ofL near l).length - (movesL (ofL near l) right).length) dN)), 30, 2⟩), ((54, 4), .live ⟨(enc eN (movesL (ofL near l) right)), 31, 2⟩)] rfl (by decide) (by decide) ⟨row_no (o := ⟨(enc eN (ofL near l)), 30, 2⟩) rfl rfl, row_no (o := ⟨(enc eN (ofL near l)), 31, 2⟩) rfl rfl, row_no (o := ⟨(enc eN (movesL (ofL near l) right ++ List.replicate ((ofL near l).length - (movesL (ofL near l) right).length) dN)), 30, 2⟩) rfl rfl, row_no (o := ⟨(enc eN (movesL (ofL near l) right)), 31, 2⟩) rfl rfl, trivial⟩ (sr_same 11 (.v (.int .i64 (0 : Int))) rfl NoI.out (sr_map 10 (.sl 4 0 ((movesL (ofL near l) right).length)) (by first | exact Ok.sl _ _ _ (by simp) | exact Ok.pt _ _ (by simp)) rfl (sr_map 9 (.sl 3 0 ((movesL (ofL near l) right).length)) (by first | exact Ok.sl _ _ _ (by simp) | exact Ok.pt _ _ (by simp)) rfl (sr_map 8 (.sl 2 0 ((ofL near l).length)) (by first | exact Ok.sl _ _ _ (by simp) | exact Ok.pt _ _ (by simp)) rfl (sr_map 7 (.sl 1 0 ((ofL near l).length)) (by first | exact Ok.sl _ _ _ (by simp) | exact Ok.pt _ _ (by simp)) rfl (sr_same 6 (.v (.bool false)) rfl NoI.out (sr_same 1 (.ro right.length (enc eB right)) rfl NoI.out sr_none)))))))) (keep_of rfl)
      have hge := getD_pre (movesL (ofL near l) right) (List.replicate ((ofL near l).length - (movesL (ofL near l) right).length) dN) k
      refine awp_seq ?_
      refine seqR ?_
      refine opG rfl (aop_move (av := .v (.int .i64 (k : Int))) (.inl rfl) rfl rfl rfl ?_)
      refine opG rfl (aop_move (av := .sl 3 0 ((movesL (ofL near l) right).length)) (.inl rfl) rfl rfl rfl ?_)
      refine opG rfl (aop_len rfl rfl rfl rfl ut25 (len_sl rfl) ?_)
      refine opG rfl (aop_binI (u := (.bool (decide ((k : Int) < ((movesL (ofL near l) right).length : Int))))) rfl rfl rfl rfl rfl trivial rfl ?_)
      refine op0 ?_
      show AWP _ _ _ _ _
      refine awp_imp ⟨(upd (upd (upd (upd (upd (upd (upd (upd none_ 1 (.ro right.length (enc eB right))) 6 (.v (.bool false))) 7 (.sl 1 0 ((ofL near l).length))) 8 (.sl 2 0 ((ofL near l).length))) 9 (.sl 3 0 ((movesL (ofL near l) right).length))) 10 (.sl 4 0 ((movesL (ofL near l) right).length))) 11 (.v (.int .i64 (k : Int)))) 54 (.v (.bool (decide ((k : Int) < ((movesL (ofL near l) right).length : Int)))))), (updO (updO (updO (updO noOb 1 (.live ⟨(enc eN (ofL near l)), 30, 2⟩)) 2 (.live ⟨(enc eN (ofL near l)), 31, 2⟩)) 3 (.live ⟨(enc eN (movesL (ofL near l) right ++ List.replicate ((ofL near l).length - (movesL (ofL near l) right).length) dN)), 30, 2⟩)) 4 (.live ⟨(enc eN (movesL (ofL near l) right)), 31, 2⟩))⟩ (imp_le ⟨(lee_upd 54 _ rfl (lee_upd 11 _ rfl (lee_upd 10 _ rfl (lee_upd 9 _ rfl (lee_upd 8 _ rfl (lee_upd 7 _ rfl (lee_upd 6 _ rfl (lee_upd 1 _ rfl (lee_none _))))))))), fun _ => .inl rfl⟩) ?_
      refine awp_cond (decide ((k : Int) < ((movesL (ofL near l) right).length : Int))) rfl rfl (fun hc2 => ?_) (fun hc2 => ?_)
      · skip
        have hf12 := of_decide_eq_true hc2
        refine awp_skip ?_
        show AWP _ _ _ _ _
        refine awp_seq ?_
        refine awp_block ?_
        refine awp_seq ?_
        rcases Bool.eq_false_or_eq_true ((((movesL (ofL near l) right ++ List.replicate ((ofL near l).length - (movesL (ofL near l) right).length) dN).getD k dN).point) != (((movesL (ofL near l) right).getD k dN).point)) with hg13 | hg13
        · skip
          have hf14 := (bne_iff_ne).1 hg13
          exfalso; rw [hge (by omega)] at hg13; simp at hg13
        · skip
          have hf15 := (bne_eq_false_iff_eq).1 hg13
          refine awp_draw (m := 24) [(80, .v (.bool ((((movesL (ofL near l) right ++ List.replicate ((ofL near l).length - (movesL (ofL near l) right).length) dN).getD k dN).right) != (((movesL (ofL near l) right).getD k dN).right)))), (79, .v (.bool ((((movesL (ofL near l) right ++ List.replicate ((ofL near l).length - (movesL (ofL near l) right).length) dN).getD k dN).right) != (((movesL (ofL near l) right).getD k dN).right)))), (78, .v (.bool (((movesL (ofL near l) right).getD k dN).right))), (77, .pt 4 (k * 2 + 1)), (76, .pt 4 (k * 2)), (75, .v (.int .i64 (k : Int))), (74, .sl 4 0 ((movesL (ofL near l) right).length)), (73, .v (.bool (((movesL (ofL near l) right ++ List.replicate ((ofL near l).length - (movesL (ofL near l) right).length) dN).getD k dN).right))), (72, .pt 3 (k * 2 + 1)), (71, .pt 3 (k * 2)), (70, .v (.int .i64 (k : Int))), (69, .sl 3 0 ((movesL (ofL near l) right).length)), (68, .v (.bool ((((movesL (ofL near l) right ++ List.replicate ((ofL near l).length - (movesL (ofL near l) right).length) dN).getD k dN).point) != (((movesL (ofL near l) right).getD k dN).point)))), (67, .v (.bool ((((movesL (ofL near l) right ++ List.replicate ((ofL near l).length - (movesL (ofL near l) right).length) dN).getD k dN).point) != (((movesL (ofL near l) right).getD k dN).point)))), (66, .v (.int .i64 (((movesL (ofL near l) right).getD k dN).point))), (65, .pt 4 (k * 2 + 0)), (64, .pt 4 (k * 2)), (63, .v (.int .i64 (k : Int))), (62, .sl 4 0 ((movesL (ofL near l) right).length)), (61, .v (.int .i64 (((movesL (ofL near l) right ++ List.replicate ((ofL near l).length - (movesL (ofL near l) right).length) dN).getD k dN).point))), (60, .pt 3 (k * 2 + 0)), (59, .pt 3 (k * 2)), (58, .v (.int .i64 (k : Int))), (57, .sl 3 0 ((movesL (ofL near l) right).length))] mixed (by kernel_rfl) ?_ ?_
          · refine ⟨?_, ?_, ?_, ?_, ?_, ?_, ?_, ?_, ?_, ?_, ?_, ?_, ?_, ?_, ?_, ?_, ?_, ?_, ?_, ?_, ?_, ?_, ?_, ?_, trivial⟩
            · exact ⟨57, rfl, blt_lt rfl, fun st hob hE => aop_move (av := .sl 3 0 ((movesL (ofL near l) right).length)) (.inl rfl) rfl rfl (hE 9 rfl) (by rw [hob]; rfl)⟩
            · exact ⟨58, rfl, blt_lt rfl, fun st hob hE => aop_move (av := .v (.int .i64 (k : Int))) (.inl rfl) rfl rfl (hE 11 rfl) (by rw [hob]; rfl)⟩
            · exact ⟨59, rfl, blt_lt rfl, fun st hob hE => aop_ixO (k := k) rfl rfl rfl ut25 sz30 (hE 57 rfl) (hE 58 rfl) (by first | omega | (simp; done) | decide | (simp; omega) | (simp at *; omega)) (by rw [hob]; rfl)⟩
            · exact ⟨60, rfl, blt_lt rfl, fun st hob hE => aop_fieldAddr (av := .pt 3 (k * 2)) (av' := .pt 3 (k * 2 + 0)) rfl rfl rfl ft30_0 sz3 (hE 59 rfl) rfl rfl (by rw [hob]; rfl)⟩
            · exact ⟨61, rfl, blt_lt rfl, fun st hob hE => aop_ldOF (f := eN) (l := movesL (ofL near l) right ++ List.replicate ((ofL near l).length - (movesL (ofL near l) right).length) dN) (k := k) (s := 2) (off := 0) (av := .v (.int .i64 (((movesL (ofL near l) right ++ List.replicate ((ofL near l).length - (movesL (ofL near l) right).length) dN).getD k dN).point))) dN rfl rfl rfl ag3 (hE 60 rfl) (by rw [hob]; rfl) rfl (fun _ => rfl) (by first | omega | (simp; done) | decide | (simp; omega) | (simp at *; omega)) rfl (by rw [hob]; rfl)⟩
            · exact ⟨62, rfl, blt_lt rfl, fun st hob hE => aop_move (av := .sl 4 0 ((movesL (ofL near l) right).length)) (.inl rfl) rfl rfl (hE 10 rfl) (by rw [hob]; rfl)⟩
            · exact ⟨63, rfl, blt_lt rfl, fun st hob hE => aop_move (av := .v (.int .i64 (k : Int))) (.inl rfl) rfl rfl (hE 11 rfl) (by rw [hob]; rfl)⟩
            · exact ⟨64, rfl, blt_lt rfl, fun st hob hE => aop_ixO (k := k) rfl rfl rfl ut26 sz31 (hE 62 rfl) (hE 63 rfl) (by first | omega | (simp; done) | decide | (simp; omega) | (simp at *; omega)) (by rw [hob]; rfl)⟩
            · exact ⟨65, rfl, blt_lt rfl, fun st hob hE => aop_fieldAddr (av := .pt 4 (k * 2)) (av' := .pt 4 (k * 2 + 0)) rfl rfl rfl ft31_0 sz3 (hE 64 rfl) rfl rfl (by rw [hob]; rfl)⟩
            · exact ⟨66, rfl, blt_lt rfl, fun st hob hE => aop_ldOF (f := eN) (l := movesL (ofL near l) right) (k := k) (s := 2) (off := 0) (av := .v (.int .i64 (((movesL (ofL near l) right).getD k dN).point))) dN rfl rfl rfl ag3 (hE 65 rfl) (by rw [hob]; rfl) rfl (fun _ => rfl) (by first | omega | (simp; done) | decide | (simp; omega) | (simp at *; omega)) rfl (by rw [hob]; rfl)⟩
            · exact ⟨67, rfl, blt_lt rfl, fun st hob hE => aop_binI (u := (.bool ((((movesL (ofL near l) right ++ List.replicate ((ofL near l).length - (movesL (ofL near l) right).length) dN).getD k dN).point) != (((movesL (ofL near l) right).getD k dN).point)))) rfl rfl rfl (hE 61 rfl) (hE 66 rfl) trivial rfl (by rw [hob]; rfl)⟩
            · exact ⟨68, rfl, blt_lt rfl, fun st hob hE => aop_move (av := .v (.bool ((((movesL (ofL near l) right ++ List.replicate ((ofL near l).length - (movesL (ofL near l) right).length) dN).getD k dN).point) != (((movesL (ofL near l) right).getD k dN).point)))) (.inl rfl) rfl rfl (hE 67 rfl) (by rw [hob]; rfl)⟩
            · exact ⟨68, .bool ((((movesL (ofL near l) right ++ List.replicate ((ofL near l).length - (movesL (ofL near l) right).length) dN).getD k dN).point) != (((movesL (ofL near l) right).getD k dN).point)), rfl, blt_lt rfl, rfl, (fun _ => ⟨69, rfl, blt_lt rfl, fun st hob hE => aop_move (av := .sl 3 0 ((movesL (ofL near l) right).length)) (.inl rfl) rfl rfl (hE 9 rfl) (by rw [hob]; rfl)⟩), (fun h => absurd (show yv (.bool ((((movesL (ofL near l) right ++ List.replicate ((ofL near l).length - (movesL (ofL near l) right).length) dN).getD k dN).point) != (((movesL (ofL near l) right).getD k dN).point))) = _ by rw [hg13]; rfl) h)⟩
            · exact ⟨68, .bool ((((movesL (ofL near l) right ++ List.replicate ((ofL near l).length - (movesL (ofL near l) right).length) dN).getD k dN).point) != (((movesL (ofL near l) right).getD k dN).point)), rfl, blt_lt rfl, rfl, (fun _ => ⟨70, rfl, blt_lt rfl, fun st hob hE => aop_move (av := .v (.int .i64 (k : Int))) (.inl rfl) rfl rfl (hE 11 rfl) (by rw [hob]; rfl)⟩), (fun h => absurd (show yv (.bool ((((movesL (ofL near l) right ++ List.replicate ((ofL near l).length - (movesL (ofL near l) right).length) dN).getD k dN).point) != (((movesL (ofL near l) right).getD k dN).point))) = _ by rw [hg13]; rfl) h)⟩
            · exact ⟨68, .bool ((((movesL (ofL near l) right ++ List.replicate ((ofL near l).length - (movesL (ofL near l) right).length) dN).getD k dN).point) != (((movesL (ofL near l) right).getD k dN).point)), rfl, blt_lt rfl, rfl, (fun _ => ⟨71, rfl, blt_lt rfl, fun st hob hE => aop_ixO (k := k) rfl rfl rfl ut25 sz30 (hE 69 rfl) (hE 70 rfl) (by first | omega | (simp; done) | decide | (simp; omega) | (simp at *; omega)) (by rw [hob]; rfl)⟩), (fun h => absurd (show yv (.bool ((((movesL (ofL near l) right ++ List.replicate ((ofL near l).length - (movesL (ofL near l) right).length) dN).getD k dN).point) != (((movesL (ofL near l) right).getD k dN).point))) = _ by rw [hg13]; rfl) h)⟩
            · exact ⟨68, .bool ((((movesL (ofL near l) right ++ List.replicate ((ofL near l).length - (movesL (ofL near l) right).length) dN).getD k dN).point) != (((movesL (ofL near l) right).getD k dN).point)), rfl, blt_lt rfl, rfl, (fun _ => ⟨72, rfl, blt_lt rfl, fun st hob hE => aop_fieldAddr (av := .pt 3 (k * 2)) (av' := .pt 3 (k * 2 + 1)) rfl rfl rfl ft30_1 sz4 (hE 71 rfl) rfl rfl (by rw [hob]; rfl)⟩), (fun h => absurd (show yv (.bool ((((movesL (ofL near l) right ++ List.replicate ((ofL near l).length - (movesL (ofL near l) right).length) dN).getD k dN).point) != (((movesL (ofL near l) right).getD k dN).point))) = _ by rw [hg13]; rfl) h)⟩
            · exact ⟨68, .bool ((((movesL (ofL near l) right ++ List.replicate ((ofL near l).length - (movesL (ofL near l) right).length) dN).getD k dN).point) != (((movesL (ofL near l) right).getD k dN).point)), rfl, blt_lt rfl, rfl, (fun _ => ⟨73, rfl, blt_lt rfl, fun st hob hE => aop_ldOF (f := eN) (l := movesL (ofL near l) right ++ List.replicate ((ofL near l).length - (movesL (ofL near l) right).length) dN) (k := k) (s := 2) (off := 1) (av := .v (.bool (((movesL (ofL near l) right ++ List.replicate ((ofL near l).length - (movesL (ofL near l) right).length) dN).getD k dN).right))) dN rfl rfl rfl ag4 (hE 72 rfl) (by rw [hob]; rfl) rfl (fun _ => rfl) (by first | omega | (simp; done) | decide | (simp; omega) | (simp at *; omega)) rfl (by rw [hob]; rfl)⟩), (fun h => absurd (show yv (.bool ((((movesL (ofL near l) right ++ List.replicate ((ofL near l).length - (movesL (ofL near l) right).length) dN).getD k dN).point) != (((movesL (ofL near l) right).getD k dN).point))) = _ by rw [hg13]; rfl) h)⟩
            · exact ⟨68, .bool ((((movesL (ofL near l) right ++ List.replicate ((ofL near l).length - (movesL (ofL near l) right).length) dN).getD k dN).point) != (((movesL (ofL near l) right).getD k dN).point)), rfl, blt_lt rfl, rfl, (fun _ => ⟨74, rfl, blt_lt rfl, fun st hob hE => aop_move (av := .sl 4 0 ((movesL (ofL near l) right).length)) (.inl rfl) rfl rfl (hE 10 rfl) (by rw [hob]; rfl)⟩), (fun h => absurd (show yv (.bool ((((movesL (ofL near l) right ++ List.replicate ((ofL near l).length - (movesL (ofL near l) right).length) dN).getD k dN).point) != (((movesL (ofL near l) right).getD k dN).point))) = _ by rw [hg13]; rfl) h)⟩
            · exact ⟨68, .bool ((((movesL (ofL near l) right ++ List.replicate ((ofL near l).length - (movesL (ofL near l) right).length) dN).getD k dN).point) != (((movesL (ofL near l) right).getD k dN).point)), rfl, blt_lt rfl, rfl, (fun _ => ⟨75, rfl, blt_lt rfl, fun st hob hE => aop_move (av := .v (.int .i64 (k : Int))) (.inl rfl) rfl rfl (hE 11 rfl) (by rw [hob]; rfl)⟩), (fun h => absurd (show yv (.bool ((((movesL (ofL near l) right ++ List.replicate ((ofL near l).length - (movesL (ofL near l) right).length) dN).getD k dN).point) != (((movesL (ofL near l) right).getD k dN).point))) = _ by rw [hg13]; rfl) h)⟩
            · exact ⟨68, .bool ((((movesL (ofL near l) right ++ List.replicate ((ofL near l).length - (movesL (ofL near l) right).length) dN).getD k dN).point) != (((movesL (ofL near l) right).getD k dN).point)), rfl, blt_lt rfl, rfl, (fun _ => ⟨76, rfl, blt_lt rfl, fun st hob hE => aop_ixO (k := k) rfl rfl rfl ut26 sz31 (hE 74 rfl) (hE 75 rfl) (by first | omega | (simp; done) | decide | (simp; omega) | (simp at *; omega)) (by rw [hob]; rfl)⟩), (fun h => absurd (show yv (.bool ((((movesL (ofL near l) right ++ List.replicate ((ofL near l).length - (movesL (ofL near l) right).length) dN).getD k dN).point) != (((movesL (ofL near l) right).getD k dN).point))) = _ by rw [hg13]; rfl) h)⟩
            · exact ⟨68, .bool ((((movesL (ofL near l) right ++ List.replicate ((ofL near l).length - (movesL (ofL near l) right).length) dN).getD k dN).point) != (((movesL (ofL near l) right).getD k dN).point)), rfl, blt_lt rfl, rfl, (fun _ => ⟨77, rfl, blt_lt rfl, fun st hob hE => aop_fieldAddr (av := .pt 4 (k * 2)) (av' := .pt 4 (k * 2 + 1)) rfl rfl rfl ft31_1 sz4 (hE 76 rfl) rfl rfl (by rw [hob]; rfl)⟩), (fun h => absurd (show yv (.bool ((((movesL (ofL near l) right ++ List.replicate ((ofL near l).length - (movesL (ofL near l) right).length) dN).getD k dN).point) != (((movesL (ofL near l) right).getD k dN).point))) = _ by rw [hg13]; rfl) h)⟩
            · exact ⟨68, .bool ((((movesL (ofL near l) right ++ List.replicate ((ofL near l).length - (movesL (ofL near l) right).length) dN).getD k dN).point) != (((movesL (ofL near l) right).getD k dN).point)), rfl, blt_lt rfl, rfl, (fun _ => ⟨78, rfl, blt_lt rfl, fun st hob hE => aop_ldOF (f := eN) (l := movesL (ofL near l) right) (k := k) (s := 2) (off := 1) (av := .v (.bool (((movesL (ofL near l) right).getD k dN).right))) dN rfl rfl rfl ag4 (hE 77 rfl) (by rw [hob]; rfl) rfl (fun _ => rfl) (by first | omega | (simp; done) | decide | (simp; omega) | (simp at *; omega)) rfl (by rw [hob]; rfl)⟩), (fun h => absurd (show yv (.bool ((((movesL (ofL near l) right ++ List.replicate ((ofL near l).length - (movesL (ofL near l) right).length) dN).getD k dN).point) != (((movesL (ofL near l) right).getD k dN).point))) = _ by rw [hg13]; rfl) h)⟩
            · exact ⟨68, .bool ((((movesL (ofL near l) right ++ List.replicate ((ofL near l).length - (movesL (ofL near l) right).length) dN).getD k dN).point) != (((movesL (ofL near l) right).getD k dN).point)), rfl, blt_lt rfl, rfl, (fun _ => ⟨79, rfl, blt_lt rfl, fun st hob hE => aop_neB rfl rfl rfl (hE 73 rfl) (hE 78 rfl) ut4 (by rw [hob]; rfl)⟩), (fun h => absurd (show yv (.bool ((((movesL (ofL near l) right ++ List.replicate ((ofL near l).length - (movesL (ofL near l) right).length) dN).getD k dN).point) != (((movesL (ofL near l) right).getD k dN).point))) = _ by rw [hg13]; rfl) h)⟩
            · exact ⟨80, rfl, blt_lt rfl, fun st hob hE => aop_pick (b := ((((movesL (ofL near l) right ++ List.replicate ((ofL near l).length - (movesL (ofL near l) right).length) dN).getD k dN).point) != (((movesL (ofL near l) right).getD k dN).point))) (av := .v (.bool ((((movesL (ofL near l) right ++ List.replicate ((ofL near l).length - (movesL (ofL near l) right).length) dN).getD k dN).right) != (((movesL (ofL near l) right).getD k dN).right)))) rfl rfl rfl (hE 68 rfl) (by rw [hg13]; exact hE 79 rfl) (by rw [hob]; rfl)⟩
          refine op0 ?_
          show AWP _ _ _ _ _
          refine awp_cond ((((movesL (ofL near l) right ++ List.replicate ((ofL near l).length - (movesL (ofL near l) right).length) dN).getD k dN).right) != (((movesL (ofL near l) right).getD k dN).right)) rfl rfl (fun hc3 => ?_) (fun hc3 => ?_)
          · skip
            exfalso; rw [hge (by omega)] at hc3; simp at hc3
          · skip
            refine awp_skip ?_
            show AWP _ _ _ _ _
            refine regR ?_
            refine opG rfl (aop_move (av := .v (.int .i64 (k : Int))) (.inl rfl) rfl rfl rfl ?_)
            refine opG rfl (aop_binI (u := (.int .i64 ((k + 1 : Nat) : Int))) rfl rfl rfl rfl rfl trivial (addN (by omega)) ?_)
            refine opG rfl (aop_move (av := .v (.int .i64 ((k + 1 : Nat) : Int))) (.inr rfl) rfl rfl rfl ?_)
            refine op0 ?_
            show _ ∧ _
            refine ⟨by omega, trivial, ?_⟩
            exact imp_ler [(1, 1), (2, 2), (3, 3), (4, 4)] (lerL [(1, 1), (2, 2), (3, 3), (4, 4)] [((1, 1), .live ⟨(enc eN (ofL near l)), 30, 2⟩), ((2, 2), .live ⟨(enc eN (ofL near l)), 31, 2⟩), ((3, 3), .live ⟨(enc eN (movesL (ofL near l) right ++ List.replicate ((ofL near l).length - (movesL (ofL near l) right).length) dN)), 30, 2⟩), ((4, 4), .live ⟨(enc eN (movesL (ofL near l) right)), 31, 2⟩)] rfl (by decide) (by decide) ⟨row_no (o := ⟨(enc eN (ofL near l)), 30, 2⟩) rfl rfl, row_no (o := ⟨(enc eN (ofL near l)), 31, 2⟩) rfl rfl, row_no (o := ⟨(enc eN (movesL (ofL near l) right ++ List.replicate ((ofL near l).length - (movesL (ofL near l) right).length) dN)), 30, 2⟩) rfl rfl, row_no (o := ⟨(enc eN (movesL (ofL near l) right)), 31, 2⟩) rfl rfl, trivial⟩ (sr_same 11 (.v (.int .i64 ((k + 1) : Int))) rfl NoI.out (sr_map 10 (.sl 4 0 ((movesL (ofL near l) right).length)) (by first | exact Ok.sl _ _ _ (by simp) | exact Ok.pt _ _ (by simp)) rfl (sr_map 9 (.sl 3 0 ((movesL (ofL near l) right).length)) (by first | exact Ok.sl _ _ _ (by simp) | exact Ok.pt _ _ (by simp)) rfl (sr_map 8 (.sl 2 0 ((ofL near l).length)) (by first | exact Ok.sl _ _ _ (by simp) | exact Ok.pt _ _ (by simp)) rfl (sr_map 7 (.sl 1 0 ((ofL near l).length)) (by first | exact Ok.sl _ _ _ (by simp) | exact Ok.pt _ _ (by simp)) rfl (sr_same 6 (.v (.bool false)) rfl NoI.out (sr_same 1 (.ro right.length (enc eB right)) rfl NoI.out sr_none)))))))) (keep_of rfl)
      · skip
        have hf16 := of_decide_eq_false hc2
        refine awp_exit ?_
        show AWP _ _ _ _ _
        refine seqR ?_
        refine opG rfl (aop_move (av := .ro right.length (enc eB right)) (.inl rfl) rfl rfl rfl ?_)
        refine opG rfl (aop_move (av := .sl 1 0 ((ofL near l).length)) (.inl rfl) rfl rfl rfl ?_)
        refine opG rfl (callO_ 55 (p_Move right (ofL near l) (by first | omega | (simp; done) | decide | (simp; omega) | (simp at *; omega)) (by first | omega | (simp; done) | decide | (simp; omega) | (simp at *; omega))) rfl rfl rfl rfl rfl bd10 (lends_cons (lend_n (av := .ro right.length (enc eB right))) (lends_cons (lend_s (id := 1) (n := (ofL near l).length) (o := ⟨(enc eN (ofL near l)), 30, 2⟩) rfl (enc_len (fun _ => rfl) rfl)) lends_nil)) (.sl _ _ _ trivial) (news1 news0) (free1 rfl) rfl rfl ?_)
        refine opG rfl (aop_move (av := .ro right.length (enc eB right)) (.inl rfl) rfl rfl rfl ?_)
        refine opG rfl (aop_move (av := .sl 2 0 ((ofL near l).length)) (.inl rfl) rfl rfl rfl ?_)
        refine opG rfl (callO_ 56 (r14_Move right (ofL near l) (by first | omega | (simp; done) | decide | (simp; omega) | (simp at *; omega)) (by first | omega | (simp; done) | decide | (simp; omega) | (simp at *; omega))) rfl rfl rfl rfl rfl bd12 (lends_cons (lend_n (av := .ro right.length (enc eB right))) (lends_cons (lend_s (id := 2) (n := (ofL near l).length) (o := ⟨(enc eN (ofL near l)), 31, 2⟩) rfl (enc_len (fun _ => rfl) rfl)) lends_nil)) (.sl _ _ _ trivial) (news1 news0) (free1 rfl) rfl rfl ?_)
        refine opG rfl (callL_ (r01_Bools (moveL right (ofL near l)) (moveL right (ofL near l)) (by first | omega | (simp; done) | decide | (simp; omega) | (simp at *; omega))) rfl rfl rfl rfl rfl bd11 (lends_cons (lend_s (id := 55) (n := (moveL right (ofL near l)).length) (o := ⟨(enc eB (moveL right (ofL near l))), 4, 1⟩) rfl (enc_len (fun _ => rfl) rfl)) (lends_cons (lend_s (id := 56) (n := (moveL right (ofL near l)).length) (o := ⟨(enc eB (moveL right (ofL near l))), 4, 1⟩) rfl (enc_len (fun _ => rfl) rfl)) lends_nil)) ?_)
        refine opG rfl (aop_move (av := .v (.bool (decide ((moveL right (ofL near l)) = (moveL right (ofL near l)))))) (.inl rfl) rfl rfl rfl ?_)
        refine aops_cut 8 ⟨(upd (upd none_ 6 (.v (.bool false))) 96 (.v (.bool ((decide ((moveL right (ofL near l)) = (moveL right (ofL near l)))) && (decide ((moveL right (movesL (ofL near l) right)) = (moveL right (movesL (ofL near l) right)))))))), noOb⟩ ?_ ?_
        · rcases Bool.eq_false_or_eq_true (decide ((moveL right (ofL near l)) = (moveL right (ofL near l)))) with hg17 | hg17
          · skip
            refine opY rfl rfl rfl (by show AV.v (.bool (decide ((moveL right (ofL near l)) = (moveL right (ofL near l))))) = _; rw [hg17]) (aop_move (av := .ro right.length (enc eB right)) (.inl rfl) rfl rfl rfl ?_)
            refine opY rfl rfl rfl (by show AV.v (.bool (decide ((moveL right (ofL near l)) = (moveL right (ofL near l))))) = _; rw [hg17]) (aop_move (av := .sl 3 0 ((movesL (ofL near l) right).length)) (.inl rfl) rfl rfl rfl ?_)
            refine opY rfl rfl rfl (by show AV.v (.bool (decide ((moveL right (ofL near l)) = (moveL right (ofL near l))))) = _; rw [hg17]) (callO_ 57 (p_Move right (movesL (ofL near l) right) (by first | omega | (simp; done) | decide | (simp; omega) | (simp at *; omega)) (by first | omega | (simp; done) | decide | (simp; omega) | (simp at *; omega))) rfl rfl rfl rfl rfl bd10 (lends_cons (lend_n (av := .ro right.length (enc eB right))) (lends_cons (lend_p (id := 3) (n := (movesL (ofL near l) right).length) (o := ⟨(enc eN (movesL (ofL near l) right ++ List.replicate ((ofL near l).length - (movesL (ofL near l) right).length) dN)), 30, 2⟩) (f := eN) (l := movesL (ofL near l) right) (rest := List.replicate ((ofL near l).length - (movesL (ofL near l) right).length) dN) rfl rfl rfl (fun _ => rfl)) lends_nil)) (.sl _ _ _ trivial) (news1 news0) (free1 rfl) rfl rfl ?_)
            refine opY rfl rfl rfl (by show AV.v (.bool (decide ((moveL right (ofL near l)) = (moveL right (ofL near l))))) = _; rw [hg17]) (aop_move (av := .ro right.length (enc eB right)) (.inl rfl) rfl rfl rfl ?_)
            refine opY rfl rfl rfl (by show AV.v (.bool (decide ((moveL right (ofL near l)) = (moveL right (ofL near l))))) = _; rw [hg17]) (aop_move (av := .sl 4 0 ((movesL (ofL near l) right).length)) (.inl rfl) rfl rfl rfl ?_)
            refine opY rfl rfl rfl (by show AV.v (.bool (decide ((moveL right (ofL near l)) = (moveL right (ofL near l))))) = _; rw [hg17]) (callO_ 58 (r14_Move right (movesL (ofL near l) right) (by first | omega | (simp; done) | decide | (simp; omega) | (simp at *; omega)) (by first | omega | (simp; done) | decide | (simp; omega) | (simp at *; omega))) rfl rfl rfl rfl rfl bd12 (lends_cons (lend_n (av := .ro right.length (enc eB right))) (lends_cons (lend_s (id := 4) (n := (movesL (ofL near l) right).length) (o := ⟨(enc eN (movesL (ofL near l) right)), 31, 2⟩) rfl (enc_len (fun _ => rfl) rfl)) lends_nil)) (.sl _ _ _ trivial) (news1 news0) (free1 rfl) rfl rfl ?_)
            refine opY rfl rfl rfl (by show AV.v (.bool (decide ((moveL right (ofL near l)) = (moveL right (ofL near l))))) = _; rw [hg17]) (callL_ (r01_Bools (moveL right (movesL (ofL near l) right)) (moveL right (movesL (ofL near l) right)) (by first | omega | (simp; done) | decide | (simp; omega) | (simp at *; omega))) rfl rfl rfl rfl rfl bd11 (lends_cons (lend_s (id := 57) (n := (moveL right (movesL (ofL near l) right)).length) (o := ⟨(enc eB (moveL right (movesL (ofL near l) right))), 4, 1⟩) rfl (enc_len (fun _ => rfl) rfl)) (lends_cons (lend_s (id := 58) (n := (moveL right (movesL (ofL near l) right)).length) (o := ⟨(enc eB (moveL right (movesL (ofL near l) right))), 4, 1⟩) rfl (enc_len (fun _ => rfl) rfl)) lends_nil)) ?_)
            refine opG rfl (aop_pick (b := (decide ((moveL right (ofL near l)) = (moveL right (ofL near l))))) (av := .v (.bool (decide ((moveL right (movesL (ofL near l) right)) = (moveL right (movesL (ofL near l) right)))))) rfl rfl rfl rfl (by rw [hg17] <;> rfl) ?_)
            refine op0 ?_
            exact imp_ler [] (ler0 (sr_same 96 (.v (.bool ((decide ((moveL right (ofL near l)) = (moveL right (ofL near l)))) && (decide ((moveL right (movesL (ofL near l) right)) = (moveL right (movesL (ofL near l) right))))))) (by show AV.v (.bool (decide ((moveL right (movesL (ofL near l) right)) = (moveL right (movesL (ofL near l) right))))) = AV.v (.bool ((decide ((moveL right (ofL near l)) = (moveL right (ofL near l)))) && (decide ((moveL right (movesL (ofL near l) right)) = (moveL right (movesL (ofL near l) right)))))); rw [hg17] <;> rfl) NoI.out (sr_same 6 (.v (.bool false)) rfl NoI.out sr_none))) (keep_of rfl)
          · skip
            refine opN rfl rfl rfl rfl (by show yv (.bool (decide ((moveL right (ofL near l)) = (moveL right (ofL near l))))) ≠ _; rw [hg17]; intro h; cases h) rfl rfl ?_
            refine opN rfl rfl rfl rfl (by show yv (.bool (decide ((moveL right (ofL near l)) = (moveL right (ofL near l))))) ≠ _; rw [hg17]; intro h; cases h) rfl rfl ?_
            refine opN rfl rfl rfl rfl (by show yv (.bool (decide ((moveL right (ofL near l)) = (moveL right (ofL near l))))) ≠ _; rw [hg17]; intro h; cases h) rfl rfl ?_
            refine opN rfl rfl rfl rfl (by show yv (.bool (decide ((moveL right (ofL near l)) = (moveL right (ofL near l))))) ≠ _; rw [hg17]; intro h; cases h) rfl rfl ?_
            refine opN rfl rfl rfl rfl (by show yv (.bool (decide ((moveL right (ofL near l)) = (moveL right (ofL near l))))) ≠ _; rw [hg17]; intro h; cases h) rfl rfl ?_
            refine opN rfl rfl rfl rfl (by show yv (.bool (decide ((moveL right (ofL near l)) = (moveL right (ofL near l))))) ≠ _; rw [hg17]; intro h; cases h) rfl rfl ?_
            refine opN rfl rfl rfl rfl (by show yv (.bool (decide ((moveL right (ofL near l)) = (moveL right (ofL near l))))) ≠ _; rw [hg17]; intro h; cases h) rfl rfl ?_
            refine opG rfl (aop_pick (b := (decide ((moveL right (ofL near l)) = (moveL right (ofL near l))))) (av := .v (.bool false)) rfl rfl rfl rfl (by rw [hg17] <;> rfl) ?_)
            refine op0 ?_
            exact imp_ler [] (ler0 (sr_same 96 (.v (.bool ((decide ((moveL right (ofL near l)) = (moveL right (ofL near l)))) && (decide ((moveL right (movesL (ofL near l) right)) = (moveL right (movesL (ofL near l) right))))))) (by show AV.v (.bool false) = AV.v (.bool ((decide ((moveL right (ofL near l)) = (moveL right (ofL near l)))) && (decide ((moveL right (movesL (ofL near l) right)) = (moveL right (movesL (ofL near l) right)))))); rw [hg17] <;> rfl) NoI.out (sr_same 6 (.v (.bool false)) rfl NoI.out sr_none))) (keep_of rfl)
        refine opG rfl (aop_move (av := .v (.bool ((decide ((moveL right (ofL near l)) = (moveL right (ofL near l)))) && (decide ((moveL right (movesL (ofL near l) right)) = (moveL right (movesL (ofL near l) right))))))) (.inr rfl) rfl rfl rfl ?_)
        refine op0 ?_
        show AWP _ _ _ _ _
        refine awp_ret ?_
        exact fret (av := .v (.bool ((decide ((moveL right (ofL near l)) = (moveL right (ofL near l)))) && (decide ((moveL right (movesL (ofL near l) right)) = (moveL right (movesL (ofL near l) right))))))) rfl rfl (by simp)

set_option maxRecDepth 10000 in
set_option maxHeartbeats 1000000 in
theorem l14_PointStands (l : List Need) (right : List Bool)  : Fn Try.prog 7 [.ro l.length (enc eN l), .ro right.length (enc eB right)] (.v (.bool true)) := by
  refine fnE_of_body (N := 95) Try.func7 rfl rfl (resOf1 rfl) (by simp) (fun w0 X => ?_)
  refine seqR ?_
  refine opG rfl (aop_move (av := .v (.bool false)) (.inr rfl) rfl rfl rfl ?_)
  refine op0 ?_
  show AWP _ _ _ _ _
  refine awp_seq ?_
  refine seqR ?_
  refine opG rfl (call_ (l14_grows) rfl rfl rfl rfl rfl bd8 rfl ?_)
  refine opG rfl (aop_not rfl rfl rfl rfl ?_)
  refine opG rfl (aop_move (av := .v (.bool false)) (.inl rfl) rfl rfl rfl ?_)
  refine opY rfl rfl rfl rfl (aop_move (av := .ro l.length (enc eN l)) (.inl rfl) rfl rfl rfl ?_)
  refine opY rfl rfl rfl rfl (aop_len rfl rfl rfl rfl ut22 (len_ro rfl) ?_)
  refine opY rfl rfl rfl rfl (aop_binI (u := (.bool (decide ((l.length : Int) > 8)))) rfl rfl rfl rfl rfl trivial rfl ?_)
  refine opG rfl (aop_pick (b := false) (av := .v (.bool (decide ((l.length : Int) > 8)))) rfl rfl rfl rfl rfl ?_)
  refine opG rfl (aop_move (av := .v (.bool (decide ((l.length : Int) > 8)))) (.inl rfl) rfl rfl rfl ?_)
  refine aops_grp 4 24 (.v (.bool ((decide ((l.length : Int) > 8)) || (decide ((right.length : Int) > 20))))) ?_ ?_
  · rcases Bool.eq_false_or_eq_true (decide ((l.length : Int) > 8)) with hg1 | hg1
    · skip
      have hf2 := of_decide_eq_true hg1
      refine opN rfl rfl rfl rfl (by show yv (.bool (decide ((l.length : Int) > 8))) ≠ _; rw [hg1]; intro h; cases h) rfl rfl ?_
      refine opN rfl rfl rfl rfl (by show yv (.bool (decide ((l.length : Int) > 8))) ≠ _; rw [hg1]; intro h; cases h) rfl rfl ?_
      refine opN rfl rfl rfl rfl (by show yv (.bool (decide ((l.length : Int) > 8))) ≠ _; rw [hg1]; intro h; cases h) rfl rfl ?_
      refine opG rfl (aop_pick (b := (decide ((l.length : Int) > 8))) rfl rfl rfl rfl (by rw [hg1] <;> rfl) ?_)
      refine op0 ?_
      exact imp_env (lee_both 24 _ _ (by rw [hg1] <;> rfl) (lee_out 23 _ rfl (lee_out 22 _ rfl (lee_out 21 _ rfl (lee_same _)))))
    · skip
      have hf3 := of_decide_eq_false hg1
      refine opY rfl rfl rfl (by show AV.v (.bool (decide ((l.length : Int) > 8))) = _; rw [hg1]) (aop_move (av := .ro right.length (enc eB right)) (.inl rfl) rfl rfl rfl ?_)
      refine opY rfl rfl rfl (by show AV.v (.bool (decide ((l.length : Int) > 8))) = _; rw [hg1]) (aop_len rfl rfl rfl rfl ut23 (len_ro rfl) ?_)
      refine opY rfl rfl rfl (by show AV.v (.bool (decide ((l.length : Int) > 8))) = _; rw [hg1]) (aop_binI (u := (.bool (decide ((right.length : Int) > 20)))) rfl rfl rfl rfl rfl trivial rfl ?_)
      refine opG rfl (aop_pick (b := (decide ((l.length : Int) > 8))) rfl rfl rfl rfl (by rw [hg1] <;> rfl) ?_)
      refine op0 ?_
      exact imp_env (lee_both 24 _ _ (by rw [hg1] <;> rfl) (lee_out 23 _ rfl (lee_out 22 _ rfl (lee_out 21 _ rfl (lee_same _)))))
  refine op0 ?_
  show AWP _ _ _ _ _
  refine awp_imp ⟨(upd (upd (upd (upd none_ 0 (.ro l.length (enc eN l))) 1 (.ro right.length (enc eB right))) 4 (.v (.bool false))) 24 (.v (.bool ((decide ((l.length : Int) > 8)) || (decide ((right.length : Int) > 20)))))), noOb⟩ (imp_le ⟨(lee_upd 24 _ rfl (lee_upd 4 _ rfl (lee_upd 1 _ rfl (lee_upd 0 _ rfl (lee_none _))))), fun _ => .inl rfl⟩) ?_
  refine awp_cond ((decide ((l.length : Int) > 8)) || (decide ((right.length : Int) > 20))) rfl rfl (fun hc0 => ?_) (fun hc0 => ?_)
  · skip
    refine seqR ?_
    refine opG rfl (call_ (l14_grows) rfl rfl rfl rfl rfl bd8 rfl ?_)
    refine opG rfl (aop_move (av := .v (.bool true)) (.inr rfl) rfl rfl rfl ?_)
    refine op0 ?_
    show AWP _ _ _ _ _
    refine awp_ret ?_
    exact fret (av := .v (.bool true)) rfl rfl rfl
  · skip
    obtain ⟨hf4a, hf4b⟩ := or_f hc0
    have hf5 := of_decide_eq_false hf4a
    have hf6 := of_decide_eq_false hf4b
    refine awp_skip ?_
    show AWP _ _ _ _ _
    refine seqR ?_
    refine opG rfl (aop_move (av := .v (.slice none 0 0)) (.inr rfl) rfl rfl rfl ?_)
    refine op0 ?_
    show AWP _ _ _ _ _
    refine awp_seq ?_
    refine seqR ?_
    refine opG rfl (aop_move (av := .v (.int .i64 0)) (.inr rfl) rfl rfl rfl ?_)
    refine op0 ?_
    show AWP _ _ _ _ _
    refine awp_block ?_
    refine awp_countI (fun i => ⟨(upd (upd (upd (upd (upd none_ 0 (.ro l.length (enc eN l))) 1 (.ro right.length (enc eB right))) 4 (.v (.bool false))) 5 (.sl 1 0 ((onceL (l.take i)).length))) 6 (.v (.int .i64 (i : Int)))), (updO noOb 1 (.live ⟨(enc eN (onceL (l.take i))), 66, 2⟩))⟩) (fun i => True) (l.length) ?_ trivial (fun i hk_i hinv => ?_)
    · skip
      refine (imp_adopt 5 51 66 2 rfl rfl).trans ?_
      exact imp_ler [(51, 1)] (ler1 51 1 _ _ rfl rfl (NoIL.out (l := [])) (sr_same 6 (.v (.int .i64 (0 : Int))) rfl NoI.out (sr_map 5 (.sl 1 0 ((onceL (l.take 0)).length)) (by first | exact Ok.sl _ _ _ (by simp) | exact Ok.pt _ _ (by simp)) rfl (sr_same 4 (.v (.bool false)) rfl NoI.out (sr_same 1 (.ro right.length (enc eB right)) rfl NoI.out (sr_same 0 (.ro l.length (enc eN l)) rfl NoI.out sr_none)))))) (keep_of rfl)
    have hml := onceL_len (l.take i)
    have hti : (l.take i).length ≤ l.length := by simp; omega
    have hof := ofL_false (onceL (l.take i))
    have hon := onceL_once (l.take i)
    have hmv := moveL_len right (onceL (l.take i))
    have hof1 : (ofL false (onceL (l.take i))).length = (onceL (l.take i)).length := by rw [hof]
    have hmv1 : (moveL right (ofL false (onceL (l.take i)))).length ≤ right.length + 8 * (onceL (l.take i)).length := by rw [hof]; exact hmv
    have hmv2 := moveL_len (moveL right (ofL false (onceL (l.take i)))) (ofL false (onceL (l.take i)))
    refine awp_seq ?_
    refine seqR ?_
    refine opG rfl (aop_move (av := .v (.int .i64 (i : Int))) (.inl rfl) rfl rfl rfl ?_)
    refine opG rfl (aop_move (av := .ro l.length (enc eN l)) (.inl rfl) rfl rfl rfl ?_)
    refine opG rfl (aop_len rfl rfl rfl rfl ut22 (len_ro rfl) ?_)
    refine opG rfl (aop_binI (u := (.bool (decide ((i : Int) < (l.length : Int))))) rfl rfl rfl rfl rfl trivial rfl ?_)
    refine op0 ?_
    show AWP _ _ _ _ _
    refine awp_imp ⟨(upd (upd (upd (upd (upd (upd none_ 0 (.ro l.length (enc eN l))) 1 (.ro right.length (enc eB right))) 4 (.v (.bool false))) 5 (.sl 1 0 ((onceL (l.take i)).length))) 6 (.v (.int .i64 (i : Int)))) 29 (.v (.bool (decide ((i : Int) < (l.length : Int)))))), (updO noOb 1 (.live ⟨(enc eN (onceL (l.take i))), 66, 2⟩))⟩ (imp_le ⟨(lee_upd 29 _ rfl (lee_upd 6 _ rfl (lee_upd 5 _ rfl (lee_upd 4 _ rfl (lee_upd 1 _ rfl (lee_upd 0 _ rfl (lee_none _))))))), fun _ => .inl rfl⟩) ?_
    refine awp_cond (decide ((i : Int) < (l.length : Int))) rfl rfl (fun hc1 => ?_) (fun hc1 => ?_)
    · skip
      have hf7 := of_decide_eq_true hc1
      refine awp_skip ?_
      show AWP _ _ _ _ _
      refine awp_seq ?_
      refine awp_block ?_
      refine seqR ?_
      refine opG rfl (aop_move (av := .ro l.length (enc eN l)) (.inl rfl) rfl rfl rfl ?_)
      refine opG rfl (aop_move (av := .v (.int .i64 (i : Int))) (.inl rfl) rfl rfl rfl ?_)
      refine opG rfl (aop_ixE dN rfl rfl rfl ut22 sz66 rfl rfl (fun _ => rfl) rfl (by first | omega | (simp; done) | decide | (simp; omega) | (simp at *; omega)) ?_)
      refine opG rfl (aop_fieldAddr (av := .rp (([.v (.int .i64 ((l.getD i dN).point)), .v (.bool ((l.getD i dN).right))] : List AV) ++ ((enc eN l).drop ((i + 1) * 2)))) (av' := .rp (([.v (.int .i64 ((l.getD i dN).point)), .v (.bool ((l.getD i dN).right))] : List AV) ++ ((enc eN l).drop ((i + 1) * 2)))) rfl rfl rfl ft66_0 sz3 rfl rfl rfl ?_)
      refine opG rfl (aop_ld (av := .v (.int .i64 ((l.getD i dN).point))) rfl rfl rfl ag3 rfl rfl ?_)
      refine opG rfl (aop_binI (u := (.int .i64 (Int.tmod ((l.getD i dN).point) 8))) rfl rfl rfl rfl rfl (by show _ ≠ _; decide) rfl ?_)
      refine opG rfl (aop_move (av := .v (.int .i64 (Int.tmod ((l.getD i dN).point) 8))) (.inr rfl) rfl rfl rfl ?_)
      refine op0 ?_
      show AWP _ _ _ _ _
      refine awp_imp ⟨(upd (upd (upd (upd (upd (upd none_ 0 (.ro l.length (enc eN l))) 1 (.ro right.length (enc eB right))) 4 (.v (.bool false))) 5 (.sl 1 0 ((onceL (l.take i)).length))) 6 (.v (.int .i64 (i : Int)))) 7 (.v (.int .i64 (Int.tmod ((l.getD i dN).point) 8)))), (updO noOb 1 (.live ⟨(enc eN (onceL (l.take i))), 66, 2⟩))⟩ (imp_le ⟨(lee_upd 7 _ rfl (lee_upd 6 _ rfl (lee_upd 5 _ rfl (lee_upd 4 _ rfl (lee_upd 1 _ rfl (lee_upd 0 _ rfl (lee_none _))))))), fun _ => .inl rfl⟩) ?_
      refine awp_seq ?_
      refine seqR ?_
      refine opG rfl (aop_move (av := .v (.int .i64 (Int.tmod ((l.getD i dN).point) 8))) (.inl rfl) rfl rfl rfl ?_)
      refine opG rfl (aop_binI (u := (.bool (decide ((Int.tmod ((l.getD i dN).point) 8) < 0)))) rfl rfl rfl rfl rfl trivial rfl ?_)
      refine op0 ?_
      show AWP _ _ _ _ _
      refine cutK ⟨(upd (upd (upd (upd (upd (upd (upd (upd none_ 0 (.ro l.length (enc eN l))) 1 (.ro right.length (enc eB right))) 4 (.v (.bool false))) 5 (.sl 1 0 ((onceL (l.take i)).length))) 6 (.v (.int .i64 (i : Int)))) 7 (.v (.int .i64 (absP (l.getD i dN).point)))) 38 (.v (.int .i64 (Int.tmod ((l.getD i dN).point) 8)))) 39 (.v (.bool (decide ((Int.tmod ((l.getD i dN).point) 8) < 0))))), (updO noOb 1 (.live ⟨(enc eN (onceL (l.take i))), 66, 2⟩))⟩ ?_ ?_
      · skip
        refine awp_cond (decide ((Int.tmod ((l.getD i dN).point) 8) < 0)) rfl rfl (fun hc2 => ?_) (fun hc2 => ?_)
        · skip
          have hf8 := of_decide_eq_true hc2
          refine regR ?_
          refine opG rfl (aop_move (av := .v (.int .i64 (Int.tmod ((l.getD i dN).point) 8))) (.inl rfl) rfl rfl rfl ?_)
          refine opG rfl (aop_neg rfl rfl rfl rfl ?_)
          refine opG rfl (aop_move (av := .v (.int .i64 (IntKind.i64.wrap (0 - (Int.tmod ((l.getD i dN).point) 8))))) (.inr rfl) rfl rfl rfl ?_)
          refine op0 ?_
          show Imp _ _ _
          exact imp_ler [(1, 1)] (ler1 1 1 _ _ rfl rfl (NoIL.out (l := (enc eN (onceL (l.take i))))) (sr_same 39 (.v (.bool (decide ((Int.tmod ((l.getD i dN).point) 8) < 0)))) rfl NoI.out (sr_same 38 (.v (.int .i64 (Int.tmod ((l.getD i dN).point) 8))) rfl NoI.out (sr_same 7 (.v (.int .i64 (absP (l.getD i dN).point))) (by exact congrArg (fun n_ : Int => AV.v (.int .i64 n_)) (by first | exact absP_neg hc2 | exact absP_pos hc2)) NoI.out (sr_same 6 (.v (.int .i64 (i : Int))) rfl NoI.out (sr_map 5 (.sl 1 0 ((onceL (l.take i)).length)) (by first | exact Ok.sl _ _ _ (by simp) | exact Ok.pt _ _ (by simp)) rfl (sr_same 4 (.v (.bool false)) rfl NoI.out (sr_same 1 (.ro right.length (enc eB right)) rfl NoI.out (sr_same 0 (.ro l.length (enc eN l)) rfl NoI.out sr_none))))))))) (keep_of rfl)
        · skip
          have hf9 := of_decide_eq_false hc2
          refine awp_skip ?_
          show Imp _ _ _
          exact imp_ler [(1, 1)] (ler1 1 1 _ _ rfl rfl (NoIL.out (l := (enc eN (onceL (l.take i))))) (sr_same 39 (.v (.bool (decide ((Int.tmod ((l.getD i dN).point) 8) < 0)))) rfl NoI.out (sr_same 38 (.v (.int .i64 (Int.tmod ((l.getD i dN).point) 8))) rfl NoI.out (sr_same 7 (.v (.int .i64 (absP (l.getD i dN).point))) (by exact congrArg (fun n_ : Int => AV.v (.int .i64 n_)) (by first | exact absP_neg hc2 | exact absP_pos hc2)) NoI.out (sr_same 6 (.v (.int .i64 (i : Int))) rfl NoI.out (sr_map 5 (.sl 1 0 ((onceL (l.take i)).length)) (by first | exact Ok.sl _ _ _ (by simp) | exact Ok.pt _ _ (by simp)) rfl (sr_same 4 (.v (.bool false)) rfl NoI.out (sr_same 1 (.ro right.length (enc eB right)) rfl NoI.out (sr_same 0 (.ro l.length (enc eN l)) rfl NoI.out sr_none))))))))) (keep_of rfl)
      show AWP _ _ _ _ _
      refine seqR ?_
      refine opG rfl (aop_move (av := .v (.bool false)) (.inr rfl) rfl rfl rfl ?_)
      refine op0 ?_
      show AWP _ _ _ _ _
      refine awp_seq ?_
      refine seqR ?_
      refine opG rfl (aop_move (av := .v (.int .i64 0)) (.inr rfl) rfl rfl rfl ?_)
      refine op0 ?_
      show AWP _ _ _ _ _
      refine awp_block ?_
      refine awp_countI (fun k => ⟨(upd (upd (upd (upd (upd (upd (upd (upd none_ 0 (.ro l.length (enc eN l))) 1 (.ro right.length (enc eB right))) 4 (.v (.bool false))) 5 (.sl 1 0 ((onceL (l.take i)).length))) 6 (.v (.int .i64 (i : Int)))) 7 (.v (.int .i64 (absP (l.getD i dN).point)))) 8 (.v (.bool (knownP ((onceL (l.take i)).take k) (absP (l.getD i dN).point))))) 9 (.v (.int .i64 (k : Int)))), (updO noOb 1 (.live ⟨(enc eN (onceL (l.take i))), 66, 2⟩))⟩) (fun k => True) ((onceL (l.take i)).length) ?_ trivial (fun k hk_k hinv => ?_)
      · skip
        exact imp_ler [(1, 1)] (ler1 1 1 _ _ rfl rfl (NoIL.out (l := (enc eN (onceL (l.take i))))) (sr_same 9 (.v (.int .i64 (0 : Int))) rfl NoI.out (sr_same 8 (.v (.bool (knownP ((onceL (l.take i)).take 0) (absP (l.getD i dN).point)))) rfl NoI.out (sr_same 7 (.v (.int .i64 (absP (l.getD i dN).point))) rfl NoI.out (sr_same 6 (.v (.int .i64 (i : Int))) rfl NoI.out (sr_map 5 (.sl 1 0 ((onceL (l.take i)).length)) (by first | exact Ok.sl _ _ _ (by simp) | exact Ok.pt _ _ (by simp)) rfl (sr_same 4 (.v (.bool false)) rfl NoI.out (sr_same 1 (.ro right.length (enc eB right)) rfl NoI.out (sr_same 0 (.ro l.length (enc eN l)) rfl NoI.out sr_none))))))))) (keep_of rfl)
      refine awp_seq ?_
      refine seqR ?_
      refine opG rfl (aop_move (av := .v (.int .i64 (k : Int))) (.inl rfl) rfl rfl rfl ?_)
      refine opG rfl (aop_move (av := .sl 1 0 ((onceL (l.take i)).length)) (.inl rfl) rfl rfl rfl ?_)
      refine opG rfl (aop_len rfl rfl rfl rfl ut22 (len_sl rfl) ?_)
      refine opG rfl (aop_binI (u := (.bool (decide ((k : Int) < ((onceL (l.take i)).length : Int))))) rfl rfl rfl rfl rfl trivial rfl ?_)
      refine op0 ?_
      show AWP _ _ _ _ _
      refine awp_imp ⟨(upd (upd (upd (upd (upd (upd (upd (upd (upd none_ 0 (.ro l.length (enc eN l))) 1 (.ro right.length (enc eB right))) 4 (.v (.bool false))) 5 (.sl 1 0 ((onceL (l.take i)).length))) 6 (.v (.int .i64 (i : Int)))) 7 (.v (.int .i64 (absP (l.getD i dN).point)))) 8 (.v (.bool (knownP ((onceL (l.take i)).take k) (absP (l.getD i dN).point))))) 9 (.v (.int .i64 (k : Int)))) 45 (.v (.bool (decide ((k : Int) < ((onceL (l.take i)).length : Int)))))), (updO noOb 1 (.live ⟨(enc eN (onceL (l.take i))), 66, 2⟩))⟩ (imp_le ⟨(lee_upd 45 _ rfl (lee_upd 9 _ rfl (lee_upd 8 _ rfl (lee_upd 7 _ rfl (lee_upd 6 _ rfl (lee_upd 5 _ rfl (lee_upd 4 _ rfl (lee_upd 1 _ rfl (lee_upd 0 _ rfl (lee_none _)))))))))), fun _ => .inl rfl⟩) ?_
      refine awp_cond (decide ((k : Int) < ((onceL (l.take i)).length : Int))) rfl rfl (fun hc3 => ?_) (fun hc3 => ?_)
      · skip
        have hf10 := of_decide_eq_true hc3
        refine awp_skip ?_
        show AWP _ _ _ _ _
        refine awp_seq ?_
        refine awp_block ?_
        refine regR ?_
        refine opG rfl (aop_move (av := .v (.bool (knownP ((onceL (l.take i)).take k) (absP (l.getD i dN).point)))) (.inl rfl) rfl rfl rfl ?_)
        refine opG rfl (aop_move (av := .v (.bool (knownP ((onceL (l.take i)).take k) (absP (l.getD i dN).point)))) (.inl rfl) rfl rfl rfl ?_)
        refine aops_grp 8 57 (.v (.bool ((knownP ((onceL (l.take i)).take k) (absP (l.getD i dN).point)) || ((((onceL (l.take i)).getD k dN).point) == (absP (l.getD i dN).point))))) ?_ ?_
        · rcases Bool.eq_false_or_eq_true (knownP ((onceL (l.take i)).take k) (absP (l.getD i dN).point)) with hg11 | hg11
          · skip
            refine opN rfl rfl rfl rfl (by show yv (.bool (knownP ((onceL (l.take i)).take k) (absP (l.getD i dN).point))) ≠ _; rw [hg11]; intro h; cases h) rfl rfl ?_
            refine opN rfl rfl rfl rfl (by show yv (.bool (knownP ((onceL (l.take i)).take k) (absP (l.getD i dN).point))) ≠ _; rw [hg11]; intro h; cases h) rfl rfl ?_
            refine opN rfl rfl rfl rfl (by show yv (.bool (knownP ((onceL (l.take i)).take k) (absP (l.getD i dN).point))) ≠ _; rw [hg11]; intro h; cases h) rfl rfl ?_
            refine opN rfl rfl rfl rfl (by show yv (.bool (knownP ((onceL (l.take i)).take k) (absP (l.getD i dN).point))) ≠ _; rw [hg11]; intro h; cases h) rfl rfl ?_
            refine opN rfl rfl rfl rfl (by show yv (.bool (knownP ((onceL (l.take i)).take k) (absP (l.getD i dN).point))) ≠ _; rw [hg11]; intro h; cases h) rfl rfl ?_
            refine opN rfl rfl rfl rfl (by show yv (.bool (knownP ((onceL (l.take i)).take k) (absP (l.getD i dN).point))) ≠ _; rw [hg11]; intro h; cases h) rfl rfl ?_
            refine opN rfl rfl rfl rfl (by show yv (.bool (knownP ((onceL (l.take i)).take k) (absP (l.getD i dN).point))) ≠ _; rw [hg11]; intro h; cases h) rfl rfl ?_
            refine opG rfl (aop_pick (b := (knownP ((onceL (l.take i)).take k) (absP (l.getD i dN).point))) rfl rfl rfl rfl (by rw [hg11] <;> rfl) ?_)
            refine op0 ?_
            exact imp_env (lee_both 57 _ _ (by rw [hg11] <;> rfl) (lee_out 56 _ rfl (lee_out 55 _ rfl (lee_out 54 _ rfl (lee_out 53 _ rfl (lee_out 52 _ rfl (lee_out 51 _ rfl (lee_out 50 _ rfl (lee_same _)))))))))
          · skip
            refine opY rfl rfl rfl (by show AV.v (.bool (knownP ((onceL (l.take i)).take k) (absP (l.getD i dN).point))) = _; rw [hg11]) (aop_move (av := .sl 1 0 ((onceL (l.take i)).length)) (.inl rfl) rfl rfl rfl ?_)
            refine opY rfl rfl rfl (by show AV.v (.bool (knownP ((onceL (l.take i)).take k) (absP (l.getD i dN).point))) = _; rw [hg11]) (aop_move (av := .v (.int .i64 (k : Int))) (.inl rfl) rfl rfl rfl ?_)
            refine opY rfl rfl rfl (by show AV.v (.bool (knownP ((onceL (l.take i)).take k) (absP (l.getD i dN).point))) = _; rw [hg11]) (aop_ixO (k := k) rfl rfl rfl ut22 sz66 rfl rfl (by first | omega | (simp; done) | decide | (simp; omega) | (simp at *; omega)) ?_)
            refine opY rfl rfl rfl (by show AV.v (.bool (knownP ((onceL (l.take i)).take k) (absP (l.getD i dN).point))) = _; rw [hg11]) (aop_fieldAddr (av := .pt 1 (k * 2)) (av' := .pt 1 (k * 2 + 0)) rfl rfl rfl ft66_0 sz3 rfl rfl rfl ?_)
            refine opY rfl rfl rfl (by show AV.v (.bool (knownP ((onceL (l.take i)).take k) (absP (l.getD i dN).point))) = _; rw [hg11]) (aop_ldOF (f := eN) (l := onceL (l.take i)) (k := k) (s := 2) (off := 0) (av := .v (.int .i64 (((onceL (l.take i)).getD k dN).point))) dN rfl rfl rfl ag3 rfl rfl rfl (fun _ => rfl) (by first | omega | (simp; done) | decide | (simp; omega) | (simp at *; omega)) rfl ?_)
            refine opY rfl rfl rfl (by show AV.v (.bool (knownP ((onceL (l.take i)).take k) (absP (l.getD i dN).point))) = _; rw [hg11]) (aop_move (av := .v (.int .i64 (absP (l.getD i dN).point))) (.inl rfl) rfl rfl rfl ?_)
            refine opY rfl rfl rfl (by show AV.v (.bool (knownP ((onceL (l.take i)).take k) (absP (l.getD i dN).point))) = _; rw [hg11]) (aop_binI (u := (.bool ((((onceL (l.take i)).getD k dN).point) == (absP (l.getD i dN).point)))) rfl rfl rfl rfl rfl trivial rfl ?_)
            refine opG rfl (aop_pick (b := (knownP ((onceL (l.take i)).take k) (absP (l.getD i dN).point))) rfl rfl rfl rfl (by rw [hg11] <;> rfl) ?_)
            refine op0 ?_
            exact imp_env (lee_both 57 _ _ (by rw [hg11] <;> rfl) (lee_out 56 _ rfl (lee_out 55 _ rfl (lee_out 54 _ rfl (lee_out 53 _ rfl (lee_out 52 _ rfl (lee_out 51 _ rfl (lee_out 50 _ rfl (lee_same _)))))))))
        refine opG rfl (aop_move (av := .v (.bool ((knownP ((onceL (l.take i)).take k) (absP (l.getD i dN).point)) || ((((onceL (l.take i)).getD k dN).point) == (absP (l.getD i dN).point))))) (.inr rfl) rfl rfl rfl ?_)
        refine op0 ?_
        show AWP _ _ _ _ _
        refine regR ?_
        refine opG rfl (aop_move (av := .v (.int .i64 (k : Int))) (.inl rfl) rfl rfl rfl ?_)
        refine opG rfl (aop_binI (u := (.int .i64 ((k + 1 : Nat) : Int))) rfl rfl rfl rfl rfl trivial (addN (by omega)) ?_)
        refine opG rfl (aop_move (av := .v (.int .i64 ((k + 1 : Nat) : Int))) (.inr rfl) rfl rfl rfl ?_)
        refine op0 ?_
        show _ ∧ _
        refine ⟨by omega, trivial, ?_⟩
        exact imp_ler [(1, 1)] (ler1 1 1 _ _ rfl rfl (NoIL.out (l := (enc eN (onceL (l.take i))))) (sr_same 9 (.v (.int .i64 ((k + 1) : Int))) rfl NoI.out (sr_same 8 (.v (.bool (knownP ((onceL (l.take i)).take (k + 1)) (absP (l.getD i dN).point)))) (by exact congrArg (fun b_ => AV.v (.bool b_)) (knownP_step (m := onceL (l.take i)) (by omega))) NoI.out (sr_same 7 (.v (.int .i64 (absP (l.getD i dN).point))) rfl NoI.out (sr_same 6 (.v (.int .i64 (i : Int))) rfl NoI.out (sr_map 5 (.sl 1 0 ((onceL (l.take i)).length)) (by first | exact Ok.sl _ _ _ (by simp) | exact Ok.pt _ _ (by simp)) rfl (sr_same 4 (.v (.bool false)) rfl NoI.out (sr_same 1 (.ro right.length (enc eB right)) rfl NoI.out (sr_same 0 (.ro l.length (enc eN l)) rfl NoI.out sr_none))))))))) (keep_of rfl)
      · skip
        have hf12 := of_decide_eq_false hc3
        refine awp_exit ?_
        show AWP _ _ _ _ _
        refine seqR ?_
        refine opG rfl (aop_move (av := .v (.bool (knownP ((onceL (l.take i)).take k) (absP (l.getD i dN).point)))) (.inl rfl) rfl rfl rfl ?_)
        refine opG rfl (aop_not rfl rfl rfl rfl ?_)
        refine op0 ?_
        show AWP _ _ _ _ _
        refine awp_cond (!(knownP ((onceL (l.take i)).take k) (absP (l.getD i dN).point))) rfl rfl (fun hc4 => ?_) (fun hc4 => ?_)
        · skip
          have hf13 := not_t hc4
          refine regR ?_
          refine opG rfl (aop_move (av := .sl 1 0 ((onceL (l.take i)).length)) (.inl rfl) rfl rfl rfl ?_)
          refine opG rfl (aop_move (av := .v (.int .i64 (absP (l.getD i dN).point))) (.inl rfl) rfl rfl rfl ?_)
          refine opG rfl (aop_move (av := .ro l.length (enc eN l)) (.inl rfl) rfl rfl rfl ?_)
          refine opG rfl (aop_move (av := .v (.int .i64 (i : Int))) (.inl rfl) rfl rfl rfl ?_)
          refine opG rfl (aop_ixE dN rfl rfl rfl ut22 sz66 rfl rfl (fun _ => rfl) rfl (by first | omega | (simp; done) | decide | (simp; omega) | (simp at *; omega)) ?_)
          refine opG rfl (aop_fieldAddr (av := .rp (([.v (.int .i64 ((l.getD i dN).point)), .v (.bool ((l.getD i dN).right))] : List AV) ++ ((enc eN l).drop ((i + 1) * 2)))) (av' := .rp (([.v (.bool ((l.getD i dN).right))] : List AV) ++ ((enc eN l).drop ((i + 1) * 2)))) rfl rfl rfl ft66_1 sz4 rfl rfl rfl ?_)
          refine opG rfl (aop_ld (av := .v (.bool ((l.getD i dN).right))) rfl rfl rfl ag4 rfl rfl ?_)
          refine opG rfl (aop_build rfl rfl rfl pl66 rfl ?_)
          refine opG rfl (aop_lit rfl rfl rfl ut22 iz66 (by decide) (by decide) rfl rfl ?_)
          refine opG rfl (aop_app1 (f := eN) (l := onceL (l.take i)) 52 (⟨absP (l.getD i dN).point, (l.getD i dN).right⟩ : Need) rfl rfl rfl rfl ut22 in66 rfl (by decide) rfl rfl rfl rfl rfl rfl (fun _ => rfl) rfl rfl (by first | omega | (simp; done) | decide | (simp; omega) | (simp at *; omega)) (by first | omega | (simp; done) | decide | (simp; omega) | (simp at *; omega)) rfl ?_)
          refine opG rfl (aop_move (av := .sl 52 0 (((onceL (l.take i)) ++ [(⟨absP (l.getD i dN).point, (l.getD i dN).right⟩ : Need)]).length)) (.inr rfl) rfl rfl rfl ?_)
          refine op0 ?_
          show AWP _ _ _ _ _
          refine awp_imp ⟨(upd (upd (upd (upd (upd (upd (upd (upd none_ 0 (.ro l.length (enc eN l))) 1 (.ro right.length (enc eB right))) 4 (.v (.bool false))) 5 (.sl 52 0 (((onceL (l.take i)) ++ [(⟨absP (l.getD i dN).point, (l.getD i dN).right⟩ : Need)]).length))) 6 (.v (.int .i64 (i : Int)))) 7 (.v (.int .i64 (absP (l.getD i dN).point)))) 8 (.v (.bool (knownP ((onceL (l.take i)).take k) (absP (l.getD i dN).point))))) 9 (.v (.int .i64 (k : Int)))), (updO (updO (updO noOb 1 (.live ⟨(enc eN (onceL (l.take i))), 66, 2⟩)) 1 .dead) 52 (.live ⟨(enc eN ((onceL (l.take i)) ++ [(⟨absP (l.getD i dN).point, (l.getD i dN).right⟩ : Need)])), 66, 2⟩))⟩ (imp_le ⟨(lee_upd 9 _ rfl (lee_upd 8 _ rfl (lee_upd 7 _ rfl (lee_upd 6 _ rfl (lee_upd 5 _ rfl (lee_upd 4 _ rfl (lee_upd 1 _ rfl (lee_upd 0 _ rfl (lee_none _))))))))), fun _ => .inl rfl⟩) ?_
          refine regR ?_
          refine opG rfl (aop_move (av := .v (.int .i64 (i : Int))) (.inl rfl) rfl rfl rfl ?_)
          refine opG rfl (aop_binI (u := (.int .i64 ((i + 1 : Nat) : Int))) rfl rfl rfl rfl rfl trivial (addN (by omega)) ?_)
          refine opG rfl (aop_move (av := .v (.int .i64 ((i + 1 : Nat) : Int))) (.inr rfl) rfl rfl rfl ?_)
          refine op0 ?_
          show _ ∧ _
          have hkk : (onceL (l.take i)).take k = onceL (l.take i) := List.take_of_length_le (by omega)
          have hs := onceL_on (l := l) (k := i) (by omega) (by rw [hkk] at hc4; simpa using hc4)
          refine ⟨by omega, trivial, ?_⟩
          exact imp_ler [(52, 1)] (ler1 52 1 _ _ rfl (by exact congrArg (fun l_ => LObj.mk (enc eN l_) 66 2) hs.symm) (NoIL.out (l := (enc eN ((onceL (l.take i)) ++ [(⟨absP (l.getD i dN).point, (l.getD i dN).right⟩ : Need)])))) (sr_same 6 (.v (.int .i64 ((i + 1) : Int))) rfl NoI.out (sr_map 5 (.sl 1 0 ((onceL (l.take (i + 1))).length)) (by first | exact Ok.sl _ _ _ (by simp) | exact Ok.pt _ _ (by simp)) (by exact congrArg (AV.sl 1 0) (congrArg List.length hs)) (sr_same 4 (.v (.bool false)) rfl NoI.out (sr_same 1 (.ro right.length (enc eB right)) rfl NoI.out (sr_same 0 (.ro l.length (enc eN l)) rfl NoI.out sr_none)))))) (keep_of rfl)
        · skip
          have hf14 := not_f hc4
          refine awp_skip ?_
          show AWP _ _ _ _ _
          refine regR ?_
          refine opG rfl (aop_move (av := .v (.int .i64 (i : Int))) (.inl rfl) rfl rfl rfl ?_)
          refine opG rfl (aop_binI (u := (.int .i64 ((i + 1 : Nat) : Int))) rfl rfl rfl rfl rfl trivial (addN (by omega)) ?_)
          refine opG rfl (aop_move (av := .v (.int .i64 ((i + 1 : Nat) : Int))) (.inr rfl) rfl rfl rfl ?_)
          refine op0 ?_
          show _ ∧ _
          have hkk : (onceL (l.take i)).take k = onceL (l.take i) := List.take_of_length_le (by omega)
          have hs := onceL_off (l := l) (k := i) (by omega) (by rw [hkk] at hc4; simpa using hc4)
          refine ⟨by omega, trivial, ?_⟩
          exact imp_ler [(1, 1)] (ler1 1 1 _ _ rfl (by exact congrArg (fun l_ => LObj.mk (enc eN l_) 66 2) hs.symm) (NoIL.out (l := (enc eN (onceL (l.take i))))) (sr_same 6 (.v (.int .i64 ((i + 1) : Int))) rfl NoI.out (sr_map 5 (.sl 1 0 ((onceL (l.take (i + 1))).length)) (by first | exact Ok.sl _ _ _ (by simp) | exact Ok.pt _ _ (by simp)) (by exact congrArg (AV.sl 1 0) (congrArg List.length hs)) (sr_same 4 (.v (.bool false)) rfl NoI.out (sr_same 1 (.ro right.length (enc eB right)) rfl NoI.out (sr_same 0 (.ro l.length (enc eN l)) rfl NoI.out sr_none)))))) (keep_of rfl)
    · skip
      have hf15 := of_decide_eq_false hc1
      refine awp_exit ?_
      show AWP _ _ _ _ _
      refine seqR ?_
      refine opG rfl (aop_move (av := .sl 1 0 ((onceL (l.take i)).length)) (.inl rfl) rfl rfl rfl ?_)
      refine opG rfl (callO_ 53 (l14_of (onceL (l.take i)) false (by first | omega | (simp; done) | decide | (simp; omega) | (simp at *; omega))) rfl rfl rfl rfl rfl bd9 (lends_cons (lend_s (id := 1) (n := (onceL (l.take i)).length) (o := ⟨(enc eN (onceL (l.take i))), 66, 2⟩) rfl (enc_len (fun _ => rfl) rfl)) (lends_cons (lend_n (av := .v (.bool false))) lends_nil)) (.tup _ (by intro c hc; simp at hc; rcases hc with rfl | rfl <;> exact .sl _ _ _ trivial)) (news1 (news1 news0)) (free2 rfl rfl) rfl rfl ?_)
      refine opG rfl (aop_move (av := .tup [.sl 53 0 ((ofL false (onceL (l.take i))).length), .sl 54 0 ((ofL false (onceL (l.take i))).length)]) (.inl rfl) rfl rfl rfl ?_)
      refine opG rfl (aop_extract rfl rfl rfl rfl rfl ?_)
      refine opG rfl (aop_extract rfl rfl rfl rfl rfl ?_)
      refine opG rfl (aop_move (av := .sl 53 0 ((ofL false (onceL (l.take i))).length)) (.inr rfl) rfl rfl rfl ?_)
      refine opG rfl (aop_move (av := .sl 54 0 ((ofL false (onceL (l.take i))).length)) (.inr rfl) rfl rfl rfl ?_)
      refine op0 ?_
      show AWP _ _ _ _ _
      refine awp_imp ⟨(upd (upd (upd none_ 1 (.ro right.length (enc eB right))) 4 (.v (.bool false))) 10 (.sl 53 0 ((ofL false (onceL (l.take i))).length))), (updO (updO (updO noOb 1 (.live ⟨(enc eN (onceL (l.take i))), 66, 2⟩)) 53 (.live ⟨(enc eN (ofL false (onceL (l.take i)))), 30, 2⟩)) 54 (.live ⟨(enc eN (ofL false (onceL (l.take i)))), 31, 2⟩))⟩ (imp_le ⟨(lee_upd 10 _ rfl (lee_upd 4 _ rfl (lee_upd 1 _ rfl (lee_none _)))), fun _ => .inl rfl⟩) ?_
      refine seqR ?_
      refine opG rfl (aop_move (av := .ro right.length (enc eB right)) (.inl rfl) rfl rfl rfl ?_)
      refine opG rfl (aop_move (av := .sl 53 0 ((ofL false (onceL (l.take i))).length)) (.inl rfl) rfl rfl rfl ?_)
      refine opG rfl (callO_ 55 (p_Move right (ofL false (onceL (l.take i))) (by first | omega | (simp; done) | decide | (simp; omega) | (simp at *; omega)) (by first | omega | (simp; done) | decide | (simp; omega) | (simp at *; omega))) rfl rfl rfl rfl rfl bd10 (lends_cons (lend_n (av := .ro right.length (enc eB right))) (lends_cons (lend_s (id := 53) (n := (ofL false (onceL (l.take i))).length) (o := ⟨(enc eN (ofL false (onceL (l.take i)))), 30, 2⟩) rfl (enc_len (fun _ => rfl) rfl)) lends_nil)) (.sl _ _ _ trivial) (news1 news0) (free1 rfl) rfl rfl ?_)
      refine opG rfl (aop_move (av := .sl 55 0 ((moveL right (ofL false (onceL (l.take i)))).length)) (.inr rfl) rfl rfl rfl ?_)
      refine op0 ?_
      show AWP _ _ _ _ _
      refine awp_imp ⟨(upd (upd (upd none_ 4 (.v (.bool false))) 10 (.sl 53 0 ((ofL false (onceL (l.take i))).length))) 12 (.sl 55 0 ((moveL right (ofL false (onceL (l.take i)))).length))), (updO (updO (updO (updO noOb 1 (.live ⟨(enc eN (onceL (l.take i))), 66, 2⟩)) 53 (.live ⟨(enc eN (ofL false (onceL (l.take i)))), 30, 2⟩)) 54 (.live ⟨(enc eN (ofL false (onceL (l.take i)))), 31, 2⟩)) 55 (.live ⟨(enc eB (moveL right (ofL false (onceL (l.take i))))), 4, 1⟩))⟩ (imp_le ⟨(lee_upd 12 _ rfl (lee_upd 10 _ rfl (lee_upd 4 _ rfl (lee_none _)))), fun _ => .inl rfl⟩) ?_
      refine seqR ?_
      refine opG rfl (aop_move (av := .sl 53 0 ((ofL false (onceL (l.take i))).length)) (.inl rfl) rfl rfl rfl ?_)
      refine opG rfl (aop_move (av := .sl 55 0 ((moveL right (ofL false (onceL (l.take i)))).length)) (.inl rfl) rfl rfl rfl ?_)
      refine opG rfl (callL_ (p_Stands (ofL false (onceL (l.take i))) (moveL right (ofL false (onceL (l.take i)))) (by first | omega | (simp; done) | decide | (simp; omega) | (simp at *; omega)) (by first | omega | (simp; done) | decide | (simp; omega) | (simp at *; omega))) rfl rfl rfl rfl rfl bd20 (lends_cons (lend_s (id := 53) (n := (ofL false (onceL (l.take i))).length) (o := ⟨(enc eN (ofL false (onceL (l.take i)))), 30, 2⟩) rfl (enc_len (fun _ => rfl) rfl)) (lends_cons (lend_s (id := 55) (n := (moveL right (ofL false (onceL (l.take i)))).length) (o := ⟨(enc eB (moveL right (ofL false (onceL (l.take i))))), 4, 1⟩) rfl (enc_len (fun _ => rfl) rfl)) lends_nil)) ?_)
      refine opG rfl (aop_move (av := .v (.bool (!((ofL false (onceL (l.take i))).any (wrB (moveL right (ofL false (onceL (l.take i))))))))) (.inl rfl) rfl rfl rfl ?_)
      refine aops_cut 6 ⟨(upd (upd (upd (upd none_ 4 (.v (.bool false))) 10 (.sl 53 0 ((ofL false (onceL (l.take i))).length))) 12 (.sl 55 0 ((moveL right (ofL false (onceL (l.take i)))).length))) 87 (.v (.bool ((!((ofL false (onceL (l.take i))).any (wrB (moveL right (ofL false (onceL (l.take i))))))) && (((movesL (ofL false (onceL (l.take i))) (moveL right (ofL false (onceL (l.take i))))).length : Int) == 0))))), (updO (updO noOb 53 (.live ⟨(enc eN (ofL false (onceL (l.take i)))), 30, 2⟩)) 55 (.live ⟨(enc eB (moveL right (ofL false (onceL (l.take i))))), 4, 1⟩))⟩ ?_ ?_
      · rcases Bool.eq_false_or_eq_true (!((ofL false (onceL (l.take i))).any (wrB (moveL right (ofL false (onceL (l.take i))))))) with hg16 | hg16
        · skip
          refine opY rfl rfl rfl (by show AV.v (.bool (!((ofL false (onceL (l.take i))).any (wrB (moveL right (ofL false (onceL (l.take i)))))))) = _; rw [hg16]) (aop_move (av := .sl 53 0 ((ofL false (onceL (l.take i))).length)) (.inl rfl) rfl rfl rfl ?_)
          refine opY rfl rfl rfl (by show AV.v (.bool (!((ofL false (onceL (l.take i))).any (wrB (moveL right (ofL false (onceL (l.take i)))))))) = _; rw [hg16]) (aop_move (av := .sl 55 0 ((moveL right (ofL false (onceL (l.take i)))).length)) (.inl rfl) rfl rfl rfl ?_)
          refine opY rfl rfl rfl (by show AV.v (.bool (!((ofL false (onceL (l.take i))).any (wrB (moveL right (ofL false (onceL (l.take i)))))))) = _; rw [hg16]) (callO_ 56 (p_Moves (ofL false (onceL (l.take i))) (moveL right (ofL false (onceL (l.take i)))) (by first | omega | (simp; done) | decide | (simp; omega) | (simp at *; omega)) (by first | omega | (simp; done) | decide | (simp; omega) | (simp at *; omega))) rfl rfl rfl rfl rfl bd18 (lends_cons (lend_s (id := 53) (n := (ofL false (onceL (l.take i))).length) (o := ⟨(enc eN (ofL false (onceL (l.take i)))), 30, 2⟩) rfl (enc_len (fun _ => rfl) rfl)) (lends_cons (lend_s (id := 55) (n := (moveL right (ofL false (onceL (l.take i)))).length) (o := ⟨(enc eB (moveL right (ofL false (onceL (l.take i))))), 4, 1⟩) rfl (enc_len (fun _ => rfl) rfl)) lends_nil)) (.sl _ _ _ trivial) (news1 news0) (free1 rfl) rfl rfl ?_)
          refine opY rfl rfl rfl (by show AV.v (.bool (!((ofL false (onceL (l.take i))).any (wrB (moveL right (ofL false (onceL (l.take i)))))))) = _; rw [hg16]) (aop_len rfl rfl rfl rfl ut25 (len_sl rfl) ?_)
          refine opY rfl rfl rfl (by show AV.v (.bool (!((ofL false (onceL (l.take i))).any (wrB (moveL right (ofL false (onceL (l.take i)))))))) = _; rw [hg16]) (aop_binI (u := (.bool (((movesL (ofL false (onceL (l.take i))) (moveL right (ofL false (onceL (l.take i))))).length : Int) == 0))) rfl rfl rfl rfl rfl trivial rfl ?_)
          refine opG rfl (aop_pick (b := (!((ofL false (onceL (l.take i))).any (wrB (moveL right (ofL false (onceL (l.take i)))))))) (av := .v (.bool (((movesL (ofL false (onceL (l.take i))) (moveL right (ofL false (onceL (l.take i))))).length : Int) == 0))) rfl rfl rfl rfl (by rw [hg16] <;> rfl) ?_)
          refine op0 ?_
          exact imp_ler [(53, 53), (55, 55)] (ler2 53 53 55 55 _ _ _ _ (by decide) (by decide) rfl rfl rfl rfl (NoIL.out (l := (enc eN (ofL false (onceL (l.take i)))))) (NoIL.out (l := (enc eB (moveL right (ofL false (onceL (l.take i))))))) (sr_same 87 (.v (.bool ((!((ofL false (onceL (l.take i))).any (wrB (moveL right (ofL false (onceL (l.take i))))))) && (((movesL (ofL false (onceL (l.take i))) (moveL right (ofL false (onceL (l.take i))))).length : Int) == 0)))) (by show AV.v (.bool (((movesL (ofL false (onceL (l.take i))) (moveL right (ofL false (onceL (l.take i))))).length : Int) == 0)) = AV.v (.bool ((!((ofL false (onceL (l.take i))).any (wrB (moveL right (ofL false (onceL (l.take i))))))) && (((movesL (ofL false (onceL (l.take i))) (moveL right (ofL false (onceL (l.take i))))).length : Int) == 0))); rw [hg16] <;> rfl) NoI.out (sr_map 12 (.sl 55 0 ((moveL right (ofL false (onceL (l.take i)))).length)) (by first | exact Ok.sl _ _ _ (by simp) | exact Ok.pt _ _ (by simp)) rfl (sr_map 10 (.sl 53 0 ((ofL false (onceL (l.take i))).length)) (by first | exact Ok.sl _ _ _ (by simp) | exact Ok.pt _ _ (by simp)) rfl (sr_same 4 (.v (.bool false)) rfl NoI.out sr_none))))) (keep_of rfl)
        · skip
          refine opN rfl rfl rfl rfl (by show yv (.bool (!((ofL false (onceL (l.take i))).any (wrB (moveL right (ofL false (onceL (l.take i)))))))) ≠ _; rw [hg16]; intro h; cases h) rfl rfl ?_
          refine opN rfl rfl rfl rfl (by show yv (.bool (!((ofL false (onceL (l.take i))).any (wrB (moveL right (ofL false (onceL (l.take i)))))))) ≠ _; rw [hg16]; intro h; cases h) rfl rfl ?_
          refine opN rfl rfl rfl rfl (by show yv (.bool (!((ofL false (onceL (l.take i))).any (wrB (moveL right (ofL false (onceL (l.take i)))))))) ≠ _; rw [hg16]; intro h; cases h) rfl rfl ?_
          refine opN rfl rfl rfl rfl (by show yv (.bool (!((ofL false (onceL (l.take i))).any (wrB (moveL right (ofL false (onceL (l.take i)))))))) ≠ _; rw [hg16]; intro h; cases h) rfl rfl ?_
          refine opN rfl rfl rfl rfl (by show yv (.bool (!((ofL false (onceL (l.take i))).any (wrB (moveL right (ofL false (onceL (l.take i)))))))) ≠ _; rw [hg16]; intro h; cases h) rfl rfl ?_
          refine opG rfl (aop_pick (b := (!((ofL false (onceL (l.take i))).any (wrB (moveL right (ofL false (onceL (l.take i)))))))) (av := .v (.bool false)) rfl rfl rfl rfl (by rw [hg16] <;> rfl) ?_)
          refine op0 ?_
          exact imp_ler [(53, 53), (55, 55)] (ler2 53 53 55 55 _ _ _ _ (by decide) (by decide) rfl rfl rfl rfl (NoIL.out (l := (enc eN (ofL false (onceL (l.take i)))))) (NoIL.out (l := (enc eB (moveL right (ofL false (onceL (l.take i))))))) (sr_same 87 (.v (.bool ((!((ofL false (onceL (l.take i))).any (wrB (moveL right (ofL false (onceL (l.take i))))))) && (((movesL (ofL false (onceL (l.take i))) (moveL right (ofL false (onceL (l.take i))))).length : Int) == 0)))) (by show AV.v (.bool false) = AV.v (.bool ((!((ofL false (onceL (l.take i))).any (wrB (moveL right (ofL false (onceL (l.take i))))))) && (((movesL (ofL false (onceL (l.take i))) (moveL right (ofL false (onceL (l.take i))))).length : Int) == 0))); rw [hg16] <;> rfl) NoI.out (sr_map 12 (.sl 55 0 ((moveL right (ofL false (onceL (l.take i)))).length)) (by first | exact Ok.sl _ _ _ (by simp) | exact Ok.pt _ _ (by simp)) rfl (sr_map 10 (.sl 53 0 ((ofL false (onceL (l.take i))).length)) (by first | exact Ok.sl _ _ _ (by simp) | exact Ok.pt _ _ (by simp)) rfl (sr_same 4 (.v (.bool false)) rfl NoI.out sr_none))))) (keep_of rfl)
      refine opG rfl (aop_move (av := .v (.bool ((!((ofL false (onceL (l.take i))).any (wrB (moveL right (ofL false (onceL (l.take i))))))) && (((movesL (ofL false (onceL (l.take i))) (moveL right (ofL false (onceL (l.take i))))).length : Int) == 0)))) (.inl rfl) rfl rfl rfl ?_)
      refine aops_cut 6 ⟨(upd (upd none_ 4 (.v (.bool false))) 94 (.v (.bool (((!((ofL false (onceL (l.take i))).any (wrB (moveL right (ofL false (onceL (l.take i))))))) && (((movesL (ofL false (onceL (l.take i))) (moveL right (ofL false (onceL (l.take i))))).length : Int) == 0)) && (decide ((moveL (moveL right (ofL false (onceL (l.take i)))) (ofL false (onceL (l.take i)))) = (moveL right (ofL false (onceL (l.take i)))))))))), noOb⟩ ?_ ?_
      · rcases Bool.eq_false_or_eq_true ((!((ofL false (onceL (l.take i))).any (wrB (moveL right (ofL false (onceL (l.take i))))))) && (((movesL (ofL false (onceL (l.take i))) (moveL right (ofL false (onceL (l.take i))))).length : Int) == 0)) with hg17 | hg17
        · skip
          obtain ⟨hf18a, hf18b⟩ := and_t hg17
          have hf19 := (beq_iff_eq).1 hf18b
          refine opY rfl rfl rfl (by show AV.v (.bool ((!((ofL false (onceL (l.take i))).any (wrB (moveL right (ofL false (onceL (l.take i))))))) && (((movesL (ofL false (onceL (l.take i))) (moveL right (ofL false (onceL (l.take i))))).length : Int) == 0))) = _; rw [hg17]) (aop_move (av := .sl 55 0 ((moveL right (ofL false (onceL (l.take i)))).length)) (.inl rfl) rfl rfl rfl ?_)
          refine opY rfl rfl rfl (by show AV.v (.bool ((!((ofL false (onceL (l.take i))).any (wrB (moveL right (ofL false (onceL (l.take i))))))) && (((movesL (ofL false (onceL (l.take i))) (moveL right (ofL false (onceL (l.take i))))).length : Int) == 0))) = _; rw [hg17]) (aop_move (av := .sl 53 0 ((ofL false (onceL (l.take i))).length)) (.inl rfl) rfl rfl rfl ?_)
          refine opY rfl rfl rfl (by show AV.v (.bool ((!((ofL false (onceL (l.take i))).any (wrB (moveL right (ofL false (onceL (l.take i))))))) && (((movesL (ofL false (onceL (l.take i))) (moveL right (ofL false (onceL (l.take i))))).length : Int) == 0))) = _; rw [hg17]) (callO_ 57 (p_Move (moveL right (ofL false (onceL (l.take i)))) (ofL false (onceL (l.take i))) (by first | omega | (simp; done) | decide | (simp; omega) | (simp at *; omega)) (by first | omega | (simp; done) | decide | (simp; omega) | (simp at *; omega))) rfl rfl rfl rfl rfl bd10 (lends_cons (lend_s (id := 55) (n := (moveL right (ofL false (onceL (l.take i)))).length) (o := ⟨(enc eB (moveL right (ofL false (onceL (l.take i))))), 4, 1⟩) rfl (enc_len (fun _ => rfl) rfl)) (lends_cons (lend_s (id := 53) (n := (ofL false (onceL (l.take i))).length) (o := ⟨(enc eN (ofL false (onceL (l.take i)))), 30, 2⟩) rfl (enc_len (fun _ => rfl) rfl)) lends_nil)) (.sl _ _ _ trivial) (news1 news0) (free1 rfl) rfl rfl ?_)
          refine opY rfl rfl rfl (by show AV.v (.bool ((!((ofL false (onceL (l.take i))).any (wrB (moveL right (ofL false (onceL (l.take i))))))) && (((movesL (ofL false (onceL (l.take i))) (moveL right (ofL false (onceL (l.take i))))).length : Int) == 0))) = _; rw [hg17]) (aop_move (av := .sl 55 0 ((moveL right (ofL false (onceL (l.take i)))).length)) (.inl rfl) rfl rfl rfl ?_)
          refine opY rfl rfl rfl (by show AV.v (.bool ((!((ofL false (onceL (l.take i))).any (wrB (moveL right (ofL false (onceL (l.take i))))))) && (((movesL (ofL false (onceL (l.take i))) (moveL right (ofL false (onceL (l.take i))))).length : Int) == 0))) = _; rw [hg17]) (callL_ (r01_Bools (moveL (moveL right (ofL false (onceL (l.take i)))) (ofL false (onceL (l.take i)))) (moveL right (ofL false (onceL (l.take i)))) (by first | omega | (simp; done) | decide | (simp; omega) | (simp at *; omega))) rfl rfl rfl rfl rfl bd11 (lends_cons (lend_s (id := 57) (n := (moveL (moveL right (ofL false (onceL (l.take i)))) (ofL false (onceL (l.take i)))).length) (o := ⟨(enc eB (moveL (moveL right (ofL false (onceL (l.take i)))) (ofL false (onceL (l.take i))))), 4, 1⟩) rfl (enc_len (fun _ => rfl) rfl)) (lends_cons (lend_s (id := 55) (n := (moveL right (ofL false (onceL (l.take i)))).length) (o := ⟨(enc eB (moveL right (ofL false (onceL (l.take i))))), 4, 1⟩) rfl (enc_len (fun _ => rfl) rfl)) lends_nil)) ?_)
          refine opG rfl (aop_pick (b := ((!((ofL false (onceL (l.take i))).any (wrB (moveL right (ofL false (onceL (l.take i))))))) && (((movesL (ofL false (onceL (l.take i))) (moveL right (ofL false (onceL (l.take i))))).length : Int) == 0))) (av := .v (.bool (decide ((moveL (moveL right (ofL false (onceL (l.take i)))) (ofL false (onceL (l.take i)))) = (moveL right (ofL false (onceL (l.take i)))))))) rfl rfl rfl rfl (by rw [hg17] <;> rfl) ?_)
          refine op0 ?_
          exact imp_ler [] (ler0 (sr_same 94 (.v (.bool (((!((ofL false (onceL (l.take i))).any (wrB (moveL right (ofL false (onceL (l.take i))))))) && (((movesL (ofL false (onceL (l.take i))) (moveL right (ofL false (onceL (l.take i))))).length : Int) == 0)) && (decide ((moveL (moveL right (ofL false (onceL (l.take i)))) (ofL false (onceL (l.take i)))) = (moveL right (ofL false (onceL (l.take i))))))))) (by show AV.v (.bool (decide ((moveL (moveL right (ofL false (onceL (l.take i)))) (ofL false (onceL (l.take i)))) = (moveL right (ofL false (onceL (l.take i))))))) = AV.v (.bool (((!((ofL false (onceL (l.take i))).any (wrB (moveL right (ofL false (onceL (l.take i))))))) && (((movesL (ofL false (onceL (l.take i))) (moveL right (ofL false (onceL (l.take i))))).length : Int) == 0)) && (decide ((moveL (moveL right (ofL false (onceL (l.take i)))) (ofL false (onceL (l.take i)))) = (moveL right (ofL false (onceL (l.take i)))))))); rw [hg17] <;> rfl) NoI.out (sr_same 4 (.v (.bool false)) rfl NoI.out sr_none))) (keep_of rfl)
        · skip
          refine opN rfl rfl rfl rfl (by show yv (.bool ((!((ofL false (onceL (l.take i))).any (wrB (moveL right (ofL false (onceL (l.take i))))))) && (((movesL (ofL false (onceL (l.take i))) (moveL right (ofL false (onceL (l.take i))))).length : Int) == 0))) ≠ _; rw [hg17]; intro h; cases h) rfl rfl ?_
          refine opN rfl rfl rfl rfl (by show yv (.bool ((!((ofL false (onceL (l.take i))).any (wrB (moveL right (ofL false (onceL (l.take i))))))) && (((movesL (ofL false (onceL (l.take i))) (moveL right (ofL false (onceL (l.take i))))).length : Int) == 0))) ≠ _; rw [hg17]; intro h; cases h) rfl rfl ?_
          refine opN rfl rfl rfl rfl (by show yv (.bool ((!((ofL false (onceL (l.take i))).any (wrB (moveL right (ofL false (onceL (l.take i))))))) && (((movesL (ofL false (onceL (l.take i))) (moveL right (ofL false (onceL (l.take i))))).length : Int) == 0))) ≠ _; rw [hg17]; intro h; cases h) rfl rfl ?_
          refine opN rfl rfl rfl rfl (by show yv (.bool ((!((ofL false (onceL (l.take i))).any (wrB (moveL right (ofL false (onceL (l.take i))))))) && (((movesL (ofL false (onceL (l.take i))) (moveL right (ofL false (onceL (l.take i))))).length : Int) == 0))) ≠ _; rw [hg17]; intro h; cases h) rfl rfl ?_
          refine opN rfl rfl rfl rfl (by show yv (.bool ((!((ofL false (onceL (l.take i))).any (wrB (moveL right (ofL false (onceL (l.take i))))))) && (((movesL (ofL false (onceL (l.take i))) (moveL right (ofL false (onceL (l.take i))))).length : Int) == 0))) ≠ _; rw [hg17]; intro h; cases h) rfl rfl ?_
          refine opG rfl (aop_pick (b := ((!((ofL false (onceL (l.take i))).any (wrB (moveL right (ofL false (onceL (l.take i))))))) && (((movesL (ofL false (onceL (l.take i))) (moveL right (ofL false (onceL (l.take i))))).length : Int) == 0))) (av := .v (.bool false)) rfl rfl rfl rfl (by rw [hg17] <;> rfl) ?_)
          refine op0 ?_
          exact imp_ler [] (ler0 (sr_same 94 (.v (.bool (((!((ofL false (onceL (l.take i))).any (wrB (moveL right (ofL false (onceL (l.take i))))))) && (((movesL (ofL false (onceL (l.take i))) (moveL right (ofL false (onceL (l.take i))))).length : Int) == 0)) && (decide ((moveL (moveL right (ofL false (onceL (l.take i)))) (ofL false (onceL (l.take i)))) = (moveL right (ofL false (onceL (l.take i))))))))) (by show AV.v (.bool false) = AV.v (.bool (((!((ofL false (onceL (l.take i))).any (wrB (moveL right (ofL false (onceL (l.take i))))))) && (((movesL (ofL false (onceL (l.take i))) (moveL right (ofL false (onceL (l.take i))))).length : Int) == 0)) && (decide ((moveL (moveL right (ofL false (onceL (l.take i)))) (ofL false (onceL (l.take i)))) = (moveL right (ofL false (onceL (l.take i)))))))); rw [hg17] <;> rfl) NoI.out (sr_same 4 (.v (.bool false)) rfl NoI.out sr_none))) (keep_of rfl)
      refine opG rfl (aop_move (av := .v (.bool (((!((ofL false (onceL (l.take i))).any (wrB (moveL right (ofL false (onceL (l.take i))))))) && (((movesL (ofL false (onceL (l.take i))) (moveL right (ofL false (onceL (l.take i))))).length : Int) == 0)) && (decide ((moveL (moveL right (ofL false (onceL (l.take i)))) (ofL false (onceL (l.take i)))) = (moveL right (ofL false (onceL (l.take i))))))))) (.inr rfl) rfl rfl rfl ?_)
      refine op0 ?_
      show AWP _ _ _ _ _
      refine awp_ret ?_
      exact fret (av := .v (.bool (((!((ofL false (onceL (l.take i))).any (wrB (moveL right (ofL false (onceL (l.take i))))))) && (((movesL (ofL false (onceL (l.take i))) (moveL right (ofL false (onceL (l.take i))))).length : Int) == 0)) && (decide ((moveL (moveL right (ofL false (onceL (l.take i)))) (ofL false (onceL (l.take i)))) = (moveL right (ofL false (onceL (l.take i))))))))) rfl rfl (by rw [hof, (once_stands hon).1, moveL_still hon]; simp [(once_stands hon).2])
end Go.Lo
