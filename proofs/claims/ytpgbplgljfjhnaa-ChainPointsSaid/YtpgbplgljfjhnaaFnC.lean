/- Walks of Go functions in the logic of values. -/
import Derived.Test.YtpgbplgljfjhnaaFnCTy
import Derived.Test.YtpgbplgljfjhnaaDef
import Derived.Test.YtpgbplgljfjhnaaLay
import Derived.Test.YtpgbplgljfjhnaaFnA
set_option linter.unusedVariables false
set_option linter.unusedSimpArgs false
set_option maxRecDepth 10000
set_option maxHeartbeats 16000000
namespace Go.Lo
open Go.Proofs
theorem r05_node (secs : List Sec) (s e : Int) (hs : secs.length ≤ 65536) : Fn Try.prog 30 [.agg [.one, .ro secs.length (enc eSec secs), .one, .one, .one, .one, .one, .one, .one, .one], .agg [.v (.int .i64 s), .v (.int .i64 e)]] (.tup [.v (.int .i64 (nodeA secs s e)), .v (.bool (!noNode secs s e))]) := by
 refine fnE_of_body (N := 44) Try.func30 rfl rfl (resOf2 rfl) (by simp) (fun w0 X hL_ => ?_)
 refine seqR ?_
 refine opG rfl (aop_box 51 rfl rfl rfl rfl rfl rfl rfl ?_)
 refine opG rfl (aop_box 52 rfl rfl rfl rfl rfl rfl rfl ?_)
 refine opG rfl (aop_move (av := .i 0) (.inr rfl) rfl rfl rfl ?_)
 refine opG rfl (aop_move (av := .b false) (.inr rfl) rfl rfl rfl ?_)
 refine op0 ?_
 refine rs_ (upd (upd (upd (upd none_ 2 (.pt 51 0)) 3 (.pt 52 0)) 4 (.i 0)) 5 (.b false)) (updO (updO noOb 51 (.live ⟨[.one, .q eSec secs, .one, .one, .one, .one, .one, .one, .one, .one], 37, 1⟩)) 52 (.live ⟨[.i s, .i e], 51, 1⟩)) (lu rfl (lu rfl (lu rfl (lu rfl ln)))) rfl ?_
 refine awp_seq ?_
 refine seqR ?_
 refine opG rfl (aop_fieldAddr (av := .pt 52 0) (av' := .pt 52 0) rfl rfl rfl ft51_0 sz3 rfl rfl rfl ?_)
 refine opG rfl (aop_ld (av := .i s) rfl rfl rfl ag3 rfl rfl ?_)
 refine opG rfl (aop_binI (u := (.bool (decide (s < 0)))) rfl rfl rfl rfl rfl trivial rfl ?_)
 refine opG rfl (aop_move (av := .b (decide (s < 0))) (.inl rfl) rfl rfl rfl ?_)
 refine aops_grp 7 16 (.b ((decide (s < 0)) || (decide (s ≥ (secs.length : Int))))) ?_ ?_
 ·refine (Bool.eq_false_or_eq_true (decide (s < 0))).elim (fun hg1 => ?_) (fun hg1 => ?_)
  ·skip
   have hf2 := of_decide_eq_true hg1
   refine opN rfl rfl rfl rfl (by show yv (.bool (decide (s < 0))) ≠ _; rw [hg1]; intro h; cases h) rfl rfl ?_
   refine opN rfl rfl rfl rfl (by show yv (.bool (decide (s < 0))) ≠ _; rw [hg1]; intro h; cases h) rfl rfl ?_
   refine opN rfl rfl rfl rfl (by show yv (.bool (decide (s < 0))) ≠ _; rw [hg1]; intro h; cases h) rfl rfl ?_
   refine opN rfl rfl rfl rfl (by show yv (.bool (decide (s < 0))) ≠ _; rw [hg1]; intro h; cases h) rfl rfl ?_
   refine opN rfl rfl rfl rfl (by show yv (.bool (decide (s < 0))) ≠ _; rw [hg1]; intro h; cases h) rfl rfl ?_
   refine opN rfl rfl rfl rfl (by show yv (.bool (decide (s < 0))) ≠ _; rw [hg1]; intro h; cases h) rfl rfl ?_
   refine opG rfl (aop_pick (b := (decide (s < 0))) (av := .b true) rfl rfl rfl rfl ((congrArg (fun b_ => cond b_ _ _) hg1).trans rfl) ?_)
   refine op0 ?_
   exact imp_env (lee_both 16 _ _ (by rw [hg1] <;> rfl) (lee_out 15 _ rfl (lee_out 14 _ rfl (lee_out 13 _ rfl (lee_out 12 _ rfl (lee_out 11 _ rfl (lee_out 10 _ rfl (lee_same _))))))))
  ·skip
   have hf3 := of_decide_eq_false hg1
   refine opY rfl rfl rfl (by show AV.v (.bool (decide (s < 0))) = _; rw [hg1]) (aop_fieldAddr (av := .pt 52 0) (av' := .pt 52 0) rfl rfl rfl ft51_0 sz3 rfl rfl rfl ?_)
   refine opY rfl rfl rfl (by show AV.v (.bool (decide (s < 0))) = _; rw [hg1]) (aop_ld (av := .i s) rfl rfl rfl ag3 rfl rfl ?_)
   refine opY rfl rfl rfl (by show AV.v (.bool (decide (s < 0))) = _; rw [hg1]) (aop_fieldAddr (av := .pt 51 0) (av' := .pt 51 1) rfl rfl rfl ft37_1 sz33 rfl rfl rfl ?_)
   refine opY rfl rfl rfl (by show AV.v (.bool (decide (s < 0))) = _; rw [hg1]) (aop_ld (av := .q eSec secs) rfl rfl rfl ag33 rfl rfl ?_)
   refine opY rfl rfl rfl (by show AV.v (.bool (decide (s < 0))) = _; rw [hg1]) (aop_len rfl rfl rfl rfl ut33 (len_ro rfl) ?_)
   refine opY rfl rfl rfl (by show AV.v (.bool (decide (s < 0))) = _; rw [hg1]) (aop_binI (u := (.bool (decide (s ≥ (secs.length : Int))))) rfl rfl rfl rfl rfl trivial rfl ?_)
   refine opG rfl (aop_pick (b := (decide (s < 0))) (av := .b (decide (s ≥ (secs.length : Int)))) rfl rfl rfl rfl ((congrArg (fun b_ => cond b_ _ _) hg1).trans rfl) ?_)
   refine op0 ?_
   exact imp_env (lee_both 16 _ _ (by rw [hg1] <;> rfl) (lee_out 15 _ rfl (lee_out 14 _ rfl (lee_out 13 _ rfl (lee_out 12 _ rfl (lee_out 11 _ rfl (lee_out 10 _ rfl (lee_same _))))))))
 refine opG rfl (aop_move (av := .b ((decide (s < 0)) || (decide (s ≥ (secs.length : Int))))) (.inl rfl) rfl rfl rfl ?_)
 refine aops_grp 4 21 (.b (((decide (s < 0)) || (decide (s ≥ (secs.length : Int)))) || (decide (e < 0)))) ?_ ?_
 ·refine (Bool.eq_false_or_eq_true ((decide (s < 0)) || (decide (s ≥ (secs.length : Int))))).elim (fun hg4 => ?_) (fun hg4 => ?_)
  ·skip
   refine opN rfl rfl rfl rfl (by show yv (.bool ((decide (s < 0)) || (decide (s ≥ (secs.length : Int))))) ≠ _; rw [hg4]; intro h; cases h) rfl rfl ?_
   refine opN rfl rfl rfl rfl (by show yv (.bool ((decide (s < 0)) || (decide (s ≥ (secs.length : Int))))) ≠ _; rw [hg4]; intro h; cases h) rfl rfl ?_
   refine opN rfl rfl rfl rfl (by show yv (.bool ((decide (s < 0)) || (decide (s ≥ (secs.length : Int))))) ≠ _; rw [hg4]; intro h; cases h) rfl rfl ?_
   refine opG rfl (aop_pick (b := ((decide (s < 0)) || (decide (s ≥ (secs.length : Int))))) (av := .b true) rfl rfl rfl rfl ((congrArg (fun b_ => cond b_ _ _) hg4).trans rfl) ?_)
   refine op0 ?_
   exact imp_env (lee_both 21 _ _ (by rw [hg4] <;> rfl) (lee_out 20 _ rfl (lee_out 19 _ rfl (lee_out 18 _ rfl (lee_same _)))))
  ·skip
   obtain ⟨hf5a, hf5b⟩ := or_f hg4
   have hf6 := of_decide_eq_false hf5a
   have hf7 := of_decide_eq_false hf5b
   refine opY rfl rfl rfl (by show AV.v (.bool ((decide (s < 0)) || (decide (s ≥ (secs.length : Int))))) = _; rw [hg4]) (aop_fieldAddr (av := .pt 52 0) (av' := .pt 52 1) rfl rfl rfl ft51_1 sz3 rfl rfl rfl ?_)
   refine opY rfl rfl rfl (by show AV.v (.bool ((decide (s < 0)) || (decide (s ≥ (secs.length : Int))))) = _; rw [hg4]) (aop_ld (av := .i e) rfl rfl rfl ag3 rfl rfl ?_)
   refine opY rfl rfl rfl (by show AV.v (.bool ((decide (s < 0)) || (decide (s ≥ (secs.length : Int))))) = _; rw [hg4]) (aop_binI (u := (.bool (decide (e < 0)))) rfl rfl rfl rfl rfl trivial rfl ?_)
   refine opG rfl (aop_pick (b := ((decide (s < 0)) || (decide (s ≥ (secs.length : Int))))) (av := .b (decide (e < 0))) rfl rfl rfl rfl ((congrArg (fun b_ => cond b_ _ _) hg4).trans rfl) ?_)
   refine op0 ?_
   exact imp_env (lee_both 21 _ _ (by rw [hg4] <;> rfl) (lee_out 20 _ rfl (lee_out 19 _ rfl (lee_out 18 _ rfl (lee_same _)))))
 refine opG rfl (aop_move (av := .b (((decide (s < 0)) || (decide (s ≥ (secs.length : Int)))) || (decide (e < 0)))) (.inl rfl) rfl rfl rfl ?_)
 refine aops_grp 4 26 (.b ((((decide (s < 0)) || (decide (s ≥ (secs.length : Int)))) || (decide (e < 0))) || (decide (e > 1)))) ?_ ?_
 ·refine (Bool.eq_false_or_eq_true (((decide (s < 0)) || (decide (s ≥ (secs.length : Int)))) || (decide (e < 0)))).elim (fun hg8 => ?_) (fun hg8 => ?_)
  ·skip
   refine opN rfl rfl rfl rfl (by show yv (.bool (((decide (s < 0)) || (decide (s ≥ (secs.length : Int)))) || (decide (e < 0)))) ≠ _; rw [hg8]; intro h; cases h) rfl rfl ?_
   refine opN rfl rfl rfl rfl (by show yv (.bool (((decide (s < 0)) || (decide (s ≥ (secs.length : Int)))) || (decide (e < 0)))) ≠ _; rw [hg8]; intro h; cases h) rfl rfl ?_
   refine opN rfl rfl rfl rfl (by show yv (.bool (((decide (s < 0)) || (decide (s ≥ (secs.length : Int)))) || (decide (e < 0)))) ≠ _; rw [hg8]; intro h; cases h) rfl rfl ?_
   refine opG rfl (aop_pick (b := (((decide (s < 0)) || (decide (s ≥ (secs.length : Int)))) || (decide (e < 0)))) (av := .b true) rfl rfl rfl rfl ((congrArg (fun b_ => cond b_ _ _) hg8).trans rfl) ?_)
   refine op0 ?_
   exact imp_env (lee_both 26 _ _ (by rw [hg8] <;> rfl) (lee_out 25 _ rfl (lee_out 24 _ rfl (lee_out 23 _ rfl (lee_same _)))))
  ·skip
   obtain ⟨hf9a, hf9b⟩ := or_f hg8
   obtain ⟨hf10a, hf10b⟩ := or_f hf9a
   have hf11 := of_decide_eq_false hf10a
   have hf12 := of_decide_eq_false hf10b
   have hf13 := of_decide_eq_false hf9b
   refine opY rfl rfl rfl (by show AV.v (.bool (((decide (s < 0)) || (decide (s ≥ (secs.length : Int)))) || (decide (e < 0)))) = _; rw [hg8]) (aop_fieldAddr (av := .pt 52 0) (av' := .pt 52 1) rfl rfl rfl ft51_1 sz3 rfl rfl rfl ?_)
   refine opY rfl rfl rfl (by show AV.v (.bool (((decide (s < 0)) || (decide (s ≥ (secs.length : Int)))) || (decide (e < 0)))) = _; rw [hg8]) (aop_ld (av := .i e) rfl rfl rfl ag3 rfl rfl ?_)
   refine opY rfl rfl rfl (by show AV.v (.bool (((decide (s < 0)) || (decide (s ≥ (secs.length : Int)))) || (decide (e < 0)))) = _; rw [hg8]) (aop_binI (u := (.bool (decide (e > 1)))) rfl rfl rfl rfl rfl trivial rfl ?_)
   refine opG rfl (aop_pick (b := (((decide (s < 0)) || (decide (s ≥ (secs.length : Int)))) || (decide (e < 0)))) (av := .b (decide (e > 1))) rfl rfl rfl rfl ((congrArg (fun b_ => cond b_ _ _) hg8).trans rfl) ?_)
   refine op0 ?_
   exact imp_env (lee_both 26 _ _ (by rw [hg8] <;> rfl) (lee_out 25 _ rfl (lee_out 24 _ rfl (lee_out 23 _ rfl (lee_same _)))))
 refine op0 ?_
 refine rs_ (upd (upd (upd (upd (upd none_ 2 (.pt 51 0)) 3 (.pt 52 0)) 4 (.i 0)) 5 (.b false)) 26 (.b ((((decide (s < 0)) || (decide (s ≥ (secs.length : Int)))) || (decide (e < 0))) || (decide (e > 1))))) (updO (updO noOb 51 (.live ⟨[.one, .q eSec secs, .one, .one, .one, .one, .one, .one, .one, .one], 37, 1⟩)) 52 (.live ⟨[.i s, .i e], 51, 1⟩)) (lu rfl (lu rfl (lu rfl (lu rfl (lu rfl ln))))) rfl ?_
 refine awp_cond ((((decide (s < 0)) || (decide (s ≥ (secs.length : Int)))) || (decide (e < 0))) || (decide (e > 1))) rfl rfl (fun hc0 => ?_) (fun hc0 => ?_)
 ·skip
  have hn : noNode secs s e = true := hc0
  refine seqR ?_
  refine opG rfl (aop_move (av := .i 0) (.inr rfl) rfl rfl rfl ?_)
  refine opG rfl (aop_move (av := .b false) (.inr rfl) rfl rfl rfl ?_)
  refine op0 ?_
  refine awp_ret ?_
  exact fret (av := .tup [.v (.int .i64 0), .v (.bool false)]) rfl rfl (by rw [nodeA_no hn, hn]; rfl)
 ·skip
  obtain ⟨hf14a, hf14b⟩ := or_f hc0
  obtain ⟨hf15a, hf15b⟩ := or_f hf14a
  obtain ⟨hf16a, hf16b⟩ := or_f hf15a
  have hf17 := of_decide_eq_false hf16a
  have hf18 := of_decide_eq_false hf16b
  have hf19 := of_decide_eq_false hf15b
  have hf20 := of_decide_eq_false hf14b
  have hn : noNode secs s e = false := hc0
  have hb := noNode_false hn
  refine awp_skip ?_
  refine awp_seq ?_
  refine seqR ?_
  refine opG rfl (aop_fieldAddr (av := .pt 52 0) (av' := .pt 52 1) rfl rfl rfl ft51_1 sz3 rfl rfl rfl ?_)
  refine opG rfl (aop_ld (av := .i e) rfl rfl rfl ag3 rfl rfl ?_)
  refine opG rfl (aop_binI (u := (.bool (e == 0))) rfl rfl rfl rfl rfl trivial rfl ?_)
  refine op0 ?_
  refine awp_cond (e == 0) rfl rfl (fun hc1 => ?_) (fun hc1 => ?_)
  ·skip
   have hf21 := (beq_iff_eq).1 hc1
   refine seqR ?_
   refine opG rfl (aop_fieldAddr (av := .pt 51 0) (av' := .pt 51 1) rfl rfl rfl ft37_1 sz33 rfl rfl rfl ?_)
   refine opG rfl (aop_ld (av := .q eSec secs) rfl rfl rfl ag33 rfl rfl ?_)
   refine opG rfl (aop_fieldAddr (av := .pt 52 0) (av' := .pt 52 0) rfl rfl rfl ft51_0 sz3 rfl rfl rfl ?_)
   refine opG rfl (aop_ld (av := .i s) rfl rfl rfl ag3 rfl rfl ?_)
   refine opG rfl (aop_ixI dS rfl rfl rfl ut33 sz74 rfl rfl (fun _ => rfl) rfl (by omega) (by first | omega | (simp; done) | decide | (simp at *; omega)) ?_)
   refine opG rfl (aop_fieldAddr (av := .rp (([.i ((secs.getD s.toNat dS).len), .i ((secs.getD s.toNat dS).a), .i ((secs.getD s.toNat dS).b)] : List AV) ++ ((enc eSec secs).drop ((s.toNat + 1) * 3)))) (av' := .rp (([.i ((secs.getD s.toNat dS).a), .i ((secs.getD s.toNat dS).b)] : List AV) ++ ((enc eSec secs).drop ((s.toNat + 1) * 3)))) rfl rfl rfl ft74_1 sz3 rfl rfl rfl ?_)
   refine opG rfl (aop_ld (av := .i ((secs.getD s.toNat dS).a)) rfl rfl rfl ag3 rfl rfl ?_)
   refine opG rfl (aop_move (av := .i ((secs.getD s.toNat dS).a)) (.inr rfl) rfl rfl rfl ?_)
   refine opG rfl (aop_move (av := .b true) (.inr rfl) rfl rfl rfl ?_)
   refine op0 ?_
   refine rs_ (upd (upd (upd (upd none_ 2 (.pt 51 0)) 3 (.pt 52 0)) 4 (.i ((secs.getD s.toNat dS).a))) 5 (.b true)) (updO (updO noOb 51 (.live ⟨[.one, .q eSec secs, .one, .one, .one, .one, .one, .one, .one, .one], 37, 1⟩)) 52 (.live ⟨[.i s, .i e], 51, 1⟩)) (lu rfl (lu rfl (lu rfl (lu rfl ln)))) rfl ?_
   refine awp_ret ?_
   exact fret (av := .tup [.v (.int .i64 ((secs.getD s.toNat dS).a)), .v (.bool true)]) rfl rfl (by rw [nodeA_a hn (by simpa using hc1), hn]; rfl)
  ·skip
   have hf22 := (beq_eq_false_iff_ne).1 hc1
   refine awp_skip ?_
   refine seqR ?_
   refine opG rfl (aop_fieldAddr (av := .pt 51 0) (av' := .pt 51 1) rfl rfl rfl ft37_1 sz33 rfl rfl rfl ?_)
   refine opG rfl (aop_ld (av := .q eSec secs) rfl rfl rfl ag33 rfl rfl ?_)
   refine opG rfl (aop_fieldAddr (av := .pt 52 0) (av' := .pt 52 0) rfl rfl rfl ft51_0 sz3 rfl rfl rfl ?_)
   refine opG rfl (aop_ld (av := .i s) rfl rfl rfl ag3 rfl rfl ?_)
   refine opG rfl (aop_ixI dS rfl rfl rfl ut33 sz74 rfl rfl (fun _ => rfl) rfl (by omega) (by first | omega | (simp; done) | decide | (simp at *; omega)) ?_)
   refine opG rfl (aop_fieldAddr (av := .rp (([.i ((secs.getD s.toNat dS).len), .i ((secs.getD s.toNat dS).a), .i ((secs.getD s.toNat dS).b)] : List AV) ++ ((enc eSec secs).drop ((s.toNat + 1) * 3)))) (av' := .rp (([.i ((secs.getD s.toNat dS).b)] : List AV) ++ ((enc eSec secs).drop ((s.toNat + 1) * 3)))) rfl rfl rfl ft74_2 sz3 rfl rfl rfl ?_)
   refine opG rfl (aop_ld (av := .i ((secs.getD s.toNat dS).b)) rfl rfl rfl ag3 rfl rfl ?_)
   refine opG rfl (aop_move (av := .i ((secs.getD s.toNat dS).b)) (.inr rfl) rfl rfl rfl ?_)
   refine opG rfl (aop_move (av := .b true) (.inr rfl) rfl rfl rfl ?_)
   refine op0 ?_
   refine rs_ (upd (upd none_ 4 (.i ((secs.getD s.toNat dS).b))) 5 (.b true)) (updO (updO noOb 51 (.live ⟨[.one, .q eSec secs, .one, .one, .one, .one, .one, .one, .one, .one], 37, 1⟩)) 52 (.live ⟨[.i s, .i e], 51, 1⟩)) (lu rfl (lu rfl ln)) rfl ?_
   refine awp_ret ?_
   exact fret (av := .tup [.v (.int .i64 ((secs.getD s.toNat dS).b)), .v (.bool true)]) rfl rfl (by rw [nodeA_b hn (by simpa using hc1), hn]; rfl)
theorem r05_Ends (secs : List Sec) (n : Int) (hs : secs.length ≤ 65536) : Fn Try.prog 40 [.agg [.one, .ro secs.length (enc eSec secs), .one, .one, .one, .one, .one, .one, .one, .one], .v (.int .i64 n)] (.ro ((endsL secs n).length) (enc eEn (endsL secs n))) := by
 refine fnE_of_body (N := 41) Try.func40 rfl rfl (resOf1 rfl) (by simp) (fun w0 X hL_ => ?_)
 refine seqR ?_
 refine opG rfl (aop_box 51 rfl rfl rfl rfl rfl rfl rfl ?_)
 refine opG rfl (aop_move (av := .v (.slice none 0 0)) (.inr rfl) rfl rfl rfl ?_)
 refine op0 ?_
 refine seqR ?_
 refine opG rfl (aop_move (av := .v (.slice none 0 0)) (.inr rfl) rfl rfl rfl ?_)
 refine op0 ?_
 refine awp_seq ?_
 refine seqR ?_
 refine opG rfl (aop_move (av := .i 0) (.inr rfl) rfl rfl rfl ?_)
 refine op0 ?_
 refine rs_ (upd (upd (upd (upd (upd none_ 1 (.i n)) 2 (.pt 51 0)) 4 (.v (.slice none 0 0))) 5 (.v (.slice none 0 0))) 6 (.i 0)) (updO noOb 51 (.live ⟨[.one, .q eSec secs, .one, .one, .one, .one, .one, .one, .one, .one], 37, 1⟩)) (lu rfl (lu rfl (lu rfl (lu rfl (lu rfl ln))))) rfl ?_
 refine awp_block ?_
 refine awp_countI (fun k => ⟨(upd (upd (upd (upd (upd none_ 1 (.i n)) 2 (.pt 2 0)) 4 (.v (.slice none 0 0))) 5 (.sl 1 0 ((endsK secs n k).length))) 6 (.i (k : Int))), (updO (updO noOb 1 (.live ⟨(enc eEn (endsK secs n k)), 51, 2⟩)) 2 (.live ⟨[.one, .q eSec secs, .one, .one, .one, .one, .one, .one, .one, .one], 37, 1⟩))⟩) (fun k => True) (secs.length) ?_ trivial (fun k hk_k hinv => ?_)
 ·skip
  refine (imp_adopt 5 52 51 2 rfl rfl).trans ?_
  exact imp_ler [(52, 1), (51, 2)] (lerL [(52, 1), (51, 2)] [((52, 1), .live ⟨(enc eEn (endsK secs n 0)), 51, 2⟩), ((51, 2), .live ⟨[.one, .q eSec secs, .one, .one, .one, .one, .one, .one, .one, .one], 37, 1⟩)] rfl (by decide) (by decide) ⟨row_no (o := ⟨[], 51, 2⟩) rfl rfl, row_no (o := ⟨[.one, .q eSec secs, .one, .one, .one, .one, .one, .one, .one, .one], 37, 1⟩) rfl rfl, trivial⟩ (sr_same 6 (.i (0 : Int)) rfl NoI.out (sr_map 5 (.sl 1 0 ((endsK secs n 0).length)) (by first | exact Ok.sl _ _ _ (by first | decide | simp) | exact Ok.pt _ _ (by first | decide | simp)) rfl (sr_same 4 (.v (.slice none 0 0)) rfl NoI.out (sr_map 2 (.pt 2 0) (by first | exact Ok.sl _ _ _ (by first | decide | simp) | exact Ok.pt _ _ (by first | decide | simp)) rfl (sr_same 1 (.i n) rfl NoI.out sr_none)))))) (keep_of rfl)
 have hle := endsK_len secs n k
 refine awp_seq ?_
 refine seqR ?_
 refine opG rfl (aop_move (av := .i (k : Int)) (.inl rfl) rfl rfl rfl ?_)
 refine opG rfl (aop_fieldAddr (av := .pt 2 0) (av' := .pt 2 1) rfl rfl rfl ft37_1 sz33 rfl rfl rfl ?_)
 refine opG rfl (aop_ld (av := .q eSec secs) rfl rfl rfl ag33 rfl rfl ?_)
 refine opG rfl (aop_len rfl rfl rfl rfl ut33 (len_ro rfl) ?_)
 refine opG rfl (aop_binI (u := (.bool (decide ((k : Int) < (secs.length : Int))))) rfl rfl rfl rfl rfl trivial rfl ?_)
 refine op0 ?_
 refine rs_ (upd (upd (upd (upd (upd (upd none_ 1 (.i n)) 2 (.pt 2 0)) 4 (.v (.slice none 0 0))) 5 (.sl 1 0 ((endsK secs n k).length))) 6 (.i (k : Int))) 11 (.b (decide ((k : Int) < (secs.length : Int))))) (updO (updO noOb 1 (.live ⟨(enc eEn (endsK secs n k)), 51, 2⟩)) 2 (.live ⟨[.one, .q eSec secs, .one, .one, .one, .one, .one, .one, .one, .one], 37, 1⟩)) (lu rfl (lu rfl (lu rfl (lu rfl (lu rfl (lu rfl ln)))))) rfl ?_
 refine awp_cond (decide ((k : Int) < (secs.length : Int))) rfl rfl (fun hc0 => ?_) (fun hc0 => ?_)
 ·skip
  have hf1 := of_decide_eq_true hc0
  refine awp_skip ?_
  refine awp_seq ?_
  refine awp_block ?_
  refine awp_seq ?_
  refine seqR ?_
  refine opG rfl (aop_fieldAddr (av := .pt 2 0) (av' := .pt 2 1) rfl rfl rfl ft37_1 sz33 rfl rfl rfl ?_)
  refine opG rfl (aop_ld (av := .q eSec secs) rfl rfl rfl ag33 rfl rfl ?_)
  refine opG rfl (aop_move (av := .i (k : Int)) (.inl rfl) rfl rfl rfl ?_)
  refine opG rfl (aop_ixE dS rfl rfl rfl ut33 sz74 rfl rfl (fun _ => rfl) rfl (by first | omega | (simp; done) | decide | (simp at *; omega)) ?_)
  refine opG rfl (aop_fieldAddr (av := .rp (([.i ((secs.getD k dS).len), .i ((secs.getD k dS).a), .i ((secs.getD k dS).b)] : List AV) ++ ((enc eSec secs).drop ((k + 1) * 3)))) (av' := .rp (([.i ((secs.getD k dS).a), .i ((secs.getD k dS).b)] : List AV) ++ ((enc eSec secs).drop ((k + 1) * 3)))) rfl rfl rfl ft74_1 sz3 rfl rfl rfl ?_)
  refine opG rfl (aop_ld (av := .i ((secs.getD k dS).a)) rfl rfl rfl ag3 rfl rfl ?_)
  refine opG rfl (aop_move (av := .i n) (.inl rfl) rfl rfl rfl ?_)
  refine opG rfl (aop_binI (u := (.bool (((secs.getD k dS).a) == n))) rfl rfl rfl rfl rfl trivial rfl ?_)
  refine op0 ?_
  refine rs_ (upd (upd (upd (upd (upd (upd none_ 1 (.i n)) 2 (.pt 2 0)) 4 (.v (.slice none 0 0))) 5 (.sl 1 0 ((endsK secs n k).length))) 6 (.i (k : Int))) 21 (.b (((secs.getD k dS).a) == n))) (updO (updO noOb 1 (.live ⟨(enc eEn (endsK secs n k)), 51, 2⟩)) 2 (.live ⟨[.one, .q eSec secs, .one, .one, .one, .one, .one, .one, .one, .one], 37, 1⟩)) (lu rfl (lu rfl (lu rfl (lu rfl (lu rfl (lu rfl ln)))))) rfl ?_
  refine awp_cond (((secs.getD k dS).a) == n) rfl rfl (fun hc1 => ?_) (fun hc1 => ?_)
  ·skip
   have hf2 := (beq_iff_eq).1 hc1
   refine regR ?_
   refine opG rfl (aop_move (av := .sl 1 0 ((endsK secs n k).length)) (.inl rfl) rfl rfl rfl ?_)
   refine opG rfl (aop_move (av := .i (k : Int)) (.inl rfl) rfl rfl rfl ?_)
   refine opG rfl (aop_build rfl rfl rfl pl51 rfl ?_)
   refine opG rfl (aop_lit rfl rfl rfl ut69 iz51 (by decide) (by decide) rfl rfl ?_)
   refine opG rfl (aop_app1 (f := eEn) (l := endsK secs n k) 53 (⟨(k : Int), 0⟩ : En) rfl rfl rfl rfl ut69 in51 rfl (by decide) rfl rfl rfl rfl rfl rfl (fun _ => rfl) rfl rfl (by first | omega | (simp; done) | decide | (simp at *; omega)) (by first | omega | (simp; done) | decide | (simp at *; omega)) rfl ?_)
   refine opG rfl (aop_move (av := .sl 53 0 (((endsK secs n k) ++ [(⟨(k : Int), 0⟩ : En)]).length)) (.inr rfl) rfl rfl rfl ?_)
   refine op0 ?_
   refine rs_ (upd (upd (upd (upd (upd none_ 1 (.i n)) 2 (.pt 2 0)) 4 (.v (.slice none 0 0))) 5 (.sl 53 0 (((endsK secs n k) ++ [(⟨(k : Int), 0⟩ : En)]).length))) 6 (.i (k : Int))) (updO (updO (updO (updO noOb 1 (.live ⟨(enc eEn (endsK secs n k)), 51, 2⟩)) 2 (.live ⟨[.one, .q eSec secs, .one, .one, .one, .one, .one, .one, .one, .one], 37, 1⟩)) 1 .dead) 53 (.live ⟨(enc eEn ((endsK secs n k) ++ [(⟨(k : Int), 0⟩ : En)])), 51, 2⟩)) (lu rfl (lu rfl (lu rfl (lu rfl (lu rfl ln))))) rfl ?_
   refine seqR ?_
   refine opG rfl (aop_fieldAddr (av := .pt 2 0) (av' := .pt 2 1) rfl rfl rfl ft37_1 sz33 rfl rfl rfl ?_)
   refine opG rfl (aop_ld (av := .q eSec secs) rfl rfl rfl ag33 rfl rfl ?_)
   refine opG rfl (aop_move (av := .i (k : Int)) (.inl rfl) rfl rfl rfl ?_)
   refine opG rfl (aop_ixE dS rfl rfl rfl ut33 sz74 rfl rfl (fun _ => rfl) rfl (by first | omega | (simp; done) | decide | (simp at *; omega)) ?_)
   refine opG rfl (aop_fieldAddr (av := .rp (([.i ((secs.getD k dS).len), .i ((secs.getD k dS).a), .i ((secs.getD k dS).b)] : List AV) ++ ((enc eSec secs).drop ((k + 1) * 3)))) (av' := .rp (([.i ((secs.getD k dS).b)] : List AV) ++ ((enc eSec secs).drop ((k + 1) * 3)))) rfl rfl rfl ft74_2 sz3 rfl rfl rfl ?_)
   refine opG rfl (aop_ld (av := .i ((secs.getD k dS).b)) rfl rfl rfl ag3 rfl rfl ?_)
   refine opG rfl (aop_move (av := .i n) (.inl rfl) rfl rfl rfl ?_)
   refine opG rfl (aop_binI (u := (.bool (((secs.getD k dS).b) == n))) rfl rfl rfl rfl rfl trivial rfl ?_)
   refine op0 ?_
   refine rs_ (upd (upd (upd (upd (upd (upd none_ 1 (.i n)) 2 (.pt 2 0)) 4 (.v (.slice none 0 0))) 5 (.sl 53 0 (((endsK secs n k) ++ [(⟨(k : Int), 0⟩ : En)]).length))) 6 (.i (k : Int))) 34 (.b (((secs.getD k dS).b) == n))) (updO (updO (updO (updO noOb 1 (.live ⟨(enc eEn (endsK secs n k)), 51, 2⟩)) 2 (.live ⟨[.one, .q eSec secs, .one, .one, .one, .one, .one, .one, .one, .one], 37, 1⟩)) 1 .dead) 53 (.live ⟨(enc eEn ((endsK secs n k) ++ [(⟨(k : Int), 0⟩ : En)])), 51, 2⟩)) (lu rfl (lu rfl (lu rfl (lu rfl (lu rfl (lu rfl ln)))))) rfl ?_
   refine awp_cond (((secs.getD k dS).b) == n) rfl rfl (fun hc2 => ?_) (fun hc2 => ?_)
   ·skip
    have hf3 := (beq_iff_eq).1 hc2
    refine regR ?_
    refine opG rfl (aop_move (av := .sl 53 0 (((endsK secs n k) ++ [(⟨(k : Int), 0⟩ : En)]).length)) (.inl rfl) rfl rfl rfl ?_)
    refine opG rfl (aop_move (av := .i (k : Int)) (.inl rfl) rfl rfl rfl ?_)
    refine opG rfl (aop_build rfl rfl rfl pl51 rfl ?_)
    refine opG rfl (aop_lit rfl rfl rfl ut69 iz51 (by decide) (by decide) rfl rfl ?_)
    refine opG rfl (aop_app1 (f := eEn) (l := (endsK secs n k) ++ [(⟨(k : Int), 0⟩ : En)]) 54 (⟨(k : Int), 1⟩ : En) rfl rfl rfl rfl ut69 in51 rfl (by decide) rfl rfl rfl rfl rfl rfl (fun _ => rfl) rfl rfl (by first | omega | (simp; done) | decide | (simp at *; omega)) (by first | omega | (simp; done) | decide | (simp at *; omega)) rfl ?_)
    refine opG rfl (aop_move (av := .sl 54 0 ((((endsK secs n k) ++ [(⟨(k : Int), 0⟩ : En)]) ++ [(⟨(k : Int), 1⟩ : En)]).length)) (.inr rfl) rfl rfl rfl ?_)
    refine op0 ?_
    refine rs_ (upd (upd (upd (upd (upd none_ 1 (.i n)) 2 (.pt 2 0)) 4 (.v (.slice none 0 0))) 5 (.sl 54 0 ((((endsK secs n k) ++ [(⟨(k : Int), 0⟩ : En)]) ++ [(⟨(k : Int), 1⟩ : En)]).length))) 6 (.i (k : Int))) (updO (updO (updO (updO (updO (updO noOb 1 (.live ⟨(enc eEn (endsK secs n k)), 51, 2⟩)) 2 (.live ⟨[.one, .q eSec secs, .one, .one, .one, .one, .one, .one, .one, .one], 37, 1⟩)) 1 .dead) 53 (.live ⟨(enc eEn ((endsK secs n k) ++ [(⟨(k : Int), 0⟩ : En)])), 51, 2⟩)) 53 .dead) 54 (.live ⟨(enc eEn (((endsK secs n k) ++ [(⟨(k : Int), 0⟩ : En)]) ++ [(⟨(k : Int), 1⟩ : En)])), 51, 2⟩)) (lu rfl (lu rfl (lu rfl (lu rfl (lu rfl ln))))) rfl ?_
    refine regR ?_
    refine opG rfl (aop_move (av := .i (k : Int)) (.inl rfl) rfl rfl rfl ?_)
    refine opG rfl (aop_binI (u := (.int .i64 ((k + 1 : Nat) : Int))) rfl rfl rfl rfl rfl trivial (addN (by omega)) ?_)
    refine opG rfl (aop_move (av := .i ((k + 1 : Nat) : Int)) (.inr rfl) rfl rfl rfl ?_)
    refine op0 ?_
    show _ ∧ _
    have a1 : (secs.getD k dS).a = n := by simpa using hc1
    have a2 : (secs.getD k dS).b = n := by simpa using hc2
    have hs_ := endsK_tt a1 a2
    refine ⟨by omega, trivial, ?_⟩
    exact imp_ler [(54, 1), (2, 2)] (lerL [(54, 1), (2, 2)] [((54, 1), .live ⟨(enc eEn (endsK secs n (k + 1))), 51, 2⟩), ((2, 2), .live ⟨[.one, .q eSec secs, .one, .one, .one, .one, .one, .one, .one, .one], 37, 1⟩)] rfl (by decide) (by decide) ⟨row_no (o := ⟨(enc eEn (((endsK secs n k) ++ [(⟨(k : Int), 0⟩ : En)]) ++ [(⟨(k : Int), 1⟩ : En)])), 51, 2⟩) rfl (by exact congrArg (fun l_ => LObj.mk (enc eEn l_) 51 2) hs_), row_no (o := ⟨[.one, .q eSec secs, .one, .one, .one, .one, .one, .one, .one, .one], 37, 1⟩) rfl rfl, trivial⟩ (sr_same 6 (.i ((k + 1) : Int)) rfl NoI.out (sr_map 5 (.sl 1 0 ((endsK secs n (k + 1)).length)) (by first | exact Ok.sl _ _ _ (by first | decide | simp) | exact Ok.pt _ _ (by first | decide | simp)) (by exact congrArg (AV.sl 1 0) (congrArg List.length hs_.symm)) (sr_same 4 (.v (.slice none 0 0)) rfl NoI.out (sr_map 2 (.pt 2 0) (by first | exact Ok.sl _ _ _ (by first | decide | simp) | exact Ok.pt _ _ (by first | decide | simp)) rfl (sr_same 1 (.i n) rfl NoI.out sr_none)))))) (keep_of rfl)
   ·skip
    have hf4 := (beq_eq_false_iff_ne).1 hc2
    refine awp_skip ?_
    refine regR ?_
    refine opG rfl (aop_move (av := .i (k : Int)) (.inl rfl) rfl rfl rfl ?_)
    refine opG rfl (aop_binI (u := (.int .i64 ((k + 1 : Nat) : Int))) rfl rfl rfl rfl rfl trivial (addN (by omega)) ?_)
    refine opG rfl (aop_move (av := .i ((k + 1 : Nat) : Int)) (.inr rfl) rfl rfl rfl ?_)
    refine op0 ?_
    show _ ∧ _
    have a1 : (secs.getD k dS).a = n := by simpa using hc1
    have a2 : ¬ (secs.getD k dS).b = n := by simpa using hc2
    have hs_ := endsK_tf a1 a2
    refine ⟨by omega, trivial, ?_⟩
    exact imp_ler [(53, 1), (2, 2)] (lerL [(53, 1), (2, 2)] [((53, 1), .live ⟨(enc eEn (endsK secs n (k + 1))), 51, 2⟩), ((2, 2), .live ⟨[.one, .q eSec secs, .one, .one, .one, .one, .one, .one, .one, .one], 37, 1⟩)] rfl (by decide) (by decide) ⟨row_no (o := ⟨(enc eEn ((endsK secs n k) ++ [(⟨(k : Int), 0⟩ : En)])), 51, 2⟩) rfl (by exact congrArg (fun l_ => LObj.mk (enc eEn l_) 51 2) hs_), row_no (o := ⟨[.one, .q eSec secs, .one, .one, .one, .one, .one, .one, .one, .one], 37, 1⟩) rfl rfl, trivial⟩ (sr_same 6 (.i ((k + 1) : Int)) rfl NoI.out (sr_map 5 (.sl 1 0 ((endsK secs n (k + 1)).length)) (by first | exact Ok.sl _ _ _ (by first | decide | simp) | exact Ok.pt _ _ (by first | decide | simp)) (by exact congrArg (AV.sl 1 0) (congrArg List.length hs_.symm)) (sr_same 4 (.v (.slice none 0 0)) rfl NoI.out (sr_map 2 (.pt 2 0) (by first | exact Ok.sl _ _ _ (by first | decide | simp) | exact Ok.pt _ _ (by first | decide | simp)) rfl (sr_same 1 (.i n) rfl NoI.out sr_none)))))) (keep_of rfl)
  ·skip
   have hf5 := (beq_eq_false_iff_ne).1 hc1
   refine awp_skip ?_
   refine seqR ?_
   refine opG rfl (aop_fieldAddr (av := .pt 2 0) (av' := .pt 2 1) rfl rfl rfl ft37_1 sz33 rfl rfl rfl ?_)
   refine opG rfl (aop_ld (av := .q eSec secs) rfl rfl rfl ag33 rfl rfl ?_)
   refine opG rfl (aop_move (av := .i (k : Int)) (.inl rfl) rfl rfl rfl ?_)
   refine opG rfl (aop_ixE dS rfl rfl rfl ut33 sz74 rfl rfl (fun _ => rfl) rfl (by first | omega | (simp; done) | decide | (simp at *; omega)) ?_)
   refine opG rfl (aop_fieldAddr (av := .rp (([.i ((secs.getD k dS).len), .i ((secs.getD k dS).a), .i ((secs.getD k dS).b)] : List AV) ++ ((enc eSec secs).drop ((k + 1) * 3)))) (av' := .rp (([.i ((secs.getD k dS).b)] : List AV) ++ ((enc eSec secs).drop ((k + 1) * 3)))) rfl rfl rfl ft74_2 sz3 rfl rfl rfl ?_)
   refine opG rfl (aop_ld (av := .i ((secs.getD k dS).b)) rfl rfl rfl ag3 rfl rfl ?_)
   refine opG rfl (aop_move (av := .i n) (.inl rfl) rfl rfl rfl ?_)
   refine opG rfl (aop_binI (u := (.bool (((secs.getD k dS).b) == n))) rfl rfl rfl rfl rfl trivial rfl ?_)
   refine op0 ?_
   refine rs_ (upd (upd (upd (upd (upd (upd none_ 1 (.i n)) 2 (.pt 2 0)) 4 (.v (.slice none 0 0))) 5 (.sl 1 0 ((endsK secs n k).length))) 6 (.i (k : Int))) 34 (.b (((secs.getD k dS).b) == n))) (updO (updO noOb 1 (.live ⟨(enc eEn (endsK secs n k)), 51, 2⟩)) 2 (.live ⟨[.one, .q eSec secs, .one, .one, .one, .one, .one, .one, .one, .one], 37, 1⟩)) (lu rfl (lu rfl (lu rfl (lu rfl (lu rfl (lu rfl ln)))))) rfl ?_
   refine awp_cond (((secs.getD k dS).b) == n) rfl rfl (fun hc3 => ?_) (fun hc3 => ?_)
   ·skip
    have hf6 := (beq_iff_eq).1 hc3
    refine regR ?_
    refine opG rfl (aop_move (av := .sl 1 0 ((endsK secs n k).length)) (.inl rfl) rfl rfl rfl ?_)
    refine opG rfl (aop_move (av := .i (k : Int)) (.inl rfl) rfl rfl rfl ?_)
    refine opG rfl (aop_build rfl rfl rfl pl51 rfl ?_)
    refine opG rfl (aop_lit rfl rfl rfl ut69 iz51 (by decide) (by decide) rfl rfl ?_)
    refine opG rfl (aop_app1 (f := eEn) (l := endsK secs n k) 55 (⟨(k : Int), 1⟩ : En) rfl rfl rfl rfl ut69 in51 rfl (by decide) rfl rfl rfl rfl rfl rfl (fun _ => rfl) rfl rfl (by first | omega | (simp; done) | decide | (simp at *; omega)) (by first | omega | (simp; done) | decide | (simp at *; omega)) rfl ?_)
    refine opG rfl (aop_move (av := .sl 55 0 (((endsK secs n k) ++ [(⟨(k : Int), 1⟩ : En)]).length)) (.inr rfl) rfl rfl rfl ?_)
    refine op0 ?_
    refine rs_ (upd (upd (upd (upd (upd none_ 1 (.i n)) 2 (.pt 2 0)) 4 (.v (.slice none 0 0))) 5 (.sl 55 0 (((endsK secs n k) ++ [(⟨(k : Int), 1⟩ : En)]).length))) 6 (.i (k : Int))) (updO (updO (updO (updO noOb 1 (.live ⟨(enc eEn (endsK secs n k)), 51, 2⟩)) 2 (.live ⟨[.one, .q eSec secs, .one, .one, .one, .one, .one, .one, .one, .one], 37, 1⟩)) 1 .dead) 55 (.live ⟨(enc eEn ((endsK secs n k) ++ [(⟨(k : Int), 1⟩ : En)])), 51, 2⟩)) (lu rfl (lu rfl (lu rfl (lu rfl (lu rfl ln))))) rfl ?_
    refine regR ?_
    refine opG rfl (aop_move (av := .i (k : Int)) (.inl rfl) rfl rfl rfl ?_)
    refine opG rfl (aop_binI (u := (.int .i64 ((k + 1 : Nat) : Int))) rfl rfl rfl rfl rfl trivial (addN (by omega)) ?_)
    refine opG rfl (aop_move (av := .i ((k + 1 : Nat) : Int)) (.inr rfl) rfl rfl rfl ?_)
    refine op0 ?_
    show _ ∧ _
    have a1 : ¬ (secs.getD k dS).a = n := by simpa using hc1
    have a2 : (secs.getD k dS).b = n := by simpa using hc3
    have hs_ := endsK_ft a1 a2
    refine ⟨by omega, trivial, ?_⟩
    exact imp_ler [(55, 1), (2, 2)] (lerL [(55, 1), (2, 2)] [((55, 1), .live ⟨(enc eEn (endsK secs n (k + 1))), 51, 2⟩), ((2, 2), .live ⟨[.one, .q eSec secs, .one, .one, .one, .one, .one, .one, .one, .one], 37, 1⟩)] rfl (by decide) (by decide) ⟨row_no (o := ⟨(enc eEn ((endsK secs n k) ++ [(⟨(k : Int), 1⟩ : En)])), 51, 2⟩) rfl (by exact congrArg (fun l_ => LObj.mk (enc eEn l_) 51 2) hs_), row_no (o := ⟨[.one, .q eSec secs, .one, .one, .one, .one, .one, .one, .one, .one], 37, 1⟩) rfl rfl, trivial⟩ (sr_same 6 (.i ((k + 1) : Int)) rfl NoI.out (sr_map 5 (.sl 1 0 ((endsK secs n (k + 1)).length)) (by first | exact Ok.sl _ _ _ (by first | decide | simp) | exact Ok.pt _ _ (by first | decide | simp)) (by exact congrArg (AV.sl 1 0) (congrArg List.length hs_.symm)) (sr_same 4 (.v (.slice none 0 0)) rfl NoI.out (sr_map 2 (.pt 2 0) (by first | exact Ok.sl _ _ _ (by first | decide | simp) | exact Ok.pt _ _ (by first | decide | simp)) rfl (sr_same 1 (.i n) rfl NoI.out sr_none)))))) (keep_of rfl)
   ·skip
    have hf7 := (beq_eq_false_iff_ne).1 hc3
    refine awp_skip ?_
    refine regR ?_
    refine opG rfl (aop_move (av := .i (k : Int)) (.inl rfl) rfl rfl rfl ?_)
    refine opG rfl (aop_binI (u := (.int .i64 ((k + 1 : Nat) : Int))) rfl rfl rfl rfl rfl trivial (addN (by omega)) ?_)
    refine opG rfl (aop_move (av := .i ((k + 1 : Nat) : Int)) (.inr rfl) rfl rfl rfl ?_)
    refine op0 ?_
    show _ ∧ _
    have a1 : ¬ (secs.getD k dS).a = n := by simpa using hc1
    have a2 : ¬ (secs.getD k dS).b = n := by simpa using hc3
    have hs_ := endsK_ff a1 a2
    refine ⟨by omega, trivial, ?_⟩
    exact imp_ler [(1, 1), (2, 2)] (lerL [(1, 1), (2, 2)] [((1, 1), .live ⟨(enc eEn (endsK secs n (k + 1))), 51, 2⟩), ((2, 2), .live ⟨[.one, .q eSec secs, .one, .one, .one, .one, .one, .one, .one, .one], 37, 1⟩)] rfl (by decide) (by decide) ⟨row_no (o := ⟨(enc eEn (endsK secs n k)), 51, 2⟩) rfl (by exact congrArg (fun l_ => LObj.mk (enc eEn l_) 51 2) hs_), row_no (o := ⟨[.one, .q eSec secs, .one, .one, .one, .one, .one, .one, .one, .one], 37, 1⟩) rfl rfl, trivial⟩ (sr_same 6 (.i ((k + 1) : Int)) rfl NoI.out (sr_map 5 (.sl 1 0 ((endsK secs n (k + 1)).length)) (by first | exact Ok.sl _ _ _ (by first | decide | simp) | exact Ok.pt _ _ (by first | decide | simp)) (by exact congrArg (AV.sl 1 0) (congrArg List.length hs_.symm)) (sr_same 4 (.v (.slice none 0 0)) rfl NoI.out (sr_map 2 (.pt 2 0) (by first | exact Ok.sl _ _ _ (by first | decide | simp) | exact Ok.pt _ _ (by first | decide | simp)) rfl (sr_same 1 (.i n) rfl NoI.out sr_none)))))) (keep_of rfl)
 ·skip
  have hf8 := of_decide_eq_false hc0
  refine awp_exit ?_
  refine seqR ?_
  refine opG rfl (aop_move (av := .sl 1 0 ((endsK secs n k).length)) (.inl rfl) rfl rfl rfl ?_)
  refine opG rfl (aop_move (av := .sl 1 0 ((endsK secs n k).length)) (.inr rfl) rfl rfl rfl ?_)
  refine op0 ?_
  have he : endsK secs n k = endsL secs n := by unfold endsL; congr 1; omega
  refine awp_imp _ (imp_frozen rfl (fun _ h => h) (lee_lend 4 (.q eEn (endsK secs n k)) (lend_s (id := 1) (n := (endsK secs n k).length) (o := ⟨(enc eEn (endsK secs n k)), 51, 2⟩) rfl (enc_len (fun _ => rfl) (by first | rfl | (simp; done)))) lee_lend0)) ?_
  refine awp_ret ?_
  exact fret (av := .ro ((endsK secs n k).length) (enc eEn (endsK secs n k))) rfl rfl (by rw [he])
theorem r05_Point (pts : List Pnt) (n : Int) (hp : pts.length ≤ 65536) : Fn Try.prog 31 [.agg [.one, .one, .one, .ro pts.length (enc ePnt pts), .one, .one, .one, .one, .one, .one], .v (.int .i64 n)] (.v (.int .i64 (pointI pts n))) := by
 refine fnE_of_body (N := 22) Try.func31 rfl rfl (resOf1 rfl) (by simp) (fun w0 X hL_ => ?_)
 refine seqR ?_
 refine opG rfl (aop_box 51 rfl rfl rfl rfl rfl rfl rfl ?_)
 refine opG rfl (aop_move (av := .i 0) (.inr rfl) rfl rfl rfl ?_)
 refine op0 ?_
 refine awp_seq ?_
 refine seqR ?_
 refine opG rfl (aop_move (av := .i 0) (.inr rfl) rfl rfl rfl ?_)
 refine op0 ?_
 refine awp_block ?_
 refine awp_countI (fun k => ⟨(upd (upd (upd (upd none_ 1 (.i n)) 2 (.pt 2 0)) 4 (.i 0)) 5 (.i (k : Int))), (updO noOb 2 (.live ⟨[.one, .one, .one, .q ePnt pts, .one, .one, .one, .one, .one, .one], 37, 1⟩))⟩) (fun k => (pts.take k).any (fun p => decide (p.node = n)) = false) (pts.length) ?_ (by simp) (fun k hk_k hinv => ?_)
 ·skip
  exact imp_ler [(51, 2)] (lerI 51 2 (o := ⟨[.one, .one, .one, .q ePnt pts, .one, .one, .one, .one, .one, .one], 37, 1⟩) rfl rfl (sS rfl (sS rfl (sM rfl (sS rfl sr_none))))) (keep_of rfl)
 refine awp_seq ?_
 refine seqR ?_
 refine opG rfl (aop_move (av := .i (k : Int)) (.inl rfl) rfl rfl rfl ?_)
 refine opG rfl (aop_fieldAddr (av := .pt 2 0) (av' := .pt 2 3) rfl rfl rfl ft37_3 sz35 rfl rfl rfl ?_)
 refine opG rfl (aop_ld (av := .q ePnt pts) rfl rfl rfl ag35 rfl rfl ?_)
 refine opG rfl (aop_len rfl rfl rfl rfl ut35 (len_ro rfl) ?_)
 refine opG rfl (aop_binI (u := (.bool (decide ((k : Int) < (pts.length : Int))))) rfl rfl rfl rfl rfl trivial rfl ?_)
 refine op0 ?_
 refine rs_ (upd (upd (upd (upd (upd none_ 1 (.i n)) 2 (.pt 2 0)) 4 (.i 0)) 5 (.i (k : Int))) 10 (.b (decide ((k : Int) < (pts.length : Int))))) (updO noOb 2 (.live ⟨[.one, .one, .one, .q ePnt pts, .one, .one, .one, .one, .one, .one], 37, 1⟩)) (lu rfl (lu rfl (lu rfl (lu rfl (lu rfl ln))))) rfl ?_
 refine awp_cond (decide ((k : Int) < (pts.length : Int))) rfl rfl (fun hc0 => ?_) (fun hc0 => ?_)
 ·skip
  have hf1 := of_decide_eq_true hc0
  refine awp_skip ?_
  refine awp_seq ?_
  refine awp_block ?_
  refine seqR ?_
  refine opG rfl (aop_fieldAddr (av := .pt 2 0) (av' := .pt 2 3) rfl rfl rfl ft37_3 sz35 rfl rfl rfl ?_)
  refine opG rfl (aop_ld (av := .q ePnt pts) rfl rfl rfl ag35 rfl rfl ?_)
  refine opG rfl (aop_move (av := .i (k : Int)) (.inl rfl) rfl rfl rfl ?_)
  refine opG rfl (aop_ixE dP rfl rfl rfl ut35 sz58 rfl rfl (fun _ => rfl) rfl (by first | omega | (simp; done) | decide | (simp at *; omega)) ?_)
  refine opG rfl (aop_fieldAddr (av := .rp (([.i ((pts.getD k dP).node), .i ((pts.getD k dP).stem), .i ((pts.getD k dP).left), .i ((pts.getD k dP).right)] : List AV) ++ ((enc ePnt pts).drop ((k + 1) * 4)))) (av' := .rp (([.i ((pts.getD k dP).node), .i ((pts.getD k dP).stem), .i ((pts.getD k dP).left), .i ((pts.getD k dP).right)] : List AV) ++ ((enc ePnt pts).drop ((k + 1) * 4)))) rfl rfl rfl ft58_0 sz3 rfl rfl rfl ?_)
  refine opG rfl (aop_ld (av := .i ((pts.getD k dP).node)) rfl rfl rfl ag3 rfl rfl ?_)
  refine opG rfl (aop_move (av := .i n) (.inl rfl) rfl rfl rfl ?_)
  refine opG rfl (aop_binI (u := (.bool (((pts.getD k dP).node) == n))) rfl rfl rfl rfl rfl trivial rfl ?_)
  refine op0 ?_
  refine rs_ (upd (upd (upd (upd (upd none_ 1 (.i n)) 2 (.pt 2 0)) 4 (.i 0)) 5 (.i (k : Int))) 20 (.b (((pts.getD k dP).node) == n))) (updO noOb 2 (.live ⟨[.one, .one, .one, .q ePnt pts, .one, .one, .one, .one, .one, .one], 37, 1⟩)) (lu rfl (lu rfl (lu rfl (lu rfl (lu rfl ln))))) rfl ?_
  refine awp_cond (((pts.getD k dP).node) == n) rfl rfl (fun hc1 => ?_) (fun hc1 => ?_)
  ·skip
   have hf2 := (beq_iff_eq).1 hc1
   refine seqR ?_
   refine opG rfl (aop_move (av := .i (k : Int)) (.inl rfl) rfl rfl rfl ?_)
   refine opG rfl (aop_move (av := .i (k : Int)) (.inr rfl) rfl rfl rfl ?_)
   refine op0 ?_
   refine awp_ret ?_
   exact fret (av := .v (.int .i64 (k : Int))) rfl rfl (by unfold pointI; rw [idxB_stop dP (by omega) hinv (by simpa using hc1)] <;> rfl)
  ·skip
   have hf3 := (beq_eq_false_iff_ne).1 hc1
   refine awp_skip ?_
   refine regR ?_
   refine opG rfl (aop_move (av := .i (k : Int)) (.inl rfl) rfl rfl rfl ?_)
   refine opG rfl (aop_binI (u := (.int .i64 ((k + 1 : Nat) : Int))) rfl rfl rfl rfl rfl trivial (addN (by omega)) ?_)
   refine opG rfl (aop_move (av := .i ((k + 1 : Nat) : Int)) (.inr rfl) rfl rfl rfl ?_)
   refine op0 ?_
   show _ ∧ _
   refine ⟨by omega, (any_step dP (by omega) hinv (by simpa using hc1)), ?_⟩
   exact imp_ler [(2, 2)] (lerI 2 2 rfl rfl (sS rfl (sS rfl (sM rfl (sS rfl sr_none))))) (keep_of rfl)
 ·skip
  have hf4 := of_decide_eq_false hc0
  refine awp_exit ?_
  refine seqR ?_
  refine opG rfl (aop_move (av := .i (-1)) (.inr rfl) rfl rfl rfl ?_)
  refine op0 ?_
  refine awp_ret ?_
  exact fret (av := .v (.int .i64 (-1))) rfl rfl (by unfold pointI; rw [idxB_end (by omega) hinv] <;> rfl)
theorem r05_one (secs : List Sec) (s n : Int) (hs : secs.length ≤ 65536) : Fn Try.prog 39 [.agg [.one, .ro secs.length (enc eSec secs), .one, .one, .one, .one, .one, .one, .one, .one], .v (.int .i64 s), .v (.int .i64 n)] (.ro ((oneE secs s n).length) (enc eEn (oneE secs s n))) := by
 refine fnE_of_body (N := 30) Try.func39 rfl rfl (resOf1 rfl) (by simp) (fun w0 X hL_ => ?_)
 refine seqR ?_
 refine opG rfl (aop_box 51 rfl rfl rfl rfl rfl rfl rfl ?_)
 refine opG rfl (aop_move (av := .v (.slice none 0 0)) (.inr rfl) rfl rfl rfl ?_)
 refine op0 ?_
 refine seqR ?_
 refine opG rfl (aop_ldB (cells' := [.one, .q eSec secs, .one, .one, .one, .one, .one, .one, .one, .one]) rfl rfl rfl ag37 sz37 rfl rfl rfl rfl ?_)
 refine opG rfl (aop_move (av := .i n) (.inl rfl) rfl rfl rfl ?_)
 refine opG rfl (call_ (r05_Ends secs n (by first | omega | (simp; done) | decide | (simp at *; omega))) rfl rfl rfl rfl rfl bd40 rfl ?_)
 refine opG rfl (aop_move (av := .q eEn (endsL secs n)) (.inr rfl) rfl rfl rfl ?_)
 refine op0 ?_
 refine rs_ (upd (upd (upd none_ 1 (.i s)) 6 (.v (.slice none 0 0))) 7 (.q eEn (endsL secs n))) (updO noOb 51 (.live ⟨[.one, .q eSec secs, .one, .one, .one, .one, .one, .one, .one, .one], 37, 1⟩)) (lu rfl (lu rfl (lu rfl ln))) rfl ?_
 refine awp_seq ?_
 refine seqR ?_
 refine opG rfl (aop_move (av := .i 0) (.inr rfl) rfl rfl rfl ?_)
 refine op0 ?_
 refine awp_block ?_
 refine awp_countI (fun k => ⟨(upd (upd (upd (upd none_ 1 (.i s)) 6 (.v (.slice none 0 0))) 7 (.q eEn (endsL secs n))) 8 (.i (k : Int))), noOb⟩) (fun k => ((endsL secs n).take k).any (fun e => decide (e.sec = s)) = false) ((endsL secs n).length) ?_ (by simp) (fun k hk_k hinv => ?_)
 ·skip
  exact imp_ler [] (ler0 (sS rfl (sS rfl (sS rfl (sS rfl sr_none))))) (keep_of rfl)
 refine awp_seq ?_
 refine seqR ?_
 refine opG rfl (aop_move (av := .i (k : Int)) (.inl rfl) rfl rfl rfl ?_)
 refine opG rfl (aop_move (av := .q eEn (endsL secs n)) (.inl rfl) rfl rfl rfl ?_)
 refine opG rfl (aop_len rfl rfl rfl rfl ut69 (len_ro rfl) ?_)
 refine opG rfl (aop_binI (u := (.bool (decide ((k : Int) < ((endsL secs n).length : Int))))) rfl rfl rfl rfl rfl trivial rfl ?_)
 refine op0 ?_
 refine rs_ (upd (upd (upd (upd (upd none_ 1 (.i s)) 6 (.v (.slice none 0 0))) 7 (.q eEn (endsL secs n))) 8 (.i (k : Int))) 15 (.b (decide ((k : Int) < ((endsL secs n).length : Int))))) noOb (lu rfl (lu rfl (lu rfl (lu rfl (lu rfl ln))))) rfl ?_
 refine awp_cond (decide ((k : Int) < ((endsL secs n).length : Int))) rfl rfl (fun hc0 => ?_) (fun hc0 => ?_)
 ·skip
  have hf1 := of_decide_eq_true hc0
  have hle := endsL_len secs n
  refine awp_skip ?_
  refine awp_seq ?_
  refine awp_block ?_
  refine seqR ?_
  refine opG rfl (aop_move (av := .q eEn (endsL secs n)) (.inl rfl) rfl rfl rfl ?_)
  refine opG rfl (aop_move (av := .i (k : Int)) (.inl rfl) rfl rfl rfl ?_)
  refine opG rfl (aop_ixE dE rfl rfl rfl ut69 sz51 rfl rfl (fun _ => rfl) rfl (by first | omega | (simp; done) | decide | (simp at *; omega)) ?_)
  refine opG rfl (aop_fieldAddr (av := .rp (([.i (((endsL secs n).getD k dE).sec), .i (((endsL secs n).getD k dE).en)] : List AV) ++ ((enc eEn (endsL secs n)).drop ((k + 1) * 2)))) (av' := .rp (([.i (((endsL secs n).getD k dE).sec), .i (((endsL secs n).getD k dE).en)] : List AV) ++ ((enc eEn (endsL secs n)).drop ((k + 1) * 2)))) rfl rfl rfl ft51_0 sz3 rfl rfl rfl ?_)
  refine opG rfl (aop_ld (av := .i (((endsL secs n).getD k dE).sec)) rfl rfl rfl ag3 rfl rfl ?_)
  refine opG rfl (aop_move (av := .i s) (.inl rfl) rfl rfl rfl ?_)
  refine opG rfl (aop_binI (u := (.bool ((((endsL secs n).getD k dE).sec) == s))) rfl rfl rfl rfl rfl trivial rfl ?_)
  refine op0 ?_
  refine rs_ (upd (upd (upd (upd (upd none_ 1 (.i s)) 6 (.v (.slice none 0 0))) 7 (.q eEn (endsL secs n))) 8 (.i (k : Int))) 24 (.b ((((endsL secs n).getD k dE).sec) == s))) noOb (lu rfl (lu rfl (lu rfl (lu rfl (lu rfl ln))))) rfl ?_
  refine awp_cond ((((endsL secs n).getD k dE).sec) == s) rfl rfl (fun hc1 => ?_) (fun hc1 => ?_)
  ·skip
   have hf2 := (beq_iff_eq).1 hc1
   refine seqR ?_
   refine opG rfl (aop_move (av := .q eEn (endsL secs n)) (.inl rfl) rfl rfl rfl ?_)
   refine opG rfl (aop_move (av := .i (k : Int)) (.inl rfl) rfl rfl rfl ?_)
   refine opG rfl (aop_move (av := .i (k : Int)) (.inl rfl) rfl rfl rfl ?_)
   refine opG rfl (aop_binI (u := (.int .i64 ((k + 1 : Nat) : Int))) rfl rfl rfl rfl rfl trivial (addN (by omega)) ?_)
   refine opG rfl (aop_sliceRo (l := k) (hgh := k + 1) (cells' := enc eEn (((endsL secs n).take (k + 1)).drop k)) rfl rfl rfl ut69 sz51 rfl ⟨_, rfl⟩ ⟨_, rfl⟩ (by first | omega | (simp; done) | decide | (simp at *; omega)) (by first | omega | (simp; done) | decide | (simp at *; omega)) (sliceE (f := eEn) (fun _ => rfl) _ _ _) ?_)
   refine opG rfl (aop_move (av := .ro ((k + 1) - k) (enc eEn (((endsL secs n).take (k + 1)).drop k))) (.inr rfl) rfl rfl rfl ?_)
   refine op0 ?_
   refine rs_ (upd (upd (upd (upd none_ 1 (.i s)) 6 (.ro ((k + 1) - k) (enc eEn (((endsL secs n).take (k + 1)).drop k)))) 7 (.q eEn (endsL secs n))) 8 (.i (k : Int))) noOb (lu rfl (lu rfl (lu rfl (lu rfl ln)))) rfl ?_
   refine awp_ret ?_
   exact fret (av := .ro ((k + 1) - k) (enc eEn (((endsL secs n).take (k + 1)).drop k))) rfl rfl (by unfold oneE; rw [firstE_stop (by omega) hinv (by simpa using hc1), ← take1_drop (by omega), List.drop_take, show k + 1 - k = 1 by omega]; simp; omega)
  ·skip
   have hf3 := (beq_eq_false_iff_ne).1 hc1
   refine awp_skip ?_
   refine regR ?_
   refine opG rfl (aop_move (av := .i (k : Int)) (.inl rfl) rfl rfl rfl ?_)
   refine opG rfl (aop_binI (u := (.int .i64 ((k + 1 : Nat) : Int))) rfl rfl rfl rfl rfl trivial (addN (by omega)) ?_)
   refine opG rfl (aop_move (av := .i ((k + 1 : Nat) : Int)) (.inr rfl) rfl rfl rfl ?_)
   refine op0 ?_
   show _ ∧ _
   refine ⟨by omega, (any_step dE (by omega) hinv (by simpa using hc1)), ?_⟩
   exact imp_ler [] (ler0 (sS rfl (sS rfl (sS rfl (sS rfl sr_none))))) (keep_of rfl)
 ·skip
  have hf4 := of_decide_eq_false hc0
  refine awp_exit ?_
  refine seqR ?_
  refine opG rfl (aop_move (av := .v (.slice none 0 0)) (.inr rfl) rfl rfl rfl ?_)
  refine op0 ?_
  refine awp_imp _ (imp_frozen rfl (fun _ h => h) (lee_lend 6 (.ro 0 []) .nil lee_lend0)) ?_
  refine awp_ret ?_
  exact fret (av := .ro 0 []) rfl rfl (by unfold oneE; rw [firstE_none (by omega) hinv] <;> rfl)
theorem r05_Around (secs : List Sec) (pts : List Pnt) (s e : Int) (hs : secs.length ≤ 65536) (hp : pts.length ≤ 65536) : Fn Try.prog 29 [.agg [.one, .ro secs.length (enc eSec secs), .one, .ro pts.length (enc ePnt pts), .one, .one, .one, .one, .one, .one], .agg [.v (.int .i64 s), .v (.int .i64 e)]] (.ro ((aroundL secs pts s e).length) (enc eEn (aroundL secs pts s e))) := by
 refine fnE_of_body (N := 92) Try.func29 rfl rfl (resOf1 rfl) (by simp) (fun w0 X hL_ => ?_)
 refine seqR ?_
 refine opG rfl (aop_box 51 rfl rfl rfl rfl rfl rfl rfl ?_)
 refine opG rfl (aop_box 52 rfl rfl rfl rfl rfl rfl rfl ?_)
 refine opG rfl (aop_move (av := .v (.slice none 0 0)) (.inr rfl) rfl rfl rfl ?_)
 refine op0 ?_
 refine seqR ?_
 refine opG rfl (aop_ldB (cells' := [.one, .q eSec secs, .one, .q ePnt pts, .one, .one, .one, .one, .one, .one]) rfl rfl rfl ag37 sz37 rfl rfl rfl rfl ?_)
 refine opG rfl (aop_ldB (cells' := [.i s, .i e]) rfl rfl rfl ag51 sz51 rfl rfl rfl rfl ?_)
 refine opG rfl (callW_ (r05_node secs s e (by first | omega | (simp; done) | decide | (simp at *; omega))) rfl rfl rfl rfl rfl bd30 (lends_cons (lend_agg (lends_cons (lend_n (av := .one)) (lends_cons (lend_n (av := .q eSec secs)) (lends_cons (lend_n (av := .one)) (lends_cons (.one _ rfl) (lends_cons (lend_n (av := .one)) (lends_cons (lend_n (av := .one)) (lends_cons (lend_n (av := .one)) (lends_cons (lend_n (av := .one)) (lends_cons (lend_n (av := .one)) (lends_cons (lend_n (av := .one)) lends_nil))))))))))) (lends_cons (lend_n (av := .agg [.i s, .i e])) lends_nil)) ?_)
 refine opG rfl (aop_move (av := .tup [.i (nodeA secs s e), .b (!noNode secs s e)]) (.inl rfl) rfl rfl rfl ?_)
 refine opG rfl (aop_extract rfl rfl rfl rfl rfl ?_)
 refine opG rfl (aop_extract rfl rfl rfl rfl rfl ?_)
 refine opG rfl (aop_move (av := .i (nodeA secs s e)) (.inr rfl) rfl rfl rfl ?_)
 refine opG rfl (aop_move (av := .b (!noNode secs s e)) (.inr rfl) rfl rfl rfl ?_)
 refine op0 ?_
 refine rs_ (upd (upd (upd (upd (upd none_ 2 (.pt 51 0)) 3 (.pt 52 0)) 4 (.v (.slice none 0 0))) 5 (.i (nodeA secs s e))) 6 (.b (!noNode secs s e))) (updO (updO noOb 51 (.live ⟨[.one, .q eSec secs, .one, .q ePnt pts, .one, .one, .one, .one, .one, .one], 37, 1⟩)) 52 (.live ⟨[.i s, .i e], 51, 1⟩)) (lu rfl (lu rfl (lu rfl (lu rfl (lu rfl ln))))) rfl ?_
 refine awp_seq ?_
 refine seqR ?_
 refine opG rfl (aop_move (av := .b (!noNode secs s e)) (.inl rfl) rfl rfl rfl ?_)
 refine opG rfl (aop_not rfl rfl rfl rfl ?_)
 refine op0 ?_
 refine awp_cond (!(!noNode secs s e)) rfl rfl (fun hc0 => ?_) (fun hc0 => ?_)
 ·skip
  have hf1 := not_t hc0
  have hn : noNode secs s e = true := by simpa using hc0
  refine seqR ?_
  refine opG rfl (aop_move (av := .v (.slice none 0 0)) (.inr rfl) rfl rfl rfl ?_)
  refine op0 ?_
  refine awp_imp _ (imp_frozen rfl (fun _ h => h) (lee_lend 4 (.ro 0 []) .nil lee_lend0)) ?_
  refine awp_ret ?_
  exact fret (av := .ro 0 []) rfl rfl (by rw [around_no hn]; rfl)
 ·skip
  have hf2 := not_f hc0
  have hn : noNode secs s e = false := by simpa using hc0
  have hr_ := pointI_range pts (nodeA secs s e)
  refine awp_skip ?_
  refine seqR ?_
  refine opG rfl (aop_ldB (cells' := [.one, .q eSec secs, .one, .q ePnt pts, .one, .one, .one, .one, .one, .one]) rfl rfl rfl ag37 sz37 rfl rfl rfl rfl ?_)
  refine opG rfl (aop_move (av := .i (nodeA secs s e)) (.inl rfl) rfl rfl rfl ?_)
  refine opG rfl (callW_ (r05_Point pts (nodeA secs s e) (by first | omega | (simp; done) | decide | (simp at *; omega))) rfl rfl rfl rfl rfl bd31 (lends_cons (lend_agg (lends_cons (lend_n (av := .one)) (lends_cons (.one _ rfl) (lends_cons (lend_n (av := .one)) (lends_cons (lend_n (av := .q ePnt pts)) (lends_cons (lend_n (av := .one)) (lends_cons (lend_n (av := .one)) (lends_cons (lend_n (av := .one)) (lends_cons (lend_n (av := .one)) (lends_cons (lend_n (av := .one)) (lends_cons (lend_n (av := .one)) lends_nil))))))))))) (lends_cons (lend_n (av := .i (nodeA secs s e))) lends_nil)) ?_)
  refine opG rfl (aop_move (av := .i (pointI pts (nodeA secs s e))) (.inr rfl) rfl rfl rfl ?_)
  refine op0 ?_
  refine rs_ (upd (upd (upd (upd (upd none_ 2 (.pt 51 0)) 3 (.pt 52 0)) 4 (.v (.slice none 0 0))) 5 (.i (nodeA secs s e))) 7 (.i (pointI pts (nodeA secs s e)))) (updO (updO noOb 51 (.live ⟨[.one, .q eSec secs, .one, .q ePnt pts, .one, .one, .one, .one, .one, .one], 37, 1⟩)) 52 (.live ⟨[.i s, .i e], 51, 1⟩)) (lu rfl (lu rfl (lu rfl (lu rfl (lu rfl ln))))) rfl ?_
  refine seqR ?_
  refine opG rfl (aop_move (av := .v (.slice none 0 0)) (.inr rfl) rfl rfl rfl ?_)
  refine op0 ?_
  refine awp_seq ?_
  refine seqR ?_
  refine opG rfl (aop_move (av := .i (pointI pts (nodeA secs s e))) (.inl rfl) rfl rfl rfl ?_)
  refine opG rfl (aop_binI (u := (.bool (decide ((pointI pts (nodeA secs s e)) ≥ 0)))) rfl rfl rfl rfl rfl trivial rfl ?_)
  refine op0 ?_
  refine awp_cond (decide ((pointI pts (nodeA secs s e)) ≥ 0)) rfl rfl (fun hc1 => ?_) (fun hc1 => ?_)
  ·skip
   have hf3 := of_decide_eq_true hc1
   have hi : 0 ≤ pointI pts (nodeA secs s e) := by simpa using hc1
   have ho1 := oneE_len secs (pts.getD (pointI pts (nodeA secs s e)).toNat dP).left (nodeA secs s e)
   have ho2 := oneE_len secs (pts.getD (pointI pts (nodeA secs s e)).toNat dP).right (nodeA secs s e)
   refine seqR ?_
   refine opG rfl (aop_fieldAddr (av := .pt 51 0) (av' := .pt 51 3) rfl rfl rfl ft37_3 sz35 rfl rfl rfl ?_)
   refine opG rfl (aop_ld (av := .q ePnt pts) rfl rfl rfl ag35 rfl rfl ?_)
   refine opG rfl (aop_move (av := .i (pointI pts (nodeA secs s e))) (.inl rfl) rfl rfl rfl ?_)
   refine opG rfl (aop_ixI dP rfl rfl rfl ut35 sz58 rfl rfl (fun _ => rfl) rfl (by omega) (by first | omega | (simp; done) | decide | (simp at *; omega)) ?_)
   refine opG rfl (aop_ldB (cells' := [.i ((pts.getD (pointI pts (nodeA secs s e)).toNat dP).node), .i ((pts.getD (pointI pts (nodeA secs s e)).toNat dP).stem), .i ((pts.getD (pointI pts (nodeA secs s e)).toNat dP).left), .i ((pts.getD (pointI pts (nodeA secs s e)).toNat dP).right)]) rfl rfl rfl ag58 sz58 rfl rfl rfl rfl ?_)
   refine opG rfl (aop_alloc 53 rfl rfl rfl rfl ze58 rfl ?_)
   refine opG rfl (aop_store rfl rfl rfl sz58 rfl rfl rfl rfl rfl (Nat.le_of_ble_eq_true rfl) rfl rfl ?_)
   refine op0 ?_
   refine rs_ (upd (upd (upd (upd (upd (upd none_ 2 (.pt 51 0)) 3 (.pt 52 0)) 4 (.v (.slice none 0 0))) 5 (.i (nodeA secs s e))) 8 (.v (.slice none 0 0))) 9 (.pt 53 0)) (updO (updO (updO (updO noOb 51 (.live ⟨[.one, .q eSec secs, .one, .q ePnt pts, .one, .one, .one, .one, .one, .one], 37, 1⟩)) 52 (.live ⟨[.i s, .i e], 51, 1⟩)) 53 (.live ⟨[.i 0, .i 0, .i 0, .i 0], 58, 1⟩)) 53 (.live ⟨[.i ((pts.getD (pointI pts (nodeA secs s e)).toNat dP).node), .i ((pts.getD (pointI pts (nodeA secs s e)).toNat dP).stem), .i ((pts.getD (pointI pts (nodeA secs s e)).toNat dP).left), .i ((pts.getD (pointI pts (nodeA secs s e)).toNat dP).right)], 58, 1⟩)) (lu rfl (lu rfl (lu rfl (lu rfl (lu rfl (lu rfl ln)))))) rfl ?_
   refine awp_seq ?_
   refine seqR ?_
   refine opG rfl (aop_fieldAddr (av := .pt 52 0) (av' := .pt 52 0) rfl rfl rfl ft51_0 sz3 rfl rfl rfl ?_)
   refine opG rfl (aop_ld (av := .i s) rfl rfl rfl ag3 rfl rfl ?_)
   refine opG rfl (aop_fieldAddr (av := .pt 53 0) (av' := .pt 53 1) rfl rfl rfl ft58_1 sz3 rfl rfl rfl ?_)
   refine opG rfl (aop_ld (av := .i ((pts.getD (pointI pts (nodeA secs s e)).toNat dP).stem)) rfl rfl rfl ag3 rfl rfl ?_)
   refine opG rfl (aop_binI (u := (.bool (s == ((pts.getD (pointI pts (nodeA secs s e)).toNat dP).stem)))) rfl rfl rfl rfl rfl trivial rfl ?_)
   refine op0 ?_
   refine rs_ (upd (upd (upd (upd (upd (upd (upd none_ 2 (.pt 51 0)) 3 (.pt 52 0)) 4 (.v (.slice none 0 0))) 5 (.i (nodeA secs s e))) 8 (.v (.slice none 0 0))) 9 (.pt 53 0)) 34 (.b (s == ((pts.getD (pointI pts (nodeA secs s e)).toNat dP).stem)))) (updO (updO (updO (updO noOb 51 (.live ⟨[.one, .q eSec secs, .one, .q ePnt pts, .one, .one, .one, .one, .one, .one], 37, 1⟩)) 52 (.live ⟨[.i s, .i e], 51, 1⟩)) 53 (.live ⟨[.i 0, .i 0, .i 0, .i 0], 58, 1⟩)) 53 (.live ⟨[.i ((pts.getD (pointI pts (nodeA secs s e)).toNat dP).node), .i ((pts.getD (pointI pts (nodeA secs s e)).toNat dP).stem), .i ((pts.getD (pointI pts (nodeA secs s e)).toNat dP).left), .i ((pts.getD (pointI pts (nodeA secs s e)).toNat dP).right)], 58, 1⟩)) (lu rfl (lu rfl (lu rfl (lu rfl (lu rfl (lu rfl (lu rfl ln))))))) rfl ?_
   refine awp_cond (s == ((pts.getD (pointI pts (nodeA secs s e)).toNat dP).stem)) rfl rfl (fun hc2 => ?_) (fun hc2 => ?_)
   ·skip
    have hf4 := (beq_iff_eq).1 hc2
    have hq : s = (pts.getD (pointI pts (nodeA secs s e)).toNat dP).stem := by simpa using hc2
    refine seqR ?_
    refine opG rfl (aop_move (av := .v (.slice none 0 0)) (.inl rfl) rfl rfl rfl ?_)
    refine opG rfl (aop_ldB (cells' := [.one, .q eSec secs, .one, .q ePnt pts, .one, .one, .one, .one, .one, .one]) rfl rfl rfl ag37 sz37 rfl rfl rfl rfl ?_)
    refine opG rfl (aop_fieldAddr (av := .pt 53 0) (av' := .pt 53 2) rfl rfl rfl ft58_2 sz3 rfl rfl rfl ?_)
    refine opG rfl (aop_ld (av := .i ((pts.getD (pointI pts (nodeA secs s e)).toNat dP).left)) rfl rfl rfl ag3 rfl rfl ?_)
    refine opG rfl (aop_move (av := .i (nodeA secs s e)) (.inl rfl) rfl rfl rfl ?_)
    refine opG rfl (callW_ (r05_one secs ((pts.getD (pointI pts (nodeA secs s e)).toNat dP).left) (nodeA secs s e) (by first | omega | (simp; done) | decide | (simp at *; omega))) rfl rfl rfl rfl rfl bd39 (lends_cons (lend_agg (lends_cons (lend_n (av := .one)) (lends_cons (lend_n (av := .q eSec secs)) (lends_cons (lend_n (av := .one)) (lends_cons (.one _ rfl) (lends_cons (lend_n (av := .one)) (lends_cons (lend_n (av := .one)) (lends_cons (lend_n (av := .one)) (lends_cons (lend_n (av := .one)) (lends_cons (lend_n (av := .one)) (lends_cons (lend_n (av := .one)) lends_nil))))))))))) (lends_cons (lend_n (av := .i ((pts.getD (pointI pts (nodeA secs s e)).toNat dP).left))) (lends_cons (lend_n (av := .i (nodeA secs s e))) lends_nil))) ?_)
    refine opG rfl (aop_adopt 35 54 51 2 rfl rfl (aop_appE (f := eEn) (l := ([] : List En)) (l2 := oneE secs ((pts.getD (pointI pts (nodeA secs s e)).toNat dP).left) (nodeA secs s e)) 55 rfl rfl rfl rfl ut69 in51 rfl (by decide) rfl rfl rfl rfl rfl rfl (fun _ => rfl) rfl rfl rfl (by first | omega | (simp; done) | decide | (simp at *; omega)) (by first | omega | (simp; done) | decide | (simp at *; omega)) rfl ?_))
    refine opG rfl (aop_move (av := .sl 55 0 ((([] : List En) ++ (oneE secs ((pts.getD (pointI pts (nodeA secs s e)).toNat dP).left) (nodeA secs s e))).length)) (.inr rfl) rfl rfl rfl ?_)
    refine op0 ?_
    refine rs_ (upd (upd (upd (upd (upd (upd none_ 2 (.pt 51 0)) 3 (.pt 52 0)) 4 (.v (.slice none 0 0))) 5 (.i (nodeA secs s e))) 8 (.sl 55 0 ((([] : List En) ++ (oneE secs ((pts.getD (pointI pts (nodeA secs s e)).toNat dP).left) (nodeA secs s e))).length))) 9 (.pt 53 0)) (updO (updO (updO (updO (updO (updO (updO noOb 51 (.live ⟨[.one, .q eSec secs, .one, .q ePnt pts, .one, .one, .one, .one, .one, .one], 37, 1⟩)) 52 (.live ⟨[.i s, .i e], 51, 1⟩)) 53 (.live ⟨[.i 0, .i 0, .i 0, .i 0], 58, 1⟩)) 53 (.live ⟨[.i ((pts.getD (pointI pts (nodeA secs s e)).toNat dP).node), .i ((pts.getD (pointI pts (nodeA secs s e)).toNat dP).stem), .i ((pts.getD (pointI pts (nodeA secs s e)).toNat dP).left), .i ((pts.getD (pointI pts (nodeA secs s e)).toNat dP).right)], 58, 1⟩)) 54 (.live ⟨[], 51, 2⟩)) 54 .dead) 55 (.live ⟨(enc eEn (([] : List En) ++ (oneE secs ((pts.getD (pointI pts (nodeA secs s e)).toNat dP).left) (nodeA secs s e)))), 51, 2⟩)) (lu rfl (lu rfl (lu rfl (lu rfl (lu rfl (lu rfl ln)))))) rfl ?_
    refine seqR ?_
    refine opG rfl (aop_move (av := .sl 55 0 ((([] : List En) ++ (oneE secs ((pts.getD (pointI pts (nodeA secs s e)).toNat dP).left) (nodeA secs s e))).length)) (.inl rfl) rfl rfl rfl ?_)
    refine opG rfl (aop_ldB (cells' := [.one, .q eSec secs, .one, .q ePnt pts, .one, .one, .one, .one, .one, .one]) rfl rfl rfl ag37 sz37 rfl rfl rfl rfl ?_)
    refine opG rfl (aop_fieldAddr (av := .pt 53 0) (av' := .pt 53 3) rfl rfl rfl ft58_3 sz3 rfl rfl rfl ?_)
    refine opG rfl (aop_ld (av := .i ((pts.getD (pointI pts (nodeA secs s e)).toNat dP).right)) rfl rfl rfl ag3 rfl rfl ?_)
    refine opG rfl (aop_move (av := .i (nodeA secs s e)) (.inl rfl) rfl rfl rfl ?_)
    refine opG rfl (callW_ (r05_one secs ((pts.getD (pointI pts (nodeA secs s e)).toNat dP).right) (nodeA secs s e) (by first | omega | (simp; done) | decide | (simp at *; omega))) rfl rfl rfl rfl rfl bd39 (lends_cons (lend_agg (lends_cons (lend_n (av := .one)) (lends_cons (lend_n (av := .q eSec secs)) (lends_cons (lend_n (av := .one)) (lends_cons (.one _ rfl) (lends_cons (lend_n (av := .one)) (lends_cons (lend_n (av := .one)) (lends_cons (lend_n (av := .one)) (lends_cons (lend_n (av := .one)) (lends_cons (lend_n (av := .one)) (lends_cons (lend_n (av := .one)) lends_nil))))))))))) (lends_cons (lend_n (av := .i ((pts.getD (pointI pts (nodeA secs s e)).toNat dP).right))) (lends_cons (lend_n (av := .i (nodeA secs s e))) lends_nil))) ?_)
    refine opG rfl (aop_appE (f := eEn) (l := ([] : List En) ++ (oneE secs ((pts.getD (pointI pts (nodeA secs s e)).toNat dP).left) (nodeA secs s e))) (l2 := oneE secs ((pts.getD (pointI pts (nodeA secs s e)).toNat dP).right) (nodeA secs s e)) 56 rfl rfl rfl rfl ut69 in51 rfl (by decide) rfl rfl rfl rfl rfl rfl (fun _ => rfl) rfl rfl rfl (by first | omega | (simp; done) | decide | (simp at *; omega)) (by first | omega | (simp; done) | decide | (simp at *; omega)) rfl ?_)
    refine opG rfl (aop_move (av := .sl 56 0 (((([] : List En) ++ (oneE secs ((pts.getD (pointI pts (nodeA secs s e)).toNat dP).left) (nodeA secs s e))) ++ (oneE secs ((pts.getD (pointI pts (nodeA secs s e)).toNat dP).right) (nodeA secs s e))).length)) (.inr rfl) rfl rfl rfl ?_)
    refine op0 ?_
    refine rs_ (upd (upd (upd (upd (upd (upd none_ 2 (.pt 51 0)) 3 (.pt 52 0)) 4 (.sl 56 0 (((([] : List En) ++ (oneE secs ((pts.getD (pointI pts (nodeA secs s e)).toNat dP).left) (nodeA secs s e))) ++ (oneE secs ((pts.getD (pointI pts (nodeA secs s e)).toNat dP).right) (nodeA secs s e))).length))) 5 (.i (nodeA secs s e))) 8 (.sl 55 0 ((([] : List En) ++ (oneE secs ((pts.getD (pointI pts (nodeA secs s e)).toNat dP).left) (nodeA secs s e))).length))) 9 (.pt 53 0)) (updO (updO (updO (updO (updO (updO (updO (updO (updO noOb 51 (.live ⟨[.one, .q eSec secs, .one, .q ePnt pts, .one, .one, .one, .one, .one, .one], 37, 1⟩)) 52 (.live ⟨[.i s, .i e], 51, 1⟩)) 53 (.live ⟨[.i 0, .i 0, .i 0, .i 0], 58, 1⟩)) 53 (.live ⟨[.i ((pts.getD (pointI pts (nodeA secs s e)).toNat dP).node), .i ((pts.getD (pointI pts (nodeA secs s e)).toNat dP).stem), .i ((pts.getD (pointI pts (nodeA secs s e)).toNat dP).left), .i ((pts.getD (pointI pts (nodeA secs s e)).toNat dP).right)], 58, 1⟩)) 54 (.live ⟨[], 51, 2⟩)) 54 .dead) 55 (.live ⟨(enc eEn (([] : List En) ++ (oneE secs ((pts.getD (pointI pts (nodeA secs s e)).toNat dP).left) (nodeA secs s e)))), 51, 2⟩)) 55 .dead) 56 (.live ⟨(enc eEn ((([] : List En) ++ (oneE secs ((pts.getD (pointI pts (nodeA secs s e)).toNat dP).left) (nodeA secs s e))) ++ (oneE secs ((pts.getD (pointI pts (nodeA secs s e)).toNat dP).right) (nodeA secs s e)))), 51, 2⟩)) (lu rfl (lu rfl (lu rfl (lu rfl (lu rfl (lu rfl ln)))))) rfl ?_
    refine awp_imp _ (imp_frozen rfl (fun _ h => h) (lee_lend 4 (.q eEn ((([] : List En) ++ (oneE secs ((pts.getD (pointI pts (nodeA secs s e)).toNat dP).left) (nodeA secs s e))) ++ (oneE secs ((pts.getD (pointI pts (nodeA secs s e)).toNat dP).right) (nodeA secs s e)))) (lend_s (id := 56) (n := ((([] : List En) ++ (oneE secs ((pts.getD (pointI pts (nodeA secs s e)).toNat dP).left) (nodeA secs s e))) ++ (oneE secs ((pts.getD (pointI pts (nodeA secs s e)).toNat dP).right) (nodeA secs s e))).length) (o := ⟨(enc eEn ((([] : List En) ++ (oneE secs ((pts.getD (pointI pts (nodeA secs s e)).toNat dP).left) (nodeA secs s e))) ++ (oneE secs ((pts.getD (pointI pts (nodeA secs s e)).toNat dP).right) (nodeA secs s e)))), 51, 2⟩) rfl (enc_len (fun _ => rfl) (by first | rfl | (simp; done)))) lee_lend0)) ?_
    refine awp_ret ?_
    exact fret (av := .ro (((([] : List En) ++ (oneE secs ((pts.getD (pointI pts (nodeA secs s e)).toNat dP).left) (nodeA secs s e))) ++ (oneE secs ((pts.getD (pointI pts (nodeA secs s e)).toNat dP).right) (nodeA secs s e))).length) (enc eEn ((([] : List En) ++ (oneE secs ((pts.getD (pointI pts (nodeA secs s e)).toNat dP).left) (nodeA secs s e))) ++ (oneE secs ((pts.getD (pointI pts (nodeA secs s e)).toNat dP).right) (nodeA secs s e))))) rfl rfl (by rw [around_stem hn hi hq]; rfl)
   ·skip
    have hf5 := (beq_eq_false_iff_ne).1 hc2
    have hq : ¬ s = (pts.getD (pointI pts (nodeA secs s e)).toNat dP).stem := by simpa using hc2
    refine awp_skip ?_
    refine awp_seq ?_
    refine seqR ?_
    refine opG rfl (aop_fieldAddr (av := .pt 52 0) (av' := .pt 52 0) rfl rfl rfl ft51_0 sz3 rfl rfl rfl ?_)
    refine opG rfl (aop_ld (av := .i s) rfl rfl rfl ag3 rfl rfl ?_)
    refine opG rfl (aop_fieldAddr (av := .pt 53 0) (av' := .pt 53 2) rfl rfl rfl ft58_2 sz3 rfl rfl rfl ?_)
    refine opG rfl (aop_ld (av := .i ((pts.getD (pointI pts (nodeA secs s e)).toNat dP).left)) rfl rfl rfl ag3 rfl rfl ?_)
    refine opG rfl (aop_binI (u := (.bool (s == ((pts.getD (pointI pts (nodeA secs s e)).toNat dP).left)))) rfl rfl rfl rfl rfl trivial rfl ?_)
    refine opG rfl (aop_move (av := .b (s == ((pts.getD (pointI pts (nodeA secs s e)).toNat dP).left))) (.inl rfl) rfl rfl rfl ?_)
    refine aops_grp 6 60 (.b ((s == ((pts.getD (pointI pts (nodeA secs s e)).toNat dP).left)) || (s == ((pts.getD (pointI pts (nodeA secs s e)).toNat dP).right)))) ?_ ?_
    ·refine (Bool.eq_false_or_eq_true (s == ((pts.getD (pointI pts (nodeA secs s e)).toNat dP).left))).elim (fun hg6 => ?_) (fun hg6 => ?_)
     ·skip
      have hf7 := (beq_iff_eq).1 hg6
      refine opN rfl rfl rfl rfl (by show yv (.bool (s == ((pts.getD (pointI pts (nodeA secs s e)).toNat dP).left))) ≠ _; rw [hg6]; intro h; cases h) rfl rfl ?_
      refine opN rfl rfl rfl rfl (by show yv (.bool (s == ((pts.getD (pointI pts (nodeA secs s e)).toNat dP).left))) ≠ _; rw [hg6]; intro h; cases h) rfl rfl ?_
      refine opN rfl rfl rfl rfl (by show yv (.bool (s == ((pts.getD (pointI pts (nodeA secs s e)).toNat dP).left))) ≠ _; rw [hg6]; intro h; cases h) rfl rfl ?_
      refine opN rfl rfl rfl rfl (by show yv (.bool (s == ((pts.getD (pointI pts (nodeA secs s e)).toNat dP).left))) ≠ _; rw [hg6]; intro h; cases h) rfl rfl ?_
      refine opN rfl rfl rfl rfl (by show yv (.bool (s == ((pts.getD (pointI pts (nodeA secs s e)).toNat dP).left))) ≠ _; rw [hg6]; intro h; cases h) rfl rfl ?_
      refine opG rfl (aop_pick (b := (s == ((pts.getD (pointI pts (nodeA secs s e)).toNat dP).left))) (av := .b true) rfl rfl rfl rfl ((congrArg (fun b_ => cond b_ _ _) hg6).trans rfl) ?_)
      refine op0 ?_
      exact imp_env (lee_both 60 _ _ (by rw [hg6] <;> rfl) (lee_out 59 _ rfl (lee_out 58 _ rfl (lee_out 57 _ rfl (lee_out 56 _ rfl (lee_out 55 _ rfl (lee_same _)))))))
     ·skip
      have hf8 := (beq_eq_false_iff_ne).1 hg6
      refine opY rfl rfl rfl (by show AV.v (.bool (s == ((pts.getD (pointI pts (nodeA secs s e)).toNat dP).left))) = _; rw [hg6]) (aop_fieldAddr (av := .pt 52 0) (av' := .pt 52 0) rfl rfl rfl ft51_0 sz3 rfl rfl rfl ?_)
      refine opY rfl rfl rfl (by show AV.v (.bool (s == ((pts.getD (pointI pts (nodeA secs s e)).toNat dP).left))) = _; rw [hg6]) (aop_ld (av := .i s) rfl rfl rfl ag3 rfl rfl ?_)
      refine opY rfl rfl rfl (by show AV.v (.bool (s == ((pts.getD (pointI pts (nodeA secs s e)).toNat dP).left))) = _; rw [hg6]) (aop_fieldAddr (av := .pt 53 0) (av' := .pt 53 3) rfl rfl rfl ft58_3 sz3 rfl rfl rfl ?_)
      refine opY rfl rfl rfl (by show AV.v (.bool (s == ((pts.getD (pointI pts (nodeA secs s e)).toNat dP).left))) = _; rw [hg6]) (aop_ld (av := .i ((pts.getD (pointI pts (nodeA secs s e)).toNat dP).right)) rfl rfl rfl ag3 rfl rfl ?_)
      refine opY rfl rfl rfl (by show AV.v (.bool (s == ((pts.getD (pointI pts (nodeA secs s e)).toNat dP).left))) = _; rw [hg6]) (aop_binI (u := (.bool (s == ((pts.getD (pointI pts (nodeA secs s e)).toNat dP).right)))) rfl rfl rfl rfl rfl trivial rfl ?_)
      refine opG rfl (aop_pick (b := (s == ((pts.getD (pointI pts (nodeA secs s e)).toNat dP).left))) (av := .b (s == ((pts.getD (pointI pts (nodeA secs s e)).toNat dP).right))) rfl rfl rfl rfl ((congrArg (fun b_ => cond b_ _ _) hg6).trans rfl) ?_)
      refine op0 ?_
      exact imp_env (lee_both 60 _ _ (by rw [hg6] <;> rfl) (lee_out 59 _ rfl (lee_out 58 _ rfl (lee_out 57 _ rfl (lee_out 56 _ rfl (lee_out 55 _ rfl (lee_same _)))))))
    refine op0 ?_
    refine rs_ (upd (upd (upd (upd (upd (upd (upd none_ 2 (.pt 51 0)) 3 (.pt 52 0)) 4 (.v (.slice none 0 0))) 5 (.i (nodeA secs s e))) 8 (.v (.slice none 0 0))) 9 (.pt 53 0)) 60 (.b ((s == ((pts.getD (pointI pts (nodeA secs s e)).toNat dP).left)) || (s == ((pts.getD (pointI pts (nodeA secs s e)).toNat dP).right))))) (updO (updO (updO (updO noOb 51 (.live ⟨[.one, .q eSec secs, .one, .q ePnt pts, .one, .one, .one, .one, .one, .one], 37, 1⟩)) 52 (.live ⟨[.i s, .i e], 51, 1⟩)) 53 (.live ⟨[.i 0, .i 0, .i 0, .i 0], 58, 1⟩)) 53 (.live ⟨[.i ((pts.getD (pointI pts (nodeA secs s e)).toNat dP).node), .i ((pts.getD (pointI pts (nodeA secs s e)).toNat dP).stem), .i ((pts.getD (pointI pts (nodeA secs s e)).toNat dP).left), .i ((pts.getD (pointI pts (nodeA secs s e)).toNat dP).right)], 58, 1⟩)) (lu rfl (lu rfl (lu rfl (lu rfl (lu rfl (lu rfl (lu rfl ln))))))) rfl ?_
    refine awp_cond ((s == ((pts.getD (pointI pts (nodeA secs s e)).toNat dP).left)) || (s == ((pts.getD (pointI pts (nodeA secs s e)).toNat dP).right))) rfl rfl (fun hc3 => ?_) (fun hc3 => ?_)
    ·skip
     have hl : s = (pts.getD (pointI pts (nodeA secs s e)).toNat dP).left ∨ s = (pts.getD (pointI pts (nodeA secs s e)).toNat dP).right := by simpa using hc3
     refine seqR ?_
     refine opG rfl (aop_ldB (cells' := [.one, .q eSec secs, .one, .q ePnt pts, .one, .one, .one, .one, .one, .one]) rfl rfl rfl ag37 sz37 rfl rfl rfl rfl ?_)
     refine opG rfl (aop_fieldAddr (av := .pt 53 0) (av' := .pt 53 1) rfl rfl rfl ft58_1 sz3 rfl rfl rfl ?_)
     refine opG rfl (aop_ld (av := .i ((pts.getD (pointI pts (nodeA secs s e)).toNat dP).stem)) rfl rfl rfl ag3 rfl rfl ?_)
     refine opG rfl (aop_move (av := .i (nodeA secs s e)) (.inl rfl) rfl rfl rfl ?_)
     refine opG rfl (callW_ (r05_one secs ((pts.getD (pointI pts (nodeA secs s e)).toNat dP).stem) (nodeA secs s e) (by first | omega | (simp; done) | decide | (simp at *; omega))) rfl rfl rfl rfl rfl bd39 (lends_cons (lend_agg (lends_cons (lend_n (av := .one)) (lends_cons (lend_n (av := .q eSec secs)) (lends_cons (lend_n (av := .one)) (lends_cons (.one _ rfl) (lends_cons (lend_n (av := .one)) (lends_cons (lend_n (av := .one)) (lends_cons (lend_n (av := .one)) (lends_cons (lend_n (av := .one)) (lends_cons (lend_n (av := .one)) (lends_cons (lend_n (av := .one)) lends_nil))))))))))) (lends_cons (lend_n (av := .i ((pts.getD (pointI pts (nodeA secs s e)).toNat dP).stem))) (lends_cons (lend_n (av := .i (nodeA secs s e))) lends_nil))) ?_)
     refine opG rfl (aop_move (av := .q eEn (oneE secs ((pts.getD (pointI pts (nodeA secs s e)).toNat dP).stem) (nodeA secs s e))) (.inr rfl) rfl rfl rfl ?_)
     refine op0 ?_
     refine rs_ (upd (upd (upd (upd (upd none_ 2 (.pt 51 0)) 3 (.pt 52 0)) 4 (.q eEn (oneE secs ((pts.getD (pointI pts (nodeA secs s e)).toNat dP).stem) (nodeA secs s e)))) 5 (.i (nodeA secs s e))) 8 (.v (.slice none 0 0))) (updO (updO (updO (updO noOb 51 (.live ⟨[.one, .q eSec secs, .one, .q ePnt pts, .one, .one, .one, .one, .one, .one], 37, 1⟩)) 52 (.live ⟨[.i s, .i e], 51, 1⟩)) 53 (.live ⟨[.i 0, .i 0, .i 0, .i 0], 58, 1⟩)) 53 (.live ⟨[.i ((pts.getD (pointI pts (nodeA secs s e)).toNat dP).node), .i ((pts.getD (pointI pts (nodeA secs s e)).toNat dP).stem), .i ((pts.getD (pointI pts (nodeA secs s e)).toNat dP).left), .i ((pts.getD (pointI pts (nodeA secs s e)).toNat dP).right)], 58, 1⟩)) (lu rfl (lu rfl (lu rfl (lu rfl (lu rfl ln))))) rfl ?_
     refine awp_ret ?_
     exact fret (av := .ro ((oneE secs ((pts.getD (pointI pts (nodeA secs s e)).toNat dP).stem) (nodeA secs s e)).length) (enc eEn (oneE secs ((pts.getD (pointI pts (nodeA secs s e)).toNat dP).stem) (nodeA secs s e)))) rfl rfl (by rw [around_leg hn hi hq hl])
    ·skip
     obtain ⟨hf9a, hf9b⟩ := or_f hc3
     have hf10 := (beq_eq_false_iff_ne).1 hf9a
     have hf11 := (beq_eq_false_iff_ne).1 hf9b
     have hl : ¬ (s = (pts.getD (pointI pts (nodeA secs s e)).toNat dP).left ∨ s = (pts.getD (pointI pts (nodeA secs s e)).toNat dP).right) := by simpa using hc3
     refine awp_skip ?_
     refine seqR ?_
     refine opG rfl (aop_move (av := .v (.slice none 0 0)) (.inr rfl) rfl rfl rfl ?_)
     refine op0 ?_
     refine awp_imp _ (imp_frozen rfl (fun _ h => h) (lee_lend 4 (.ro 0 []) .nil lee_lend0)) ?_
     refine awp_ret ?_
     exact fret (av := .ro 0 []) rfl rfl (by rw [around_off hn hi hq hl]; rfl)
  ·skip
   have hf12 := of_decide_eq_false hc1
   have hi : ¬ 0 ≤ pointI pts (nodeA secs s e) := by simpa using hc1
   have hle0 := endsL_len secs (nodeA secs s e)
   refine awp_skip ?_
   refine seqR ?_
   refine opG rfl (aop_ldB (cells' := [.one, .q eSec secs, .one, .q ePnt pts, .one, .one, .one, .one, .one, .one]) rfl rfl rfl ag37 sz37 rfl rfl rfl rfl ?_)
   refine opG rfl (aop_move (av := .i (nodeA secs s e)) (.inl rfl) rfl rfl rfl ?_)
   refine opG rfl (callW_ (r05_Ends secs (nodeA secs s e) (by first | omega | (simp; done) | decide | (simp at *; omega))) rfl rfl rfl rfl rfl bd40 (lends_cons (lend_agg (lends_cons (lend_n (av := .one)) (lends_cons (lend_n (av := .q eSec secs)) (lends_cons (lend_n (av := .one)) (lends_cons (.one _ rfl) (lends_cons (lend_n (av := .one)) (lends_cons (lend_n (av := .one)) (lends_cons (lend_n (av := .one)) (lends_cons (lend_n (av := .one)) (lends_cons (lend_n (av := .one)) (lends_cons (lend_n (av := .one)) lends_nil))))))))))) (lends_cons (lend_n (av := .i (nodeA secs s e))) lends_nil)) ?_)
   refine opG rfl (aop_move (av := .q eEn (endsL secs (nodeA secs s e))) (.inr rfl) rfl rfl rfl ?_)
   refine op0 ?_
   refine rs_ (upd (upd (upd (upd none_ 3 (.pt 52 0)) 4 (.v (.slice none 0 0))) 8 (.v (.slice none 0 0))) 10 (.q eEn (endsL secs (nodeA secs s e)))) (updO (updO noOb 51 (.live ⟨[.one, .q eSec secs, .one, .q ePnt pts, .one, .one, .one, .one, .one, .one], 37, 1⟩)) 52 (.live ⟨[.i s, .i e], 51, 1⟩)) (lu rfl (lu rfl (lu rfl (lu rfl ln)))) rfl ?_
   refine awp_seq ?_
   refine seqR ?_
   refine opG rfl (aop_move (av := .i 0) (.inr rfl) rfl rfl rfl ?_)
   refine op0 ?_
   refine awp_block ?_
   refine awp_countI (fun k => ⟨(upd (upd (upd (upd (upd none_ 3 (.pt 3 0)) 4 (.v (.slice none 0 0))) 8 (.sl 1 0 ((otherK secs (nodeA secs s e) s e k).length))) 10 (.q eEn (endsL secs (nodeA secs s e)))) 11 (.i (k : Int))), (updO (updO noOb 1 (.live ⟨(enc eEn (otherK secs (nodeA secs s e) s e k)), 51, 2⟩)) 3 (.live ⟨[.i s, .i e], 51, 1⟩))⟩) (fun k => True) ((endsL secs (nodeA secs s e)).length) ?_ trivial (fun k hk_k hinv => ?_)
   ·skip
    refine (imp_adopt 8 57 51 2 rfl rfl).trans ?_
    exact imp_ler [(57, 1), (52, 3)] (lerL [(57, 1), (52, 3)] [((57, 1), .live ⟨(enc eEn (otherK secs (nodeA secs s e) s e 0)), 51, 2⟩), ((52, 3), .live ⟨[.i s, .i e], 51, 1⟩)] rfl (by decide) (by decide) ⟨row_no (o := ⟨[], 51, 2⟩) rfl rfl, row_no (o := ⟨[.i s, .i e], 51, 1⟩) rfl rfl, trivial⟩ (sr_same 11 (.i (0 : Int)) rfl NoI.out (sr_same 10 (.q eEn (endsL secs (nodeA secs s e))) rfl NoI.out (sr_map 8 (.sl 1 0 ((otherK secs (nodeA secs s e) s e 0).length)) (by first | exact Ok.sl _ _ _ (by first | decide | simp) | exact Ok.pt _ _ (by first | decide | simp)) rfl (sr_same 4 (.v (.slice none 0 0)) rfl NoI.out (sr_map 3 (.pt 3 0) (by first | exact Ok.sl _ _ _ (by first | decide | simp) | exact Ok.pt _ _ (by first | decide | simp)) rfl sr_none)))))) (keep_of rfl)
   have hle := otherK_len secs (nodeA secs s e) s e k
   refine awp_seq ?_
   refine seqR ?_
   refine opG rfl (aop_move (av := .i (k : Int)) (.inl rfl) rfl rfl rfl ?_)
   refine opG rfl (aop_move (av := .q eEn (endsL secs (nodeA secs s e))) (.inl rfl) rfl rfl rfl ?_)
   refine opG rfl (aop_len rfl rfl rfl rfl ut69 (len_ro rfl) ?_)
   refine opG rfl (aop_binI (u := (.bool (decide ((k : Int) < ((endsL secs (nodeA secs s e)).length : Int))))) rfl rfl rfl rfl rfl trivial rfl ?_)
   refine op0 ?_
   refine rs_ (upd (upd (upd (upd (upd (upd none_ 3 (.pt 3 0)) 4 (.v (.slice none 0 0))) 8 (.sl 1 0 ((otherK secs (nodeA secs s e) s e k).length))) 10 (.q eEn (endsL secs (nodeA secs s e)))) 11 (.i (k : Int))) 72 (.b (decide ((k : Int) < ((endsL secs (nodeA secs s e)).length : Int))))) (updO (updO noOb 1 (.live ⟨(enc eEn (otherK secs (nodeA secs s e) s e k)), 51, 2⟩)) 3 (.live ⟨[.i s, .i e], 51, 1⟩)) (lu rfl (lu rfl (lu rfl (lu rfl (lu rfl (lu rfl ln)))))) rfl ?_
   refine awp_cond (decide ((k : Int) < ((endsL secs (nodeA secs s e)).length : Int))) rfl rfl (fun hc4 => ?_) (fun hc4 => ?_)
   ·skip
    have hf13 := of_decide_eq_true hc4
    refine awp_skip ?_
    refine awp_seq ?_
    refine awp_block ?_
    refine awp_seq ?_
    refine awp_draw (m := 6) [(80, .b (!(decide ((((endsL secs (nodeA secs s e)).getD k dE).sec) = s ∧ (((endsL secs (nodeA secs s e)).getD k dE).en) = e)))), (79, .agg [.i s, .i e]), (78, .agg [.i (((endsL secs (nodeA secs s e)).getD k dE).sec), .i (((endsL secs (nodeA secs s e)).getD k dE).en)]), (77, .rp (([.i (((endsL secs (nodeA secs s e)).getD k dE).sec), .i (((endsL secs (nodeA secs s e)).getD k dE).en)] : List AV) ++ ((enc eEn (endsL secs (nodeA secs s e))).drop ((k + 1) * 2)))), (76, .i (k : Int)), (75, .q eEn (endsL secs (nodeA secs s e)))] mixed (by kernel_rfl) ?_ ?_
    ·refine ⟨?_, ?_, ?_, ?_, ?_, ?_, trivial⟩
     ·exact ⟨75, rfl, blt_lt rfl, fun st hob hE => aop_move (av := .q eEn (endsL secs (nodeA secs s e))) (.inl rfl) rfl rfl (hE 10 rfl) (by rw [hob]; rfl)⟩
     ·exact ⟨76, rfl, blt_lt rfl, fun st hob hE => aop_move (av := .i (k : Int)) (.inl rfl) rfl rfl (hE 11 rfl) (by rw [hob]; rfl)⟩
     ·exact ⟨77, rfl, blt_lt rfl, fun st hob hE => aop_ixE dE rfl rfl rfl ut69 sz51 (hE 75 rfl) (hE 76 rfl) (fun _ => rfl) rfl (by first | omega | (simp; done) | decide | (simp at *; omega)) (by rw [hob]; rfl)⟩
     ·exact ⟨78, rfl, blt_lt rfl, fun st hob hE => aop_ldB (cells' := [.i (((endsL secs (nodeA secs s e)).getD k dE).sec), .i (((endsL secs (nodeA secs s e)).getD k dE).en)]) rfl rfl rfl ag51 sz51 (hE 77 rfl) rfl rfl rfl (by rw [hob]; rfl)⟩
     ·exact ⟨79, rfl, blt_lt rfl, fun st hob hE => aop_ldB (cells' := [.i s, .i e]) rfl rfl rfl ag51 sz51 (hE 3 rfl) (by rw [hob]; rfl) rfl rfl (by rw [hob]; rfl)⟩
     ·exact ⟨80, rfl, blt_lt rfl, fun st hob hE => aop_eqS2 (r := (!(decide ((((endsL secs (nodeA secs s e)).getD k dE).sec) = s ∧ (((endsL secs (nodeA secs s e)).getD k dE).en) = e)))) rfl rfl rfl (hE 78 rfl) (hE 79 rfl) es51 ut3 ut3 ag3 ag3 (.inr ⟨rfl, rfl⟩) (by rw [hob]; rfl)⟩
    refine op0 ?_
    refine awp_cond (!(decide ((((endsL secs (nodeA secs s e)).getD k dE).sec) = s ∧ (((endsL secs (nodeA secs s e)).getD k dE).en) = e))) rfl rfl (fun hc5 => ?_) (fun hc5 => ?_)
    ·skip
     refine regR ?_
     refine opG rfl (aop_move (av := .sl 1 0 ((otherK secs (nodeA secs s e) s e k).length)) (.inl rfl) rfl rfl rfl ?_)
     refine opG rfl (aop_move (av := .q eEn (endsL secs (nodeA secs s e))) (.inl rfl) rfl rfl rfl ?_)
     refine opG rfl (aop_move (av := .i (k : Int)) (.inl rfl) rfl rfl rfl ?_)
     refine opG rfl (aop_ixE dE rfl rfl rfl ut69 sz51 rfl rfl (fun _ => rfl) rfl (by first | omega | (simp; done) | decide | (simp at *; omega)) ?_)
     refine opG rfl (aop_ldB (cells' := [.i (((endsL secs (nodeA secs s e)).getD k dE).sec), .i (((endsL secs (nodeA secs s e)).getD k dE).en)]) rfl rfl rfl ag51 sz51 rfl rfl rfl rfl ?_)
     refine opG rfl (aop_lit rfl rfl rfl ut69 iz51 (by decide) (by decide) rfl rfl ?_)
     refine opG rfl (aop_app1 (f := eEn) (l := otherK secs (nodeA secs s e) s e k) 58 (⟨((endsL secs (nodeA secs s e)).getD k dE).sec, ((endsL secs (nodeA secs s e)).getD k dE).en⟩ : En) rfl rfl rfl rfl ut69 in51 rfl (by decide) rfl rfl rfl rfl rfl rfl (fun _ => rfl) rfl rfl (by first | omega | (simp; done) | decide | (simp at *; omega)) (by first | omega | (simp; done) | decide | (simp at *; omega)) rfl ?_)
     refine opG rfl (aop_move (av := .sl 58 0 (((otherK secs (nodeA secs s e) s e k) ++ [(⟨((endsL secs (nodeA secs s e)).getD k dE).sec, ((endsL secs (nodeA secs s e)).getD k dE).en⟩ : En)]).length)) (.inr rfl) rfl rfl rfl ?_)
     refine op0 ?_
     refine rs_ (upd (upd (upd (upd (upd none_ 3 (.pt 3 0)) 4 (.v (.slice none 0 0))) 8 (.sl 58 0 (((otherK secs (nodeA secs s e) s e k) ++ [(⟨((endsL secs (nodeA secs s e)).getD k dE).sec, ((endsL secs (nodeA secs s e)).getD k dE).en⟩ : En)]).length))) 10 (.q eEn (endsL secs (nodeA secs s e)))) 11 (.i (k : Int))) (updO (updO (updO (updO noOb 1 (.live ⟨(enc eEn (otherK secs (nodeA secs s e) s e k)), 51, 2⟩)) 3 (.live ⟨[.i s, .i e], 51, 1⟩)) 1 .dead) 58 (.live ⟨(enc eEn ((otherK secs (nodeA secs s e) s e k) ++ [(⟨((endsL secs (nodeA secs s e)).getD k dE).sec, ((endsL secs (nodeA secs s e)).getD k dE).en⟩ : En)])), 51, 2⟩)) (lu rfl (lu rfl (lu rfl (lu rfl (lu rfl ln))))) rfl ?_
     refine regR ?_
     refine opG rfl (aop_move (av := .i (k : Int)) (.inl rfl) rfl rfl rfl ?_)
     refine opG rfl (aop_binI (u := (.int .i64 ((k + 1 : Nat) : Int))) rfl rfl rfl rfl rfl trivial (addN (by omega)) ?_)
     refine opG rfl (aop_move (av := .i ((k + 1 : Nat) : Int)) (.inr rfl) rfl rfl rfl ?_)
     refine op0 ?_
     show _ ∧ _
     have hs_ : otherK secs (nodeA secs s e) s e (k + 1) = otherK secs (nodeA secs s e) s e k ++ [(endsL secs (nodeA secs s e)).getD k dE] := filter_on dE (by omega) hc5
     refine ⟨by omega, trivial, ?_⟩
     exact imp_ler [(58, 1), (3, 3)] (lerL [(58, 1), (3, 3)] [((58, 1), .live ⟨(enc eEn (otherK secs (nodeA secs s e) s e (k + 1))), 51, 2⟩), ((3, 3), .live ⟨[.i s, .i e], 51, 1⟩)] rfl (by decide) (by decide) ⟨row_no (o := ⟨(enc eEn ((otherK secs (nodeA secs s e) s e k) ++ [(⟨((endsL secs (nodeA secs s e)).getD k dE).sec, ((endsL secs (nodeA secs s e)).getD k dE).en⟩ : En)])), 51, 2⟩) rfl (by exact congrArg (fun l_ => LObj.mk (enc eEn l_) 51 2) hs_), row_no (o := ⟨[.i s, .i e], 51, 1⟩) rfl rfl, trivial⟩ (sr_same 11 (.i ((k + 1) : Int)) rfl NoI.out (sr_same 10 (.q eEn (endsL secs (nodeA secs s e))) rfl NoI.out (sr_map 8 (.sl 1 0 ((otherK secs (nodeA secs s e) s e (k + 1)).length)) (by first | exact Ok.sl _ _ _ (by first | decide | simp) | exact Ok.pt _ _ (by first | decide | simp)) (by exact congrArg (AV.sl 1 0) (congrArg List.length hs_.symm)) (sr_same 4 (.v (.slice none 0 0)) rfl NoI.out (sr_map 3 (.pt 3 0) (by first | exact Ok.sl _ _ _ (by first | decide | simp) | exact Ok.pt _ _ (by first | decide | simp)) rfl sr_none)))))) (keep_of rfl)
    ·skip
     refine awp_skip ?_
     refine regR ?_
     refine opG rfl (aop_move (av := .i (k : Int)) (.inl rfl) rfl rfl rfl ?_)
     refine opG rfl (aop_binI (u := (.int .i64 ((k + 1 : Nat) : Int))) rfl rfl rfl rfl rfl trivial (addN (by omega)) ?_)
     refine opG rfl (aop_move (av := .i ((k + 1 : Nat) : Int)) (.inr rfl) rfl rfl rfl ?_)
     refine op0 ?_
     show _ ∧ _
     have hs_ : otherK secs (nodeA secs s e) s e (k + 1) = otherK secs (nodeA secs s e) s e k := filter_off dE (by omega) hc5
     refine ⟨by omega, trivial, ?_⟩
     exact imp_ler [(1, 1), (3, 3)] (lerL [(1, 1), (3, 3)] [((1, 1), .live ⟨(enc eEn (otherK secs (nodeA secs s e) s e (k + 1))), 51, 2⟩), ((3, 3), .live ⟨[.i s, .i e], 51, 1⟩)] rfl (by decide) (by decide) ⟨row_no (o := ⟨(enc eEn (otherK secs (nodeA secs s e) s e k)), 51, 2⟩) rfl (by exact congrArg (fun l_ => LObj.mk (enc eEn l_) 51 2) hs_), row_no (o := ⟨[.i s, .i e], 51, 1⟩) rfl rfl, trivial⟩ (sr_same 11 (.i ((k + 1) : Int)) rfl NoI.out (sr_same 10 (.q eEn (endsL secs (nodeA secs s e))) rfl NoI.out (sr_map 8 (.sl 1 0 ((otherK secs (nodeA secs s e) s e (k + 1)).length)) (by first | exact Ok.sl _ _ _ (by first | decide | simp) | exact Ok.pt _ _ (by first | decide | simp)) (by exact congrArg (AV.sl 1 0) (congrArg List.length hs_.symm)) (sr_same 4 (.v (.slice none 0 0)) rfl NoI.out (sr_map 3 (.pt 3 0) (by first | exact Ok.sl _ _ _ (by first | decide | simp) | exact Ok.pt _ _ (by first | decide | simp)) rfl sr_none)))))) (keep_of rfl)
   ·skip
    have hf14 := of_decide_eq_false hc4
    refine awp_exit ?_
    refine awp_seq ?_
    refine seqR ?_
    refine opG rfl (aop_move (av := .sl 1 0 ((otherK secs (nodeA secs s e) s e k).length)) (.inl rfl) rfl rfl rfl ?_)
    refine opG rfl (aop_len rfl rfl rfl rfl ut69 (len_sl rfl) ?_)
    refine opG rfl (aop_binI (u := (.bool (((otherK secs (nodeA secs s e) s e k).length : Int) != 1))) rfl rfl rfl rfl rfl trivial rfl ?_)
    refine op0 ?_
    refine awp_cond (((otherK secs (nodeA secs s e) s e k).length : Int) != 1) rfl rfl (fun hc6 => ?_) (fun hc6 => ?_)
    ·skip
     have hf15 := (bne_iff_ne).1 hc6
     have hlen : ¬ (otherE secs (nodeA secs s e) s e).length = 1 := by rw [← otherK_all (k := k) (by omega)]; simp at hc6; omega
     refine seqR ?_
     refine opG rfl (aop_move (av := .v (.slice none 0 0)) (.inr rfl) rfl rfl rfl ?_)
     refine op0 ?_
     refine rs_ (upd (upd none_ 4 (.v (.slice none 0 0))) 8 (.sl 1 0 ((otherK secs (nodeA secs s e) s e k).length))) (updO (updO noOb 1 (.live ⟨(enc eEn (otherK secs (nodeA secs s e) s e k)), 51, 2⟩)) 3 (.live ⟨[.i s, .i e], 51, 1⟩)) (lu rfl (lu rfl ln)) rfl ?_
     refine awp_imp _ (imp_frozen rfl (fun _ h => h) (lee_lend 4 (.ro 0 []) .nil lee_lend0)) ?_
     refine awp_ret ?_
     exact fret (av := .ro 0 []) rfl rfl (by rw [around_many hn hi hlen]; rfl)
    ·skip
     have hf16 := (bne_eq_false_iff_eq).1 hc6
     have hlen : (otherE secs (nodeA secs s e) s e).length = 1 := by rw [← otherK_all (k := k) (by omega)]; simp at hc6; omega
     refine awp_skip ?_
     refine seqR ?_
     refine opG rfl (aop_move (av := .sl 1 0 ((otherK secs (nodeA secs s e) s e k).length)) (.inl rfl) rfl rfl rfl ?_)
     refine opG rfl (aop_move (av := .sl 1 0 ((otherK secs (nodeA secs s e) s e k).length)) (.inr rfl) rfl rfl rfl ?_)
     refine op0 ?_
     refine rs_ (upd none_ 4 (.sl 1 0 ((otherK secs (nodeA secs s e) s e k).length))) (updO (updO noOb 1 (.live ⟨(enc eEn (otherK secs (nodeA secs s e) s e k)), 51, 2⟩)) 3 (.live ⟨[.i s, .i e], 51, 1⟩)) (lu rfl ln) rfl ?_
     refine awp_imp _ (imp_frozen rfl (fun _ h => h) (lee_lend 4 (.q eEn (otherK secs (nodeA secs s e) s e k)) (lend_s (id := 1) (n := (otherK secs (nodeA secs s e) s e k).length) (o := ⟨(enc eEn (otherK secs (nodeA secs s e) s e k)), 51, 2⟩) rfl (enc_len (fun _ => rfl) (by first | rfl | (simp; done)))) lee_lend0)) ?_
     refine awp_ret ?_
     exact fret (av := .ro ((otherK secs (nodeA secs s e) s e k).length) (enc eEn (otherK secs (nodeA secs s e) s e k))) rfl rfl (by rw [around_one hn hi hlen, otherK_all (by omega)])
theorem r05_Walk (secs : List Sec) (pts : List Pnt) (s e : Int) (turns : List Int) (most : Int) (hs : secs.length ≤ 65536) (hp : pts.length ≤ 65536) (ht : turns.length ≤ 65536) (hm : most ≤ 65536) (hu : ∀ x, x ∈ turns → 0 ≤ x ∧ x ≤ 255) : Fn Try.prog 27 [.agg [.one, .ro secs.length (enc eSec secs), .one, .ro pts.length (enc ePnt pts), .one, .one, .one, .one, .one, .one], .v (.int .i64 s), .v (.int .i64 e), .ro turns.length (enc eU8 turns), .v (.int .i64 most)] (.ro ((walkL secs pts s e turns most).length) (enc eI (walkL secs pts s e turns most))) := by
 refine fnE_of_body (N := 75) Try.func27 rfl rfl (resOf1 rfl) (by simp) (fun w0 X hL_ => ?_)
 refine seqR ?_
 refine opG rfl (aop_box 51 rfl rfl rfl rfl rfl rfl rfl ?_)
 refine opG rfl (aop_move (av := .v (.slice none 0 0)) (.inr rfl) rfl rfl rfl ?_)
 refine op0 ?_
 refine seqR ?_
 refine opG rfl (aop_move (av := .i s) (.inl rfl) rfl rfl rfl ?_)
 refine opG rfl (aop_litO 52 rfl rfl rfl ut38 iz3 (by decide) (by decide) rfl rfl rfl rfl ?_)
 refine opG rfl (aop_move (av := .sl 52 0 1) (.inr rfl) rfl rfl rfl ?_)
 refine op0 ?_
 refine rs_ (upd (upd (upd (upd (upd (upd (upd none_ 1 (.i s)) 2 (.i e)) 3 (.q eU8 turns)) 4 (.i most)) 5 (.pt 51 0)) 10 (.v (.slice none 0 0))) 11 (.sl 52 0 1)) (updO (updO noOb 51 (.live ⟨[.one, .q eSec secs, .one, .q ePnt pts, .one, .one, .one, .one, .one, .one], 37, 1⟩)) 52 (.live ⟨[.i s], 3, 1⟩)) (lu rfl (lu rfl (lu rfl (lu rfl (lu rfl (lu rfl (lu rfl ln))))))) rfl ?_
 refine seqR ?_
 refine opG rfl (aop_move (av := .i s) (.inl rfl) rfl rfl rfl ?_)
 refine opG rfl (aop_move (av := .i e) (.inl rfl) rfl rfl rfl ?_)
 refine opG rfl (aop_build rfl rfl rfl pl51 rfl ?_)
 refine opG rfl (aop_alloc 53 rfl rfl rfl rfl ze51 rfl ?_)
 refine opG rfl (aop_store rfl rfl rfl sz51 rfl rfl rfl rfl rfl (Nat.le_of_ble_eq_true rfl) rfl rfl ?_)
 refine op0 ?_
 refine rs_ (upd (upd (upd (upd (upd (upd none_ 3 (.q eU8 turns)) 4 (.i most)) 5 (.pt 51 0)) 10 (.v (.slice none 0 0))) 11 (.sl 52 0 1)) 12 (.pt 53 0)) (updO (updO (updO (updO noOb 51 (.live ⟨[.one, .q eSec secs, .one, .q ePnt pts, .one, .one, .one, .one, .one, .one], 37, 1⟩)) 52 (.live ⟨[.i s], 3, 1⟩)) 53 (.live ⟨[.i 0, .i 0], 51, 1⟩)) 53 (.live ⟨[.i s, .i e], 51, 1⟩)) (lu rfl (lu rfl (lu rfl (lu rfl (lu rfl (lu rfl ln)))))) rfl ?_
 refine awp_seq ?_
 refine seqR ?_
 refine opG rfl (aop_move (av := .i 0) (.inr rfl) rfl rfl rfl ?_)
 refine op0 ?_
 refine awp_block ?_
 refine awp_countI (fun k => ⟨(upd (upd (upd (upd (upd (upd (upd none_ 3 (.q eU8 turns)) 4 (.i most)) 5 (.pt 3 0)) 10 (.v (.slice none 0 0))) 11 (.sl 1 0 ((wst secs pts turns s e k).out.length))) 12 (.pt 2 0)) 13 (.i (k : Int))), (updO (updO (updO noOb 1 (.live ⟨(enc eI ((wst secs pts turns s e k).out)), 3, 1⟩)) 2 (.live ⟨[.i ((wst secs pts turns s e k).s), .i ((wst secs pts turns s e k).e)], 51, 1⟩)) 3 (.live ⟨[.one, .q eSec secs, .one, .q ePnt pts, .one, .one, .one, .one, .one, .one], 37, 1⟩))⟩) (fun k => walkR secs pts turns s e most (most.toNat - k) k = walkL secs pts s e turns most) (most.toNat) ?_ rfl (fun k hk_k hinv => ?_)
 ·skip
  exact imp_ler [(52, 1), (53, 2), (51, 3)] (lerL [(52, 1), (53, 2), (51, 3)] [((52, 1), .live ⟨(enc eI ((wst secs pts turns s e 0).out)), 3, 1⟩), ((53, 2), .live ⟨[.i ((wst secs pts turns s e 0).s), .i ((wst secs pts turns s e 0).e)], 51, 1⟩), ((51, 3), .live ⟨[.one, .q eSec secs, .one, .q ePnt pts, .one, .one, .one, .one, .one, .one], 37, 1⟩)] rfl (by decide) (by decide) ⟨row_no (o := ⟨[.i s], 3, 1⟩) rfl rfl, row_no (o := ⟨[.i s, .i e], 51, 1⟩) rfl rfl, row_no (o := ⟨[.one, .q eSec secs, .one, .q ePnt pts, .one, .one, .one, .one, .one, .one], 37, 1⟩) rfl rfl, trivial⟩ (sr_same 13 (.i (0 : Int)) rfl NoI.out (sr_map 12 (.pt 2 0) (by first | exact Ok.sl _ _ _ (by first | decide | simp) | exact Ok.pt _ _ (by first | decide | simp)) rfl (sr_map 11 (.sl 1 0 ((wst secs pts turns s e 0).out.length)) (by first | exact Ok.sl _ _ _ (by first | decide | simp) | exact Ok.pt _ _ (by first | decide | simp)) rfl (sr_same 10 (.v (.slice none 0 0)) rfl NoI.out (sr_map 5 (.pt 3 0) (by first | exact Ok.sl _ _ _ (by first | decide | simp) | exact Ok.pt _ _ (by first | decide | simp)) rfl (sr_same 4 (.i most) rfl NoI.out (sr_same 3 (.q eU8 turns) rfl NoI.out sr_none)))))))) (keep_of rfl)
 have hwl := wst_len secs pts turns s e k
 have hxl := aroundL_len secs pts (wst secs pts turns s e k).s (wst secs pts turns s e k).e
 refine awp_seq ?_
 refine seqR ?_
 refine opG rfl (aop_move (av := .sl 1 0 ((wst secs pts turns s e k).out.length)) (.inl rfl) rfl rfl rfl ?_)
 refine opG rfl (aop_len rfl rfl rfl rfl ut38 (len_sl rfl) ?_)
 refine opG rfl (aop_move (av := .i most) (.inl rfl) rfl rfl rfl ?_)
 refine opG rfl (aop_binI (u := (.bool (decide (((wst secs pts turns s e k).out.length : Int) < most)))) rfl rfl rfl rfl rfl trivial rfl ?_)
 refine op0 ?_
 refine rs_ (upd (upd (upd (upd (upd (upd (upd (upd none_ 3 (.q eU8 turns)) 4 (.i most)) 5 (.pt 3 0)) 10 (.v (.slice none 0 0))) 11 (.sl 1 0 ((wst secs pts turns s e k).out.length))) 12 (.pt 2 0)) 13 (.i (k : Int))) 24 (.b (decide (((wst secs pts turns s e k).out.length : Int) < most)))) (updO (updO (updO noOb 1 (.live ⟨(enc eI ((wst secs pts turns s e k).out)), 3, 1⟩)) 2 (.live ⟨[.i ((wst secs pts turns s e k).s), .i ((wst secs pts turns s e k).e)], 51, 1⟩)) 3 (.live ⟨[.one, .q eSec secs, .one, .q ePnt pts, .one, .one, .one, .one, .one, .one], 37, 1⟩)) (lu rfl (lu rfl (lu rfl (lu rfl (lu rfl (lu rfl (lu rfl (lu rfl ln)))))))) rfl ?_
 refine awp_cond (decide (((wst secs pts turns s e k).out.length : Int) < most)) rfl rfl (fun hc0 => ?_) (fun hc0 => ?_)
 ·skip
  have hf1 := of_decide_eq_true hc0
  have hlt : ((k : Int) + 1 < most) := by omega
  refine awp_skip ?_
  refine awp_seq ?_
  refine awp_block ?_
  refine seqR ?_
  refine opG rfl (aop_ldB (cells' := [.one, .q eSec secs, .one, .q ePnt pts, .one, .one, .one, .one, .one, .one]) rfl rfl rfl ag37 sz37 rfl rfl rfl rfl ?_)
  refine opG rfl (aop_ldB (cells' := [.i ((wst secs pts turns s e k).s), .i ((wst secs pts turns s e k).e)]) rfl rfl rfl ag51 sz51 rfl rfl rfl rfl ?_)
  refine opG rfl (call_ (r05_Around secs pts ((wst secs pts turns s e k).s) ((wst secs pts turns s e k).e) (by first | omega | (simp; done) | decide | (simp at *; omega)) (by first | omega | (simp; done) | decide | (simp at *; omega))) rfl rfl rfl rfl rfl bd29 rfl ?_)
  refine opG rfl (aop_move (av := .q eEn (aroundL secs pts ((wst secs pts turns s e k).s) ((wst secs pts turns s e k).e))) (.inr rfl) rfl rfl rfl ?_)
  refine op0 ?_
  refine rs_ (upd (upd (upd (upd (upd (upd (upd (upd none_ 3 (.q eU8 turns)) 4 (.i most)) 5 (.pt 3 0)) 10 (.v (.slice none 0 0))) 11 (.sl 1 0 ((wst secs pts turns s e k).out.length))) 12 (.pt 2 0)) 13 (.i (k : Int))) 14 (.q eEn (aroundL secs pts ((wst secs pts turns s e k).s) ((wst secs pts turns s e k).e)))) (updO (updO (updO noOb 1 (.live ⟨(enc eI ((wst secs pts turns s e k).out)), 3, 1⟩)) 2 (.live ⟨[.i ((wst secs pts turns s e k).s), .i ((wst secs pts turns s e k).e)], 51, 1⟩)) 3 (.live ⟨[.one, .q eSec secs, .one, .q ePnt pts, .one, .one, .one, .one, .one, .one], 37, 1⟩)) (lu rfl (lu rfl (lu rfl (lu rfl (lu rfl (lu rfl (lu rfl (lu rfl ln)))))))) rfl ?_
  refine awp_seq ?_
  refine seqR ?_
  refine opG rfl (aop_move (av := .q eEn (aroundL secs pts ((wst secs pts turns s e k).s) ((wst secs pts turns s e k).e))) (.inl rfl) rfl rfl rfl ?_)
  refine opG rfl (aop_len rfl rfl rfl rfl ut69 (len_ro rfl) ?_)
  refine opG rfl (aop_binI (u := (.bool (((aroundL secs pts ((wst secs pts turns s e k).s) ((wst secs pts turns s e k).e)).length : Int) == 0))) rfl rfl rfl rfl rfl trivial rfl ?_)
  refine op0 ?_
  refine awp_cond (((aroundL secs pts ((wst secs pts turns s e k).s) ((wst secs pts turns s e k).e)).length : Int) == 0) rfl rfl (fun hc1 => ?_) (fun hc1 => ?_)
  ·skip
   have hf2 := (beq_iff_eq).1 hc1
   have hx0 : (aroundL secs pts (wst secs pts turns s e k).s (wst secs pts turns s e k).e).length = 0 := by simpa using hc1
   refine seqR ?_
   refine opG rfl (aop_move (av := .sl 1 0 ((wst secs pts turns s e k).out.length)) (.inl rfl) rfl rfl rfl ?_)
   refine opG rfl (aop_move (av := .sl 1 0 ((wst secs pts turns s e k).out.length)) (.inr rfl) rfl rfl rfl ?_)
   refine op0 ?_
   refine rs_ (upd (upd (upd (upd (upd (upd (upd (upd none_ 3 (.q eU8 turns)) 4 (.i most)) 5 (.pt 3 0)) 10 (.sl 1 0 ((wst secs pts turns s e k).out.length))) 11 (.sl 1 0 ((wst secs pts turns s e k).out.length))) 12 (.pt 2 0)) 13 (.i (k : Int))) 14 (.q eEn (aroundL secs pts ((wst secs pts turns s e k).s) ((wst secs pts turns s e k).e)))) (updO (updO (updO noOb 1 (.live ⟨(enc eI ((wst secs pts turns s e k).out)), 3, 1⟩)) 2 (.live ⟨[.i ((wst secs pts turns s e k).s), .i ((wst secs pts turns s e k).e)], 51, 1⟩)) 3 (.live ⟨[.one, .q eSec secs, .one, .q ePnt pts, .one, .one, .one, .one, .one, .one], 37, 1⟩)) (lu rfl (lu rfl (lu rfl (lu rfl (lu rfl (lu rfl (lu rfl (lu rfl ln)))))))) rfl ?_
   refine awp_imp _ (imp_frozen rfl (fun _ h => h) (lee_lend 10 (.ro ((wst secs pts turns s e k).out.length) (enc eI ((wst secs pts turns s e k).out))) (lend_s (id := 1) (n := (wst secs pts turns s e k).out.length) (o := ⟨(enc eI ((wst secs pts turns s e k).out)), 3, 1⟩) rfl (enc_len (fun _ => rfl) (by first | rfl | (simp; done)))) lee_lend0)) ?_
   refine awp_ret ?_
   exact fret (av := .ro ((wst secs pts turns s e k).out.length) (enc eI ((wst secs pts turns s e k).out))) rfl rfl (by rw [← hinv, walkR_stop (wstop_none hx0)])
  ·skip
   have hf3 := (beq_eq_false_iff_ne).1 hc1
   have hx0 : ¬ (aroundL secs pts (wst secs pts turns s e k).s (wst secs pts turns s e k).e).length = 0 := by simpa using hc1
   have hlk : legK turns (aroundL secs pts (wst secs pts turns s e k).s (wst secs pts turns s e k).e).length k < (aroundL secs pts (wst secs pts turns s e k).s (wst secs pts turns s e k).e).length := legK_lt (by omega)
   have hye := around_en (getD_mem dE hlk)
   refine awp_skip ?_
   refine seqR ?_
   refine opG rfl (aop_move (av := .i 0) (.inr rfl) rfl rfl rfl ?_)
   refine op0 ?_
   refine rs_ (upd (upd (upd (upd (upd (upd (upd (upd (upd none_ 3 (.q eU8 turns)) 4 (.i most)) 5 (.pt 3 0)) 10 (.v (.slice none 0 0))) 11 (.sl 1 0 ((wst secs pts turns s e k).out.length))) 12 (.pt 2 0)) 13 (.i (k : Int))) 14 (.q eEn (aroundL secs pts ((wst secs pts turns s e k).s) ((wst secs pts turns s e k).e)))) 15 (.i 0)) (updO (updO (updO noOb 1 (.live ⟨(enc eI ((wst secs pts turns s e k).out)), 3, 1⟩)) 2 (.live ⟨[.i ((wst secs pts turns s e k).s), .i ((wst secs pts turns s e k).e)], 51, 1⟩)) 3 (.live ⟨[.one, .q eSec secs, .one, .q ePnt pts, .one, .one, .one, .one, .one, .one], 37, 1⟩)) (lu rfl (lu rfl (lu rfl (lu rfl (lu rfl (lu rfl (lu rfl (lu rfl (lu rfl ln))))))))) rfl ?_
   refine awp_seq ?_
   refine seqR ?_
   refine opG rfl (aop_move (av := .i (k : Int)) (.inl rfl) rfl rfl rfl ?_)
   refine opG rfl (aop_move (av := .q eU8 turns) (.inl rfl) rfl rfl rfl ?_)
   refine opG rfl (aop_len rfl rfl rfl rfl ut26 (len_ro rfl) ?_)
   refine opG rfl (aop_binI (u := (.bool (decide ((k : Int) < (turns.length : Int))))) rfl rfl rfl rfl rfl trivial rfl ?_)
   refine op0 ?_
   refine rs_ (upd (upd (upd (upd (upd (upd (upd (upd (upd (upd none_ 3 (.q eU8 turns)) 4 (.i most)) 5 (.pt 3 0)) 10 (.v (.slice none 0 0))) 11 (.sl 1 0 ((wst secs pts turns s e k).out.length))) 12 (.pt 2 0)) 13 (.i (k : Int))) 14 (.q eEn (aroundL secs pts ((wst secs pts turns s e k).s) ((wst secs pts turns s e k).e)))) 15 (.i 0)) 37 (.b (decide ((k : Int) < (turns.length : Int))))) (updO (updO (updO noOb 1 (.live ⟨(enc eI ((wst secs pts turns s e k).out)), 3, 1⟩)) 2 (.live ⟨[.i ((wst secs pts turns s e k).s), .i ((wst secs pts turns s e k).e)], 51, 1⟩)) 3 (.live ⟨[.one, .q eSec secs, .one, .q ePnt pts, .one, .one, .one, .one, .one, .one], 37, 1⟩)) (lu rfl (lu rfl (lu rfl (lu rfl (lu rfl (lu rfl (lu rfl (lu rfl (lu rfl (lu rfl ln)))))))))) rfl ?_
   refine cutG ⟨(upd (upd (upd (upd (upd (upd (upd (upd (upd none_ 3 (.q eU8 turns)) 4 (.i most)) 5 (.pt 3 0)) 10 (.v (.slice none 0 0))) 11 (.sl 1 0 ((wst secs pts turns s e k).out.length))) 12 (.pt 2 0)) 13 (.i (k : Int))) 14 (.q eEn (aroundL secs pts ((wst secs pts turns s e k).s) ((wst secs pts turns s e k).e)))) 15 (.i ((legK turns (aroundL secs pts (wst secs pts turns s e k).s (wst secs pts turns s e k).e).length k : Nat) : Int))), (updO (updO (updO noOb 1 (.live ⟨(enc eI ((wst secs pts turns s e k).out)), 3, 1⟩)) 2 (.live ⟨[.i ((wst secs pts turns s e k).s), .i ((wst secs pts turns s e k).e)], 51, 1⟩)) 3 (.live ⟨[.one, .q eSec secs, .one, .q ePnt pts, .one, .one, .one, .one, .one, .one], 37, 1⟩))⟩ (fun s h => h) ?_ ?_
   ·skip
    refine awp_cond (decide ((k : Int) < (turns.length : Int))) rfl rfl (fun hc2 => ?_) (fun hc2 => ?_)
    ·skip
     have hf4 := of_decide_eq_true hc2
     have htk : k < turns.length := by simpa using hc2
     have hu0 := hu _ (getD_mem 0 htk)
     refine regR ?_
     refine opG rfl (aop_move (av := .q eU8 turns) (.inl rfl) rfl rfl rfl ?_)
     refine opG rfl (aop_move (av := .i (k : Int)) (.inl rfl) rfl rfl rfl ?_)
     refine opG rfl (aop_ixE 0 rfl rfl rfl ut26 sz5 rfl rfl (fun _ => rfl) rfl (by first | omega | (simp; done) | decide | (simp at *; omega)) ?_)
     refine opG rfl (aop_ld (av := .v (.int .u8 (turns.getD k 0))) rfl rfl rfl ag5 rfl rfl ?_)
     refine opG rfl (aop_conv' rfl rfl rfl ut5 ut3 rfl (IntWalk.i64_in _ (by omega)) ?_)
     refine opG rfl (aop_move (av := .q eEn (aroundL secs pts ((wst secs pts turns s e k).s) ((wst secs pts turns s e k).e))) (.inl rfl) rfl rfl rfl ?_)
     refine opG rfl (aop_len rfl rfl rfl rfl ut69 (len_ro rfl) ?_)
     refine opG rfl (aop_binI (u := (.int .i64 ((turns.getD k 0) % ((aroundL secs pts ((wst secs pts turns s e k).s) ((wst secs pts turns s e k).e)).length : Int)))) rfl rfl rfl rfl rfl (by show _ ≠ _; omega) (remI (by omega)) ?_)
     refine opG rfl (aop_move (av := .i ((turns.getD k 0) % ((aroundL secs pts ((wst secs pts turns s e k).s) ((wst secs pts turns s e k).e)).length : Int))) (.inr rfl) rfl rfl rfl ?_)
     refine op0 ?_
     show Imp _ _ _
     exact imp_ler [(1, 1), (2, 2), (3, 3)] (lerL [(1, 1), (2, 2), (3, 3)] [((1, 1), .live ⟨(enc eI ((wst secs pts turns s e k).out)), 3, 1⟩), ((2, 2), .live ⟨[.i ((wst secs pts turns s e k).s), .i ((wst secs pts turns s e k).e)], 51, 1⟩), ((3, 3), .live ⟨[.one, .q eSec secs, .one, .q ePnt pts, .one, .one, .one, .one, .one, .one], 37, 1⟩)] rfl (by decide) (by decide) ⟨row_no (o := ⟨(enc eI ((wst secs pts turns s e k).out)), 3, 1⟩) rfl rfl, row_no (o := ⟨[.i ((wst secs pts turns s e k).s), .i ((wst secs pts turns s e k).e)], 51, 1⟩) rfl rfl, row_no (o := ⟨[.one, .q eSec secs, .one, .q ePnt pts, .one, .one, .one, .one, .one, .one], 37, 1⟩) rfl rfl, trivial⟩ (sr_same 15 (.i ((legK turns (aroundL secs pts (wst secs pts turns s e k).s (wst secs pts turns s e k).e).length k : Nat) : Int)) (by exact congrArg (fun n_ : Int => AV.v (.int .i64 n_)) (by first | exact legK_on htk hu0.1 | exact legK_off htk)) NoI.out (sr_same 14 (.q eEn (aroundL secs pts ((wst secs pts turns s e k).s) ((wst secs pts turns s e k).e))) rfl NoI.out (sr_same 13 (.i (k : Int)) rfl NoI.out (sr_map 12 (.pt 2 0) (by first | exact Ok.sl _ _ _ (by first | decide | simp) | exact Ok.pt _ _ (by first | decide | simp)) rfl (sr_map 11 (.sl 1 0 ((wst secs pts turns s e k).out.length)) (by first | exact Ok.sl _ _ _ (by first | decide | simp) | exact Ok.pt _ _ (by first | decide | simp)) rfl (sr_same 10 (.v (.slice none 0 0)) rfl NoI.out (sr_map 5 (.pt 3 0) (by first | exact Ok.sl _ _ _ (by first | decide | simp) | exact Ok.pt _ _ (by first | decide | simp)) rfl (sr_same 4 (.i most) rfl NoI.out (sr_same 3 (.q eU8 turns) rfl NoI.out sr_none)))))))))) (keep_of rfl)
    ·skip
     have hf5 := of_decide_eq_false hc2
     have htk : ¬ k < turns.length := by simpa using hc2
     refine awp_skip ?_
     show Imp _ _ _
     exact imp_ler [(1, 1), (2, 2), (3, 3)] (lerL [(1, 1), (2, 2), (3, 3)] [((1, 1), .live ⟨(enc eI ((wst secs pts turns s e k).out)), 3, 1⟩), ((2, 2), .live ⟨[.i ((wst secs pts turns s e k).s), .i ((wst secs pts turns s e k).e)], 51, 1⟩), ((3, 3), .live ⟨[.one, .q eSec secs, .one, .q ePnt pts, .one, .one, .one, .one, .one, .one], 37, 1⟩)] rfl (by decide) (by decide) ⟨row_no (o := ⟨(enc eI ((wst secs pts turns s e k).out)), 3, 1⟩) rfl rfl, row_no (o := ⟨[.i ((wst secs pts turns s e k).s), .i ((wst secs pts turns s e k).e)], 51, 1⟩) rfl rfl, row_no (o := ⟨[.one, .q eSec secs, .one, .q ePnt pts, .one, .one, .one, .one, .one, .one], 37, 1⟩) rfl rfl, trivial⟩ (sr_same 15 (.i ((legK turns (aroundL secs pts (wst secs pts turns s e k).s (wst secs pts turns s e k).e).length k : Nat) : Int)) (by exact congrArg (fun n_ : Int => AV.v (.int .i64 n_)) (by first | exact legK_on htk hu0.1 | exact legK_off htk)) NoI.out (sr_same 14 (.q eEn (aroundL secs pts ((wst secs pts turns s e k).s) ((wst secs pts turns s e k).e))) rfl NoI.out (sr_same 13 (.i (k : Int)) rfl NoI.out (sr_map 12 (.pt 2 0) (by first | exact Ok.sl _ _ _ (by first | decide | simp) | exact Ok.pt _ _ (by first | decide | simp)) rfl (sr_map 11 (.sl 1 0 ((wst secs pts turns s e k).out.length)) (by first | exact Ok.sl _ _ _ (by first | decide | simp) | exact Ok.pt _ _ (by first | decide | simp)) rfl (sr_same 10 (.v (.slice none 0 0)) rfl NoI.out (sr_map 5 (.pt 3 0) (by first | exact Ok.sl _ _ _ (by first | decide | simp) | exact Ok.pt _ _ (by first | decide | simp)) rfl (sr_same 4 (.i most) rfl NoI.out (sr_same 3 (.q eU8 turns) rfl NoI.out sr_none)))))))))) (keep_of rfl)
   refine awp_seq ?_
   refine seqR ?_
   refine opG rfl (aop_move (av := .sl 1 0 ((wst secs pts turns s e k).out.length)) (.inl rfl) rfl rfl rfl ?_)
   refine opG rfl (aop_move (av := .q eEn (aroundL secs pts ((wst secs pts turns s e k).s) ((wst secs pts turns s e k).e))) (.inl rfl) rfl rfl rfl ?_)
   refine opG rfl (aop_move (av := .i ((legK turns (aroundL secs pts (wst secs pts turns s e k).s (wst secs pts turns s e k).e).length k : Nat) : Int)) (.inl rfl) rfl rfl rfl ?_)
   refine opG rfl (aop_ixE dE rfl rfl rfl ut69 sz51 rfl rfl (fun _ => rfl) rfl (by first | omega | (simp; done) | decide | (simp at *; omega)) ?_)
   refine opG rfl (aop_fieldAddr (av := .rp (([.i (((aroundL secs pts ((wst secs pts turns s e k).s) ((wst secs pts turns s e k).e)).getD (legK turns (aroundL secs pts (wst secs pts turns s e k).s (wst secs pts turns s e k).e).length k) dE).sec), .i (((aroundL secs pts ((wst secs pts turns s e k).s) ((wst secs pts turns s e k).e)).getD (legK turns (aroundL secs pts (wst secs pts turns s e k).s (wst secs pts turns s e k).e).length k) dE).en)] : List AV) ++ ((enc eEn (aroundL secs pts ((wst secs pts turns s e k).s) ((wst secs pts turns s e k).e))).drop (((legK turns (aroundL secs pts (wst secs pts turns s e k).s (wst secs pts turns s e k).e).length k) + 1) * 2)))) (av' := .rp (([.i (((aroundL secs pts ((wst secs pts turns s e k).s) ((wst secs pts turns s e k).e)).getD (legK turns (aroundL secs pts (wst secs pts turns s e k).s (wst secs pts turns s e k).e).length k) dE).sec), .i (((aroundL secs pts ((wst secs pts turns s e k).s) ((wst secs pts turns s e k).e)).getD (legK turns (aroundL secs pts (wst secs pts turns s e k).s (wst secs pts turns s e k).e).length k) dE).en)] : List AV) ++ ((enc eEn (aroundL secs pts ((wst secs pts turns s e k).s) ((wst secs pts turns s e k).e))).drop (((legK turns (aroundL secs pts (wst secs pts turns s e k).s (wst secs pts turns s e k).e).length k) + 1) * 2)))) rfl rfl rfl ft51_0 sz3 rfl rfl rfl ?_)
   refine opG rfl (aop_ld (av := .i (((aroundL secs pts ((wst secs pts turns s e k).s) ((wst secs pts turns s e k).e)).getD (legK turns (aroundL secs pts (wst secs pts turns s e k).s (wst secs pts turns s e k).e).length k) dE).sec)) rfl rfl rfl ag3 rfl rfl ?_)
   refine opG rfl (callL_ (r01_Has ((wst secs pts turns s e k).out) (((aroundL secs pts ((wst secs pts turns s e k).s) ((wst secs pts turns s e k).e)).getD (legK turns (aroundL secs pts (wst secs pts turns s e k).s (wst secs pts turns s e k).e).length k) dE).sec) (by first | omega | (simp; done) | decide | (simp at *; omega))) rfl rfl rfl rfl rfl bd17 (lends_cons (lend_s (id := 1) (n := (wst secs pts turns s e k).out.length) (o := ⟨(enc eI ((wst secs pts turns s e k).out)), 3, 1⟩) rfl (enc_len (fun _ => rfl) (by first | rfl | (simp; done)))) (lends_cons (lend_n (av := .i (((aroundL secs pts ((wst secs pts turns s e k).s) ((wst secs pts turns s e k).e)).getD (legK turns (aroundL secs pts (wst secs pts turns s e k).s (wst secs pts turns s e k).e).length k) dE).sec))) lends_nil)) ?_)
   refine op0 ?_
   refine rs_ (upd (upd (upd (upd (upd (upd (upd (upd (upd (upd none_ 3 (.q eU8 turns)) 4 (.i most)) 5 (.pt 3 0)) 10 (.v (.slice none 0 0))) 11 (.sl 1 0 ((wst secs pts turns s e k).out.length))) 12 (.pt 2 0)) 13 (.i (k : Int))) 14 (.q eEn (aroundL secs pts ((wst secs pts turns s e k).s) ((wst secs pts turns s e k).e)))) 15 (.i ((legK turns (aroundL secs pts (wst secs pts turns s e k).s (wst secs pts turns s e k).e).length k : Nat) : Int))) 52 (.b (decide ((((aroundL secs pts ((wst secs pts turns s e k).s) ((wst secs pts turns s e k).e)).getD (legK turns (aroundL secs pts (wst secs pts turns s e k).s (wst secs pts turns s e k).e).length k) dE).sec) ∈ ((wst secs pts turns s e k).out))))) (updO (updO (updO noOb 1 (.live ⟨(enc eI ((wst secs pts turns s e k).out)), 3, 1⟩)) 2 (.live ⟨[.i ((wst secs pts turns s e k).s), .i ((wst secs pts turns s e k).e)], 51, 1⟩)) 3 (.live ⟨[.one, .q eSec secs, .one, .q ePnt pts, .one, .one, .one, .one, .one, .one], 37, 1⟩)) (lu rfl (lu rfl (lu rfl (lu rfl (lu rfl (lu rfl (lu rfl (lu rfl (lu rfl (lu rfl ln)))))))))) rfl ?_
   refine awp_cond (decide ((((aroundL secs pts ((wst secs pts turns s e k).s) ((wst secs pts turns s e k).e)).getD (legK turns (aroundL secs pts (wst secs pts turns s e k).s (wst secs pts turns s e k).e).length k) dE).sec) ∈ ((wst secs pts turns s e k).out))) rfl rfl (fun hc3 => ?_) (fun hc3 => ?_)
   ·skip
    have hse : (wnext secs pts turns k (wst secs pts turns s e k)).sec ∈ (wst secs pts turns s e k).out := of_decide_eq_true hc3
    refine seqR ?_
    refine opG rfl (aop_move (av := .sl 1 0 ((wst secs pts turns s e k).out.length)) (.inl rfl) rfl rfl rfl ?_)
    refine opG rfl (aop_move (av := .sl 1 0 ((wst secs pts turns s e k).out.length)) (.inr rfl) rfl rfl rfl ?_)
    refine op0 ?_
    refine awp_imp _ (imp_frozen rfl (fun _ h => h) (lee_lend 10 (.ro ((wst secs pts turns s e k).out.length) (enc eI ((wst secs pts turns s e k).out))) (lend_s (id := 1) (n := (wst secs pts turns s e k).out.length) (o := ⟨(enc eI ((wst secs pts turns s e k).out)), 3, 1⟩) rfl (enc_len (fun _ => rfl) (by first | rfl | (simp; done)))) lee_lend0)) ?_
    refine awp_ret ?_
    exact fret (av := .ro ((wst secs pts turns s e k).out.length) (enc eI ((wst secs pts turns s e k).out))) rfl rfl (by rw [← hinv, walkR_stop (wstop_seen hse)])
   ·skip
    have hns : ¬ (wnext secs pts turns k (wst secs pts turns s e k)).sec ∈ (wst secs pts turns s e k).out := of_decide_eq_false hc3
    refine awp_skip ?_
    refine seqR ?_
    refine opG rfl (aop_move (av := .sl 1 0 ((wst secs pts turns s e k).out.length)) (.inl rfl) rfl rfl rfl ?_)
    refine opG rfl (aop_move (av := .q eEn (aroundL secs pts ((wst secs pts turns s e k).s) ((wst secs pts turns s e k).e))) (.inl rfl) rfl rfl rfl ?_)
    refine opG rfl (aop_move (av := .i ((legK turns (aroundL secs pts (wst secs pts turns s e k).s (wst secs pts turns s e k).e).length k : Nat) : Int)) (.inl rfl) rfl rfl rfl ?_)
    refine opG rfl (aop_ixE dE rfl rfl rfl ut69 sz51 rfl rfl (fun _ => rfl) rfl (by first | omega | (simp; done) | decide | (simp at *; omega)) ?_)
    refine opG rfl (aop_fieldAddr (av := .rp (([.i (((aroundL secs pts ((wst secs pts turns s e k).s) ((wst secs pts turns s e k).e)).getD (legK turns (aroundL secs pts (wst secs pts turns s e k).s (wst secs pts turns s e k).e).length k) dE).sec), .i (((aroundL secs pts ((wst secs pts turns s e k).s) ((wst secs pts turns s e k).e)).getD (legK turns (aroundL secs pts (wst secs pts turns s e k).s (wst secs pts turns s e k).e).length k) dE).en)] : List AV) ++ ((enc eEn (aroundL secs pts ((wst secs pts turns s e k).s) ((wst secs pts turns s e k).e))).drop (((legK turns (aroundL secs pts (wst secs pts turns s e k).s (wst secs pts turns s e k).e).length k) + 1) * 2)))) (av' := .rp (([.i (((aroundL secs pts ((wst secs pts turns s e k).s) ((wst secs pts turns s e k).e)).getD (legK turns (aroundL secs pts (wst secs pts turns s e k).s (wst secs pts turns s e k).e).length k) dE).sec), .i (((aroundL secs pts ((wst secs pts turns s e k).s) ((wst secs pts turns s e k).e)).getD (legK turns (aroundL secs pts (wst secs pts turns s e k).s (wst secs pts turns s e k).e).length k) dE).en)] : List AV) ++ ((enc eEn (aroundL secs pts ((wst secs pts turns s e k).s) ((wst secs pts turns s e k).e))).drop (((legK turns (aroundL secs pts (wst secs pts turns s e k).s (wst secs pts turns s e k).e).length k) + 1) * 2)))) rfl rfl rfl ft51_0 sz3 rfl rfl rfl ?_)
    refine opG rfl (aop_ld (av := .i (((aroundL secs pts ((wst secs pts turns s e k).s) ((wst secs pts turns s e k).e)).getD (legK turns (aroundL secs pts (wst secs pts turns s e k).s (wst secs pts turns s e k).e).length k) dE).sec)) rfl rfl rfl ag3 rfl rfl ?_)
    refine opG rfl (aop_lit rfl rfl rfl ut38 iz3 (by decide) (by decide) rfl rfl ?_)
    refine opG rfl (aop_app1 (f := eI) (l := (wst secs pts turns s e k).out) 54 (((aroundL secs pts ((wst secs pts turns s e k).s) ((wst secs pts turns s e k).e)).getD (legK turns (aroundL secs pts (wst secs pts turns s e k).s (wst secs pts turns s e k).e).length k) dE).sec : Int) rfl rfl rfl rfl ut38 in3 rfl (by decide) rfl rfl rfl rfl rfl rfl (fun _ => rfl) rfl rfl (by first | omega | (simp; done) | decide | (simp at *; omega)) (by first | omega | (simp; done) | decide | (simp at *; omega)) rfl ?_)
    refine opG rfl (aop_move (av := .sl 54 0 ((((wst secs pts turns s e k).out) ++ [(((aroundL secs pts ((wst secs pts turns s e k).s) ((wst secs pts turns s e k).e)).getD (legK turns (aroundL secs pts (wst secs pts turns s e k).s (wst secs pts turns s e k).e).length k) dE).sec : Int)]).length)) (.inr rfl) rfl rfl rfl ?_)
    refine op0 ?_
    refine rs_ (upd (upd (upd (upd (upd (upd (upd (upd (upd none_ 3 (.q eU8 turns)) 4 (.i most)) 5 (.pt 3 0)) 10 (.v (.slice none 0 0))) 11 (.sl 54 0 ((((wst secs pts turns s e k).out) ++ [(((aroundL secs pts ((wst secs pts turns s e k).s) ((wst secs pts turns s e k).e)).getD (legK turns (aroundL secs pts (wst secs pts turns s e k).s (wst secs pts turns s e k).e).length k) dE).sec : Int)]).length))) 12 (.pt 2 0)) 13 (.i (k : Int))) 14 (.q eEn (aroundL secs pts ((wst secs pts turns s e k).s) ((wst secs pts turns s e k).e)))) 15 (.i ((legK turns (aroundL secs pts (wst secs pts turns s e k).s (wst secs pts turns s e k).e).length k : Nat) : Int))) (updO (updO (updO (updO (updO noOb 1 (.live ⟨(enc eI ((wst secs pts turns s e k).out)), 3, 1⟩)) 2 (.live ⟨[.i ((wst secs pts turns s e k).s), .i ((wst secs pts turns s e k).e)], 51, 1⟩)) 3 (.live ⟨[.one, .q eSec secs, .one, .q ePnt pts, .one, .one, .one, .one, .one, .one], 37, 1⟩)) 1 .dead) 54 (.live ⟨(enc eI (((wst secs pts turns s e k).out) ++ [(((aroundL secs pts ((wst secs pts turns s e k).s) ((wst secs pts turns s e k).e)).getD (legK turns (aroundL secs pts (wst secs pts turns s e k).s (wst secs pts turns s e k).e).length k) dE).sec : Int)])), 3, 1⟩)) (lu rfl (lu rfl (lu rfl (lu rfl (lu rfl (lu rfl (lu rfl (lu rfl (lu rfl ln))))))))) rfl ?_
    refine awp_draw (m := 12) [(73, .agg [.i (((aroundL secs pts ((wst secs pts turns s e k).s) ((wst secs pts turns s e k).e)).getD (legK turns (aroundL secs pts (wst secs pts turns s e k).s (wst secs pts turns s e k).e).length k) dE).sec), .i (1 - (((aroundL secs pts ((wst secs pts turns s e k).s) ((wst secs pts turns s e k).e)).getD (legK turns (aroundL secs pts (wst secs pts turns s e k).s (wst secs pts turns s e k).e).length k) dE).en))]), (72, .i (1 - (((aroundL secs pts ((wst secs pts turns s e k).s) ((wst secs pts turns s e k).e)).getD (legK turns (aroundL secs pts (wst secs pts turns s e k).s (wst secs pts turns s e k).e).length k) dE).en))), (71, .i (((aroundL secs pts ((wst secs pts turns s e k).s) ((wst secs pts turns s e k).e)).getD (legK turns (aroundL secs pts (wst secs pts turns s e k).s (wst secs pts turns s e k).e).length k) dE).en)), (70, .rp (([.i (((aroundL secs pts ((wst secs pts turns s e k).s) ((wst secs pts turns s e k).e)).getD (legK turns (aroundL secs pts (wst secs pts turns s e k).s (wst secs pts turns s e k).e).length k) dE).en)] : List AV) ++ ((enc eEn (aroundL secs pts ((wst secs pts turns s e k).s) ((wst secs pts turns s e k).e))).drop (((legK turns (aroundL secs pts (wst secs pts turns s e k).s (wst secs pts turns s e k).e).length k) + 1) * 2)))), (69, .rp (([.i (((aroundL secs pts ((wst secs pts turns s e k).s) ((wst secs pts turns s e k).e)).getD (legK turns (aroundL secs pts (wst secs pts turns s e k).s (wst secs pts turns s e k).e).length k) dE).sec), .i (((aroundL secs pts ((wst secs pts turns s e k).s) ((wst secs pts turns s e k).e)).getD (legK turns (aroundL secs pts (wst secs pts turns s e k).s (wst secs pts turns s e k).e).length k) dE).en)] : List AV) ++ ((enc eEn (aroundL secs pts ((wst secs pts turns s e k).s) ((wst secs pts turns s e k).e))).drop (((legK turns (aroundL secs pts (wst secs pts turns s e k).s (wst secs pts turns s e k).e).length k) + 1) * 2)))), (68, .i ((legK turns (aroundL secs pts (wst secs pts turns s e k).s (wst secs pts turns s e k).e).length k : Nat) : Int)), (67, .q eEn (aroundL secs pts ((wst secs pts turns s e k).s) ((wst secs pts turns s e k).e))), (66, .i (((aroundL secs pts ((wst secs pts turns s e k).s) ((wst secs pts turns s e k).e)).getD (legK turns (aroundL secs pts (wst secs pts turns s e k).s (wst secs pts turns s e k).e).length k) dE).sec)), (65, .rp (([.i (((aroundL secs pts ((wst secs pts turns s e k).s) ((wst secs pts turns s e k).e)).getD (legK turns (aroundL secs pts (wst secs pts turns s e k).s (wst secs pts turns s e k).e).length k) dE).sec), .i (((aroundL secs pts ((wst secs pts turns s e k).s) ((wst secs pts turns s e k).e)).getD (legK turns (aroundL secs pts (wst secs pts turns s e k).s (wst secs pts turns s e k).e).length k) dE).en)] : List AV) ++ ((enc eEn (aroundL secs pts ((wst secs pts turns s e k).s) ((wst secs pts turns s e k).e))).drop (((legK turns (aroundL secs pts (wst secs pts turns s e k).s (wst secs pts turns s e k).e).length k) + 1) * 2)))), (64, .rp (([.i (((aroundL secs pts ((wst secs pts turns s e k).s) ((wst secs pts turns s e k).e)).getD (legK turns (aroundL secs pts (wst secs pts turns s e k).s (wst secs pts turns s e k).e).length k) dE).sec), .i (((aroundL secs pts ((wst secs pts turns s e k).s) ((wst secs pts turns s e k).e)).getD (legK turns (aroundL secs pts (wst secs pts turns s e k).s (wst secs pts turns s e k).e).length k) dE).en)] : List AV) ++ ((enc eEn (aroundL secs pts ((wst secs pts turns s e k).s) ((wst secs pts turns s e k).e))).drop (((legK turns (aroundL secs pts (wst secs pts turns s e k).s (wst secs pts turns s e k).e).length k) + 1) * 2)))), (63, .i ((legK turns (aroundL secs pts (wst secs pts turns s e k).s (wst secs pts turns s e k).e).length k : Nat) : Int)), (62, .q eEn (aroundL secs pts ((wst secs pts turns s e k).s) ((wst secs pts turns s e k).e)))] mixed (by kernel_rfl) ?_ ?_
    ·refine ⟨?_, ?_, ?_, ?_, ?_, ?_, ?_, ?_, ?_, ?_, ?_, ?_, trivial⟩
     ·exact ⟨62, rfl, blt_lt rfl, fun st hob hE => aop_move (av := .q eEn (aroundL secs pts ((wst secs pts turns s e k).s) ((wst secs pts turns s e k).e))) (.inl rfl) rfl rfl (hE 14 rfl) (by rw [hob]; rfl)⟩
     ·exact ⟨63, rfl, blt_lt rfl, fun st hob hE => aop_move (av := .i ((legK turns (aroundL secs pts (wst secs pts turns s e k).s (wst secs pts turns s e k).e).length k : Nat) : Int)) (.inl rfl) rfl rfl (hE 15 rfl) (by rw [hob]; rfl)⟩
     ·exact ⟨64, rfl, blt_lt rfl, fun st hob hE => aop_ixE dE rfl rfl rfl ut69 sz51 (hE 62 rfl) (hE 63 rfl) (fun _ => rfl) rfl (by first | omega | (simp; done) | decide | (simp at *; omega)) (by rw [hob]; rfl)⟩
     ·exact ⟨65, rfl, blt_lt rfl, fun st hob hE => aop_fieldAddr (av := .rp (([.i (((aroundL secs pts ((wst secs pts turns s e k).s) ((wst secs pts turns s e k).e)).getD (legK turns (aroundL secs pts (wst secs pts turns s e k).s (wst secs pts turns s e k).e).length k) dE).sec), .i (((aroundL secs pts ((wst secs pts turns s e k).s) ((wst secs pts turns s e k).e)).getD (legK turns (aroundL secs pts (wst secs pts turns s e k).s (wst secs pts turns s e k).e).length k) dE).en)] : List AV) ++ ((enc eEn (aroundL secs pts ((wst secs pts turns s e k).s) ((wst secs pts turns s e k).e))).drop (((legK turns (aroundL secs pts (wst secs pts turns s e k).s (wst secs pts turns s e k).e).length k) + 1) * 2)))) (av' := .rp (([.i (((aroundL secs pts ((wst secs pts turns s e k).s) ((wst secs pts turns s e k).e)).getD (legK turns (aroundL secs pts (wst secs pts turns s e k).s (wst secs pts turns s e k).e).length k) dE).sec), .i (((aroundL secs pts ((wst secs pts turns s e k).s) ((wst secs pts turns s e k).e)).getD (legK turns (aroundL secs pts (wst secs pts turns s e k).s (wst secs pts turns s e k).e).length k) dE).en)] : List AV) ++ ((enc eEn (aroundL secs pts ((wst secs pts turns s e k).s) ((wst secs pts turns s e k).e))).drop (((legK turns (aroundL secs pts (wst secs pts turns s e k).s (wst secs pts turns s e k).e).length k) + 1) * 2)))) rfl rfl rfl ft51_0 sz3 (hE 64 rfl) rfl rfl (by rw [hob]; rfl)⟩
     ·exact ⟨66, rfl, blt_lt rfl, fun st hob hE => aop_ld (av := .i (((aroundL secs pts ((wst secs pts turns s e k).s) ((wst secs pts turns s e k).e)).getD (legK turns (aroundL secs pts (wst secs pts turns s e k).s (wst secs pts turns s e k).e).length k) dE).sec)) rfl rfl rfl ag3 (hE 65 rfl) rfl (by rw [hob]; rfl)⟩
     ·exact ⟨67, rfl, blt_lt rfl, fun st hob hE => aop_move (av := .q eEn (aroundL secs pts ((wst secs pts turns s e k).s) ((wst secs pts turns s e k).e))) (.inl rfl) rfl rfl (hE 14 rfl) (by rw [hob]; rfl)⟩
     ·exact ⟨68, rfl, blt_lt rfl, fun st hob hE => aop_move (av := .i ((legK turns (aroundL secs pts (wst secs pts turns s e k).s (wst secs pts turns s e k).e).length k : Nat) : Int)) (.inl rfl) rfl rfl (hE 15 rfl) (by rw [hob]; rfl)⟩
     ·exact ⟨69, rfl, blt_lt rfl, fun st hob hE => aop_ixE dE rfl rfl rfl ut69 sz51 (hE 67 rfl) (hE 68 rfl) (fun _ => rfl) rfl (by first | omega | (simp; done) | decide | (simp at *; omega)) (by rw [hob]; rfl)⟩
     ·exact ⟨70, rfl, blt_lt rfl, fun st hob hE => aop_fieldAddr (av := .rp (([.i (((aroundL secs pts ((wst secs pts turns s e k).s) ((wst secs pts turns s e k).e)).getD (legK turns (aroundL secs pts (wst secs pts turns s e k).s (wst secs pts turns s e k).e).length k) dE).sec), .i (((aroundL secs pts ((wst secs pts turns s e k).s) ((wst secs pts turns s e k).e)).getD (legK turns (aroundL secs pts (wst secs pts turns s e k).s (wst secs pts turns s e k).e).length k) dE).en)] : List AV) ++ ((enc eEn (aroundL secs pts ((wst secs pts turns s e k).s) ((wst secs pts turns s e k).e))).drop (((legK turns (aroundL secs pts (wst secs pts turns s e k).s (wst secs pts turns s e k).e).length k) + 1) * 2)))) (av' := .rp (([.i (((aroundL secs pts ((wst secs pts turns s e k).s) ((wst secs pts turns s e k).e)).getD (legK turns (aroundL secs pts (wst secs pts turns s e k).s (wst secs pts turns s e k).e).length k) dE).en)] : List AV) ++ ((enc eEn (aroundL secs pts ((wst secs pts turns s e k).s) ((wst secs pts turns s e k).e))).drop (((legK turns (aroundL secs pts (wst secs pts turns s e k).s (wst secs pts turns s e k).e).length k) + 1) * 2)))) rfl rfl rfl ft51_1 sz3 (hE 69 rfl) rfl rfl (by rw [hob]; rfl)⟩
     ·exact ⟨71, rfl, blt_lt rfl, fun st hob hE => aop_ld (av := .i (((aroundL secs pts ((wst secs pts turns s e k).s) ((wst secs pts turns s e k).e)).getD (legK turns (aroundL secs pts (wst secs pts turns s e k).s (wst secs pts turns s e k).e).length k) dE).en)) rfl rfl rfl ag3 (hE 70 rfl) rfl (by rw [hob]; rfl)⟩
     ·exact ⟨72, rfl, blt_lt rfl, fun st hob hE => aop_binI (u := (.int .i64 (1 - (((aroundL secs pts ((wst secs pts turns s e k).s) ((wst secs pts turns s e k).e)).getD (legK turns (aroundL secs pts (wst secs pts turns s e k).s (wst secs pts turns s e k).e).length k) dE).en)))) rfl rfl rfl rfl (hE 71 rfl) trivial (subI (by omega)) (by rw [hob]; rfl)⟩
     ·exact ⟨73, rfl, blt_lt rfl, fun st hob hE => aop_build rfl rfl rfl pl51 (by simp only [partsA, List.map, evA, hE 66 rfl, hE 72 rfl]; rfl) (by rw [hob]; rfl)⟩
    refine opG rfl (aop_store rfl rfl rfl sz51 rfl rfl rfl rfl rfl (Nat.le_of_ble_eq_true rfl) rfl rfl ?_)
    refine op0 ?_
    refine regR ?_
    refine opG rfl (aop_move (av := .i (k : Int)) (.inl rfl) rfl rfl rfl ?_)
    refine opG rfl (aop_binI (u := (.int .i64 ((k + 1 : Nat) : Int))) rfl rfl rfl rfl rfl trivial (addN (by omega)) ?_)
    refine opG rfl (aop_move (av := .i ((k + 1 : Nat) : Int)) (.inr rfl) rfl rfl rfl ?_)
    refine op0 ?_
    show _ ∧ _
    refine ⟨by omega, (walkR_go (wstop_go (by omega) hx0 hns) (by omega) hinv), ?_⟩
    exact imp_ler [(54, 1), (2, 2), (3, 3)] (lerL [(54, 1), (2, 2), (3, 3)] [((54, 1), .live ⟨(enc eI ((wst secs pts turns s e (k + 1)).out)), 3, 1⟩), ((2, 2), .live ⟨[.i ((wst secs pts turns s e (k + 1)).s), .i ((wst secs pts turns s e (k + 1)).e)], 51, 1⟩), ((3, 3), .live ⟨[.one, .q eSec secs, .one, .q ePnt pts, .one, .one, .one, .one, .one, .one], 37, 1⟩)] rfl (by decide) (by decide) ⟨row_no (o := ⟨(enc eI (((wst secs pts turns s e k).out) ++ [(((aroundL secs pts ((wst secs pts turns s e k).s) ((wst secs pts turns s e k).e)).getD (legK turns (aroundL secs pts (wst secs pts turns s e k).s (wst secs pts turns s e k).e).length k) dE).sec : Int)])), 3, 1⟩) rfl (by exact congrArg (fun l_ => LObj.mk (enc eI l_) 3 1) rfl), row_no (o := ⟨[.i (((aroundL secs pts ((wst secs pts turns s e k).s) ((wst secs pts turns s e k).e)).getD (legK turns (aroundL secs pts (wst secs pts turns s e k).s (wst secs pts turns s e k).e).length k) dE).sec), .i (1 - (((aroundL secs pts ((wst secs pts turns s e k).s) ((wst secs pts turns s e k).e)).getD (legK turns (aroundL secs pts (wst secs pts turns s e k).s (wst secs pts turns s e k).e).length k) dE).en))], 51, 1⟩) rfl rfl, row_no (o := ⟨[.one, .q eSec secs, .one, .q ePnt pts, .one, .one, .one, .one, .one, .one], 37, 1⟩) rfl rfl, trivial⟩ (sr_same 13 (.i ((k + 1) : Int)) rfl NoI.out (sr_map 12 (.pt 2 0) (by first | exact Ok.sl _ _ _ (by first | decide | simp) | exact Ok.pt _ _ (by first | decide | simp)) rfl (sr_map 11 (.sl 1 0 ((wst secs pts turns s e (k + 1)).out.length)) (by first | exact Ok.sl _ _ _ (by first | decide | simp) | exact Ok.pt _ _ (by first | decide | simp)) rfl (sr_same 10 (.v (.slice none 0 0)) rfl NoI.out (sr_map 5 (.pt 3 0) (by first | exact Ok.sl _ _ _ (by first | decide | simp) | exact Ok.pt _ _ (by first | decide | simp)) rfl (sr_same 4 (.i most) rfl NoI.out (sr_same 3 (.q eU8 turns) rfl NoI.out sr_none)))))))) (keep_of rfl)
 ·skip
  have hf6 := of_decide_eq_false hc0
  refine awp_exit ?_
  refine seqR ?_
  refine opG rfl (aop_move (av := .sl 1 0 ((wst secs pts turns s e k).out.length)) (.inl rfl) rfl rfl rfl ?_)
  refine opG rfl (aop_move (av := .sl 1 0 ((wst secs pts turns s e k).out.length)) (.inr rfl) rfl rfl rfl ?_)
  refine op0 ?_
  refine awp_imp _ (imp_frozen rfl (fun _ h => h) (lee_lend 10 (.ro ((wst secs pts turns s e k).out.length) (enc eI ((wst secs pts turns s e k).out))) (lend_s (id := 1) (n := (wst secs pts turns s e k).out.length) (o := ⟨(enc eI ((wst secs pts turns s e k).out)), 3, 1⟩) rfl (enc_len (fun _ => rfl) (by first | rfl | (simp; done)))) lee_lend0)) ?_
  refine awp_ret ?_
  exact fret (av := .ro ((wst secs pts turns s e k).out.length) (enc eI ((wst secs pts turns s e k).out))) rfl rfl (by rw [← hinv, walkR_stop (wstop_len (by omega))])
end Go.Lo
