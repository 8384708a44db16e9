/- Walks of Go functions in the logic of values. -/
import Derived.Test.YtpgbplgljfjhnaaFnGTy
import Derived.Test.YtpgbplgljfjhnaaDef
import Derived.Test.YtpgbplgljfjhnaaLay
import Derived.Test.YtpgbplgljfjhnaaGr
import Derived.Test.YtpgbplgljfjhnaaFnA
import Derived.Test.YtpgbplgljfjhnaaFnC
import Derived.Test.YtpgbplgljfjhnaaFnM
import Derived.Test.YtpgbplgljfjhnaaFnF
set_option linter.unusedVariables false
set_option linter.unusedSimpArgs false
set_option maxRecDepth 10000
set_option maxHeartbeats 16000000
namespace Go.Lo
open Go.Proofs
theorem g_section (secs : List Sec) (s : Int) (hs : secs.length ≤ 65536) : Fn Try.prog 51 [.rp [.one, .ro secs.length (enc eSec secs), .one, .one, .one, .one, .one, .one, .one, .one], .v (.int .i64 s)] (.tup [.agg [.v (.int .i64 ((secV secs s).len)), .v (.int .i64 ((secV secs s).a)), .v (.int .i64 ((secV secs s).b))], .v (.bool (!noSec secs s))]) := by
 refine fnC_of_body (N := 31) Try.func51 rfl rfl (by simp) (fun w0 X hL_ => ?_)
 refine seqR ?_
 refine opG rfl (aop_alloc 51 rfl rfl rfl rfl ze74 rfl ?_)
 refine opG rfl (aop_move (av := .b false) (.inr rfl) rfl rfl rfl ?_)
 refine op0 ?_
 refine awp_seq ?_
 refine seqR ?_
 refine opG rfl (aop_move (av := .rp [.one, .q eSec secs, .one, .one, .one, .one, .one, .one, .one, .one]) (.inl rfl) rfl rfl rfl ?_)
 refine opG rfl (aop_ptNil rfl rfl rfl ut44 rfl rfl rfl (.inl ⟨rfl, rfl⟩) ?_)
 refine opG rfl (aop_move (av := .b false) (.inl rfl) rfl rfl rfl ?_)
 refine opY rfl rfl rfl rfl (aop_move (av := .i s) (.inl rfl) rfl rfl rfl ?_)
 refine opY rfl rfl rfl rfl (aop_binI (u := (.bool (decide (s < 0)))) rfl rfl rfl rfl rfl trivial rfl ?_)
 refine opG rfl (aop_pick (b := false) (av := .b (decide (s < 0))) rfl rfl rfl rfl rfl ?_)
 refine opG rfl (aop_move (av := .b (decide (s < 0))) (.inl rfl) rfl rfl rfl ?_)
 refine aops_grp 9 21 (.b ((decide (s < 0)) || (decide (s ≥ (secs.length : Int))))) ?_ ?_
 ·refine (Bool.eq_false_or_eq_true (decide (s < 0))).elim (fun hg1 => ?_) (fun hg1 => ?_)
  ·skip
   have hf2 := of_decide_eq_true hg1
   refine opN rfl rfl rfl rfl (by show yv (.bool (decide (s < 0))) ≠ _; rw [hg1]; intro h; cases h) rfl rfl ?_
   refine opN rfl rfl rfl rfl (by show yv (.bool (decide (s < 0))) ≠ _; rw [hg1]; intro h; cases h) rfl rfl ?_
   refine opN rfl rfl rfl rfl (by show yv (.bool (decide (s < 0))) ≠ _; rw [hg1]; intro h; cases h) rfl rfl ?_
   refine opN rfl rfl rfl rfl (by show yv (.bool (decide (s < 0))) ≠ _; rw [hg1]; intro h; cases h) rfl rfl ?_
   refine opN rfl rfl rfl rfl (by show yv (.bool (decide (s < 0))) ≠ _; rw [hg1]; intro h; cases h) rfl rfl ?_
   refine opN rfl rfl rfl rfl (by show yv (.bool (decide (s < 0))) ≠ _; rw [hg1]; intro h; cases h) rfl rfl ?_
   refine opN rfl rfl rfl rfl (by show yv (.bool (decide (s < 0))) ≠ _; rw [hg1]; intro h; cases h) rfl rfl ?_
   refine opN rfl rfl rfl rfl (by show yv (.bool (decide (s < 0))) ≠ _; rw [hg1]; intro h; cases h) rfl rfl ?_
   refine opG rfl (aop_pick (b := (decide (s < 0))) (av := .b true) rfl rfl rfl rfl ((congrArg (fun b_ => cond b_ _ _) hg1).trans rfl) ?_)
   refine op0 ?_
   exact imp_env (lee_both 21 _ _ (by rw [hg1] <;> rfl) (lee_out 20 _ rfl (lee_out 19 _ rfl (lee_out 18 _ rfl (lee_out 17 _ rfl (lee_out 16 _ rfl (lee_out 15 _ rfl (lee_out 14 _ rfl (lee_out 13 _ rfl (lee_same _))))))))))
  ·skip
   have hf3 := of_decide_eq_false hg1
   refine opY rfl rfl rfl (by show AV.v (.bool (decide (s < 0))) = _; rw [hg1]) (aop_move (av := .i s) (.inl rfl) rfl rfl rfl ?_)
   refine opY rfl rfl rfl (by show AV.v (.bool (decide (s < 0))) = _; rw [hg1]) (aop_move (av := .rp [.one, .q eSec secs, .one, .one, .one, .one, .one, .one, .one, .one]) (.inl rfl) rfl rfl rfl ?_)
   refine opY rfl rfl rfl (by show AV.v (.bool (decide (s < 0))) = _; rw [hg1]) (aop_nilCheck rfl rfl rfl rfl rfl ?_)
   refine opY rfl rfl rfl (by show AV.v (.bool (decide (s < 0))) = _; rw [hg1]) (aop_fieldAddr (av := .rp [.one, .q eSec secs, .one, .one, .one, .one, .one, .one, .one, .one]) (av' := .rp [.one, .q eSec secs, .one, .one, .one, .one, .one, .one, .one, .one]) rfl rfl rfl ft67_0 sz37 rfl rfl rfl ?_)
   refine opY rfl rfl rfl (by show AV.v (.bool (decide (s < 0))) = _; rw [hg1]) (aop_fieldAddr (av := .rp [.one, .q eSec secs, .one, .one, .one, .one, .one, .one, .one, .one]) (av' := .rp [.q eSec secs, .one, .one, .one, .one, .one, .one, .one, .one]) rfl rfl rfl ft37_1 sz33 rfl rfl rfl ?_)
   refine opY rfl rfl rfl (by show AV.v (.bool (decide (s < 0))) = _; rw [hg1]) (aop_ld (av := .q eSec secs) rfl rfl rfl ag33 rfl rfl ?_)
   refine opY rfl rfl rfl (by show AV.v (.bool (decide (s < 0))) = _; rw [hg1]) (aop_len rfl rfl rfl rfl ut33 (len_ro rfl) ?_)
   refine opY rfl rfl rfl (by show AV.v (.bool (decide (s < 0))) = _; rw [hg1]) (aop_binI (u := (.bool (decide (s ≥ (secs.length : Int))))) rfl rfl rfl rfl rfl trivial rfl ?_)
   refine opG rfl (aop_pick (b := (decide (s < 0))) (av := .b (decide (s ≥ (secs.length : Int)))) rfl rfl rfl rfl ((congrArg (fun b_ => cond b_ _ _) hg1).trans rfl) ?_)
   refine op0 ?_
   exact imp_env (lee_both 21 _ _ (by rw [hg1] <;> rfl) (lee_out 20 _ rfl (lee_out 19 _ rfl (lee_out 18 _ rfl (lee_out 17 _ rfl (lee_out 16 _ rfl (lee_out 15 _ rfl (lee_out 14 _ rfl (lee_out 13 _ rfl (lee_same _))))))))))
 refine op0 ?_
 refine rs_ (upd (upd (upd (upd (upd none_ 0 (.rp [.one, .q eSec secs, .one, .one, .one, .one, .one, .one, .one, .one])) 1 (.i s)) 4 (.pt 51 0)) 5 (.b false)) 21 (.b ((decide (s < 0)) || (decide (s ≥ (secs.length : Int)))))) (updO noOb 51 (.live ⟨[.i 0, .i 0, .i 0], 74, 1⟩)) (lu rfl (lu rfl (lu rfl (lu rfl (lu rfl ln))))) rfl ?_
 refine awp_cond ((decide (s < 0)) || (decide (s ≥ (secs.length : Int)))) rfl rfl (fun hc0 => ?_) (fun hc0 => ?_)
 ·skip
  have hn : noSec secs s = true := hc0
  refine seqR ?_
  refine opG rfl (aop_build rfl rfl rfl pl74 rfl ?_)
  refine opG rfl (aop_store rfl rfl rfl sz74 rfl rfl rfl rfl rfl (Nat.le_of_ble_eq_true rfl) rfl rfl ?_)
  refine opG rfl (aop_move (av := .b false) (.inr rfl) rfl rfl rfl ?_)
  refine op0 ?_
  refine awp_imp _ ((frz_ [51] [(51, ⟨[.i 0, .i 0, .i 0], 74, 1⟩)] rfl (fun _ h => h) ⟨keep_cells (cs := [.i 0, .i 0, .i 0]) (by simp) rfl rfl (frzs_cons (.inl rfl) (frzs_cons (.inl rfl) (frzs_cons (.inl rfl) frzs_nil))), trivial⟩ (fz_same 5 (.b false) rfl (fz_same 4 (.pt 51 0) rfl fz_none)))) ?_
  refine awp_ret ?_
  exact fretC2 (p := 4) (q := 5) rfl rfl ag74 sz74 rfl rfl (Nat.le_of_ble_eq_true rfl) rfl rfl rfl (by rw [secV_no hn, hn]; rfl)
 ·skip
  obtain ⟨hf4a, hf4b⟩ := or_f hc0
  have hf5 := of_decide_eq_false hf4a
  have hf6 := of_decide_eq_false hf4b
  have hn : noSec secs s = false := hc0
  have hb := noSec_false hn
  refine awp_skip ?_
  refine seqR ?_
  refine opG rfl (aop_move (av := .rp [.one, .q eSec secs, .one, .one, .one, .one, .one, .one, .one, .one]) (.inl rfl) rfl rfl rfl ?_)
  refine opG rfl (aop_nilCheck rfl rfl rfl rfl rfl ?_)
  refine opG rfl (aop_fieldAddr (av := .rp [.one, .q eSec secs, .one, .one, .one, .one, .one, .one, .one, .one]) (av' := .rp [.one, .q eSec secs, .one, .one, .one, .one, .one, .one, .one, .one]) rfl rfl rfl ft67_0 sz37 rfl rfl rfl ?_)
  refine opG rfl (aop_fieldAddr (av := .rp [.one, .q eSec secs, .one, .one, .one, .one, .one, .one, .one, .one]) (av' := .rp [.q eSec secs, .one, .one, .one, .one, .one, .one, .one, .one]) rfl rfl rfl ft37_1 sz33 rfl rfl rfl ?_)
  refine opG rfl (aop_ld (av := .q eSec secs) rfl rfl rfl ag33 rfl rfl ?_)
  refine opG rfl (aop_move (av := .i s) (.inl rfl) rfl rfl rfl ?_)
  refine opG rfl (aop_ixI dS rfl rfl rfl ut33 sz74 rfl rfl (fun _ => rfl) rfl (by omega) (by first | omega | (simp; done) | decide | (simp at *; omega)) ?_)
  refine opG rfl (aop_ldB (cells' := [.i ((secs.getD s.toNat dS).len), .i ((secs.getD s.toNat dS).a), .i ((secs.getD s.toNat dS).b)]) rfl rfl rfl ag74 sz74 rfl rfl rfl rfl ?_)
  refine opG rfl (aop_store rfl rfl rfl sz74 rfl rfl rfl rfl rfl (Nat.le_of_ble_eq_true rfl) rfl rfl ?_)
  refine opG rfl (aop_move (av := .b true) (.inr rfl) rfl rfl rfl ?_)
  refine op0 ?_
  refine rs_ (upd (upd none_ 4 (.pt 51 0)) 5 (.b true)) (updO (updO noOb 51 (.live ⟨[.i 0, .i 0, .i 0], 74, 1⟩)) 51 (.live ⟨[.i ((secs.getD s.toNat dS).len), .i ((secs.getD s.toNat dS).a), .i ((secs.getD s.toNat dS).b)], 74, 1⟩)) (lu rfl (lu rfl ln)) rfl ?_
  refine awp_imp _ ((frz_ [51] [(51, ⟨[.i ((secs.getD s.toNat dS).len), .i ((secs.getD s.toNat dS).a), .i ((secs.getD s.toNat dS).b)], 74, 1⟩)] rfl (fun _ h => h) ⟨keep_cells (cs := [.i ((secs.getD s.toNat dS).len), .i ((secs.getD s.toNat dS).a), .i ((secs.getD s.toNat dS).b)]) (by simp) rfl rfl (frzs_cons (.inl rfl) (frzs_cons (.inl rfl) (frzs_cons (.inl rfl) frzs_nil))), trivial⟩ (fz_same 5 (.b true) rfl (fz_same 4 (.pt 51 0) rfl fz_none)))) ?_
  refine awp_ret ?_
  exact fretC2 (p := 4) (q := 5) rfl rfl ag74 sz74 rfl rfl (Nat.le_of_ble_eq_true rfl) rfl rfl rfl (by rw [secV_yes hn, hn]; rfl)
theorem g_node (secs : List Sec) (s e : Int) (hs : secs.length ≤ 65536) : Fn Try.prog 44 [.rp [.one, .ro secs.length (enc eSec secs), .one, .one, .one, .one, .one, .one, .one, .one], .agg [.v (.int .i64 s), .v (.int .i64 e)]] (.tup [.v (.int .i64 (nodeA secs s e)), .v (.bool (!noNode secs s e))]) := by
 refine fnE_of_body (N := 33) Try.func44 rfl rfl (resOf2 rfl) (by simp) (fun w0 X hL_ => ?_)
 refine seqR ?_
 refine opG rfl (aop_box 51 rfl rfl rfl rfl rfl rfl rfl ?_)
 refine opG rfl (aop_move (av := .i 0) (.inr rfl) rfl rfl rfl ?_)
 refine opG rfl (aop_move (av := .b false) (.inr rfl) rfl rfl rfl ?_)
 refine op0 ?_
 refine seqR ?_
 refine opG rfl (aop_move (av := .rp [.one, .q eSec secs, .one, .one, .one, .one, .one, .one, .one, .one]) (.inl rfl) rfl rfl rfl ?_)
 refine opG rfl (aop_fieldAddr (av := .pt 51 0) (av' := .pt 51 0) rfl rfl rfl ft51_0 sz3 rfl rfl rfl ?_)
 refine opG rfl (aop_ld (av := .i s) rfl rfl rfl ag3 rfl rfl ?_)
 refine opG rfl (call_ (g_section secs s (by first | omega | (simp; done) | decide | (simp at *; omega))) rfl rfl rfl rfl rfl bd51 rfl ?_)
 refine opG rfl (aop_move (av := .tup [.agg [.i ((secV secs s).len), .i ((secV secs s).a), .i ((secV secs s).b)], .b (!noSec secs s)]) (.inl rfl) rfl rfl rfl ?_)
 refine opG rfl (aop_extract rfl rfl rfl rfl rfl ?_)
 refine opG rfl (aop_extract rfl rfl rfl rfl rfl ?_)
 refine opG rfl (aop_alloc 52 rfl rfl rfl rfl ze74 rfl ?_)
 refine opG rfl (aop_store rfl rfl rfl sz74 rfl rfl rfl rfl rfl (Nat.le_of_ble_eq_true rfl) rfl rfl ?_)
 refine opG rfl (aop_move (av := .b (!noSec secs s)) (.inr rfl) rfl rfl rfl ?_)
 refine op0 ?_
 refine rs_ (upd (upd (upd (upd (upd none_ 3 (.pt 51 0)) 4 (.i 0)) 5 (.b false)) 6 (.pt 52 0)) 7 (.b (!noSec secs s))) (updO (updO (updO noOb 51 (.live ⟨[.i s, .i e], 51, 1⟩)) 52 (.live ⟨[.i 0, .i 0, .i 0], 74, 1⟩)) 52 (.live ⟨[.i ((secV secs s).len), .i ((secV secs s).a), .i ((secV secs s).b)], 74, 1⟩)) (lu rfl (lu rfl (lu rfl (lu rfl (lu rfl ln))))) rfl ?_
 refine awp_seq ?_
 refine awp_block ?_
 refine seqR ?_
 refine opG rfl (aop_move (av := .b (!noSec secs s)) (.inl rfl) rfl rfl rfl ?_)
 refine opG rfl (aop_move (av := .b (!noSec secs s)) (.inl rfl) rfl rfl rfl ?_)
 refine aops_grp 4 21 (.b ((!noSec secs s) && (e == 0))) ?_ ?_
 ·refine (Bool.eq_false_or_eq_true (!noSec secs s)).elim (fun hg1 => ?_) (fun hg1 => ?_)
  ·skip
   refine opY rfl rfl rfl (by show AV.v (.bool (!noSec secs s)) = _; rw [hg1]) (aop_fieldAddr (av := .pt 51 0) (av' := .pt 51 1) rfl rfl rfl ft51_1 sz3 rfl rfl rfl ?_)
   refine opY rfl rfl rfl (by show AV.v (.bool (!noSec secs s)) = _; rw [hg1]) (aop_ld (av := .i e) rfl rfl rfl ag3 rfl rfl ?_)
   refine opY rfl rfl rfl (by show AV.v (.bool (!noSec secs s)) = _; rw [hg1]) (aop_binI (u := (.bool (e == 0))) rfl rfl rfl rfl rfl trivial rfl ?_)
   refine opG rfl (aop_pick (b := (!noSec secs s)) (av := .b (e == 0)) rfl rfl rfl rfl ((congrArg (fun b_ => cond b_ _ _) hg1).trans rfl) ?_)
   refine op0 ?_
   exact imp_env (lee_both 21 _ _ (by rw [hg1] <;> rfl) (lee_out 20 _ rfl (lee_out 19 _ rfl (lee_out 18 _ rfl (lee_same _)))))
  ·skip
   refine opN rfl rfl rfl rfl (by show yv (.bool (!noSec secs s)) ≠ _; rw [hg1]; intro h; cases h) rfl rfl ?_
   refine opN rfl rfl rfl rfl (by show yv (.bool (!noSec secs s)) ≠ _; rw [hg1]; intro h; cases h) rfl rfl ?_
   refine opN rfl rfl rfl rfl (by show yv (.bool (!noSec secs s)) ≠ _; rw [hg1]; intro h; cases h) rfl rfl ?_
   refine opG rfl (aop_pick (b := (!noSec secs s)) (av := .b false) rfl rfl rfl rfl ((congrArg (fun b_ => cond b_ _ _) hg1).trans rfl) ?_)
   refine op0 ?_
   exact imp_env (lee_both 21 _ _ (by rw [hg1] <;> rfl) (lee_out 20 _ rfl (lee_out 19 _ rfl (lee_out 18 _ rfl (lee_same _)))))
 refine opG rfl (aop_move (av := .b ((!noSec secs s) && (e == 0))) (.inr rfl) rfl rfl rfl ?_)
 refine op0 ?_
 refine awp_cond ((!noSec secs s) && (e == 0)) rfl rfl (fun hc0 => ?_) (fun hc0 => ?_)
 ·skip
  obtain ⟨hf2a, hf2b⟩ := and_t hc0
  have hf3 := (beq_iff_eq).1 hf2b
  have hq : noSec secs s = false ∧ e = 0 := by simpa using hc0
  have hn := node_0 hq.1 hq.2
  refine seqR ?_
  refine opG rfl (aop_fieldAddr (av := .pt 52 0) (av' := .pt 52 1) rfl rfl rfl ft74_1 sz3 rfl rfl rfl ?_)
  refine opG rfl (aop_ld (av := .i ((secV secs s).a)) rfl rfl rfl ag3 rfl rfl ?_)
  refine opG rfl (aop_move (av := .i ((secV secs s).a)) (.inr rfl) rfl rfl rfl ?_)
  refine opG rfl (aop_move (av := .b true) (.inr rfl) rfl rfl rfl ?_)
  refine op0 ?_
  refine rs_ (upd (upd none_ 4 (.i ((secV secs s).a))) 5 (.b true)) (updO (updO (updO noOb 51 (.live ⟨[.i s, .i e], 51, 1⟩)) 52 (.live ⟨[.i 0, .i 0, .i 0], 74, 1⟩)) 52 (.live ⟨[.i ((secV secs s).len), .i ((secV secs s).a), .i ((secV secs s).b)], 74, 1⟩)) (lu rfl (lu rfl ln)) rfl ?_
  refine awp_ret ?_
  exact fret (av := .tup [.v (.int .i64 ((secV secs s).a)), .v (.bool true)]) rfl rfl (by rw [hn.1, hn.2]; rfl)
 ·skip
  have hq : ¬ (noSec secs s = false ∧ e = 0) := by simpa using hc0
  refine seqR ?_
  refine opG rfl (aop_move (av := .b (!noSec secs s)) (.inl rfl) rfl rfl rfl ?_)
  refine opG rfl (aop_move (av := .b (!noSec secs s)) (.inl rfl) rfl rfl rfl ?_)
  refine aops_grp 4 30 (.b ((!noSec secs s) && (e == 1))) ?_ ?_
  ·refine (Bool.eq_false_or_eq_true (!noSec secs s)).elim (fun hg4 => ?_) (fun hg4 => ?_)
   ·skip
    refine opY rfl rfl rfl (by show AV.v (.bool (!noSec secs s)) = _; rw [hg4]) (aop_fieldAddr (av := .pt 51 0) (av' := .pt 51 1) rfl rfl rfl ft51_1 sz3 rfl rfl rfl ?_)
    refine opY rfl rfl rfl (by show AV.v (.bool (!noSec secs s)) = _; rw [hg4]) (aop_ld (av := .i e) rfl rfl rfl ag3 rfl rfl ?_)
    refine opY rfl rfl rfl (by show AV.v (.bool (!noSec secs s)) = _; rw [hg4]) (aop_binI (u := (.bool (e == 1))) rfl rfl rfl rfl rfl trivial rfl ?_)
    refine opG rfl (aop_pick (b := (!noSec secs s)) (av := .b (e == 1)) rfl rfl rfl rfl ((congrArg (fun b_ => cond b_ _ _) hg4).trans rfl) ?_)
    refine op0 ?_
    exact imp_env (lee_both 30 _ _ (by rw [hg4] <;> rfl) (lee_out 29 _ rfl (lee_out 28 _ rfl (lee_out 27 _ rfl (lee_same _)))))
   ·skip
    refine opN rfl rfl rfl rfl (by show yv (.bool (!noSec secs s)) ≠ _; rw [hg4]; intro h; cases h) rfl rfl ?_
    refine opN rfl rfl rfl rfl (by show yv (.bool (!noSec secs s)) ≠ _; rw [hg4]; intro h; cases h) rfl rfl ?_
    refine opN rfl rfl rfl rfl (by show yv (.bool (!noSec secs s)) ≠ _; rw [hg4]; intro h; cases h) rfl rfl ?_
    refine opG rfl (aop_pick (b := (!noSec secs s)) (av := .b false) rfl rfl rfl rfl ((congrArg (fun b_ => cond b_ _ _) hg4).trans rfl) ?_)
    refine op0 ?_
    exact imp_env (lee_both 30 _ _ (by rw [hg4] <;> rfl) (lee_out 29 _ rfl (lee_out 28 _ rfl (lee_out 27 _ rfl (lee_same _)))))
  refine opG rfl (aop_move (av := .b ((!noSec secs s) && (e == 1))) (.inr rfl) rfl rfl rfl ?_)
  refine op0 ?_
  refine rs_ (upd (upd (upd (upd none_ 4 (.i 0)) 5 (.b false)) 6 (.pt 52 0)) 24 (.b ((!noSec secs s) && (e == 1)))) (updO (updO (updO noOb 51 (.live ⟨[.i s, .i e], 51, 1⟩)) 52 (.live ⟨[.i 0, .i 0, .i 0], 74, 1⟩)) 52 (.live ⟨[.i ((secV secs s).len), .i ((secV secs s).a), .i ((secV secs s).b)], 74, 1⟩)) (lu rfl (lu rfl (lu rfl (lu rfl ln)))) rfl ?_
  refine awp_cond ((!noSec secs s) && (e == 1)) rfl rfl (fun hc1 => ?_) (fun hc1 => ?_)
  ·skip
   obtain ⟨hf5a, hf5b⟩ := and_t hc1
   have hf6 := (beq_iff_eq).1 hf5b
   have hq1 : noSec secs s = false ∧ e = 1 := by simpa using hc1
   have hn := node_1 hq1.1 hq1.2
   refine seqR ?_
   refine opG rfl (aop_fieldAddr (av := .pt 52 0) (av' := .pt 52 2) rfl rfl rfl ft74_2 sz3 rfl rfl rfl ?_)
   refine opG rfl (aop_ld (av := .i ((secV secs s).b)) rfl rfl rfl ag3 rfl rfl ?_)
   refine opG rfl (aop_move (av := .i ((secV secs s).b)) (.inr rfl) rfl rfl rfl ?_)
   refine opG rfl (aop_move (av := .b true) (.inr rfl) rfl rfl rfl ?_)
   refine op0 ?_
   refine rs_ (upd (upd none_ 4 (.i ((secV secs s).b))) 5 (.b true)) (updO (updO (updO noOb 51 (.live ⟨[.i s, .i e], 51, 1⟩)) 52 (.live ⟨[.i 0, .i 0, .i 0], 74, 1⟩)) 52 (.live ⟨[.i ((secV secs s).len), .i ((secV secs s).a), .i ((secV secs s).b)], 74, 1⟩)) (lu rfl (lu rfl ln)) rfl ?_
   refine awp_ret ?_
   exact fret (av := .tup [.v (.int .i64 ((secV secs s).b)), .v (.bool true)]) rfl rfl (by rw [hn.1, hn.2]; rfl)
  ·skip
   have hq1 : ¬ (noSec secs s = false ∧ e = 1) := by simpa using hc1
   have hn := node_no (secs := secs) (s := s) (e := e) (by cases h : noSec secs s with | true => exact .inl rfl | false => exact .inr ⟨fun x => hq ⟨h, x⟩, fun x => hq1 ⟨h, x⟩⟩)
   refine awp_skip ?_
   refine seqR ?_
   refine opG rfl (aop_move (av := .i 0) (.inr rfl) rfl rfl rfl ?_)
   refine opG rfl (aop_move (av := .b false) (.inr rfl) rfl rfl rfl ?_)
   refine op0 ?_
   refine awp_ret ?_
   exact fret (av := .tup [.v (.int .i64 0), .v (.bool false)]) rfl rfl (by rw [hn.1, hn.2]; rfl)
theorem g_Len (secs : List Sec) (s : Int) (hs : secs.length ≤ 65536) : Fn Try.prog 38 [.rp [.one, .ro secs.length (enc eSec secs), .one, .one, .one, .one, .one, .one, .one, .one], .v (.int .i64 s)] (.v (.int .i64 (lenI secs s))) := by
 refine fnE_of_body (N := 15) Try.func38 rfl rfl (resOf1 rfl) (by simp) (fun w0 X hL_ => ?_)
 refine seqR ?_
 refine opG rfl (aop_move (av := .i 0) (.inr rfl) rfl rfl rfl ?_)
 refine op0 ?_
 refine seqR ?_
 refine opG rfl (aop_move (av := .rp [.one, .q eSec secs, .one, .one, .one, .one, .one, .one, .one, .one]) (.inl rfl) rfl rfl rfl ?_)
 refine opG rfl (aop_move (av := .i s) (.inl rfl) rfl rfl rfl ?_)
 refine opG rfl (call_ (g_section secs s (by first | omega | (simp; done) | decide | (simp at *; omega))) rfl rfl rfl rfl rfl bd51 rfl ?_)
 refine opG rfl (aop_move (av := .tup [.agg [.i ((secV secs s).len), .i ((secV secs s).a), .i ((secV secs s).b)], .b (!noSec secs s)]) (.inl rfl) rfl rfl rfl ?_)
 refine opG rfl (aop_extract rfl rfl rfl rfl rfl ?_)
 refine opG rfl (aop_extract rfl rfl rfl rfl rfl ?_)
 refine opG rfl (aop_alloc 51 rfl rfl rfl rfl ze74 rfl ?_)
 refine opG rfl (aop_store rfl rfl rfl sz74 rfl rfl rfl rfl rfl (Nat.le_of_ble_eq_true rfl) rfl rfl ?_)
 refine opG rfl (aop_move (av := .b (!noSec secs s)) (.inr rfl) rfl rfl rfl ?_)
 refine op0 ?_
 refine rs_ (upd (upd none_ 4 (.i 0)) 5 (.pt 51 0)) (updO (updO noOb 51 (.live ⟨[.i 0, .i 0, .i 0], 74, 1⟩)) 51 (.live ⟨[.i ((secV secs s).len), .i ((secV secs s).a), .i ((secV secs s).b)], 74, 1⟩)) (lu rfl (lu rfl ln)) rfl ?_
 refine seqR ?_
 refine opG rfl (aop_fieldAddr (av := .pt 51 0) (av' := .pt 51 0) rfl rfl rfl ft74_0 sz3 rfl rfl rfl ?_)
 refine opG rfl (aop_ld (av := .i ((secV secs s).len)) rfl rfl rfl ag3 rfl rfl ?_)
 refine opG rfl (aop_move (av := .i ((secV secs s).len)) (.inr rfl) rfl rfl rfl ?_)
 refine op0 ?_
 refine awp_ret ?_
 exact fret (av := .v (.int .i64 ((secV secs s).len))) rfl rfl rfl
theorem r05_Len (secs : List Sec) (s : Int) (hs : secs.length ≤ 65536) : Fn Try.prog 18 [.agg [.one, .ro secs.length (enc eSec secs), .one, .one, .one, .one, .one, .one, .one, .one], .v (.int .i64 s)] (.v (.int .i64 (lenI secs s))) := by
 refine fnE_of_body (N := 20) Try.func18 rfl rfl (resOf1 rfl) (by simp) (fun w0 X hL_ => ?_)
 refine seqR ?_
 refine opG rfl (aop_box 51 rfl rfl rfl rfl rfl rfl rfl ?_)
 refine opG rfl (aop_move (av := .i 0) (.inr rfl) rfl rfl rfl ?_)
 refine op0 ?_
 refine awp_seq ?_
 refine seqR ?_
 refine opG rfl (aop_move (av := .i s) (.inl rfl) rfl rfl rfl ?_)
 refine opG rfl (aop_binI (u := (.bool (decide (s < 0)))) rfl rfl rfl rfl rfl trivial rfl ?_)
 refine opG rfl (aop_move (av := .b (decide (s < 0))) (.inl rfl) rfl rfl rfl ?_)
 refine aops_grp 6 13 (.b ((decide (s < 0)) || (decide (s ≥ (secs.length : Int))))) ?_ ?_
 ·refine (Bool.eq_false_or_eq_true (decide (s < 0))).elim (fun hg1 => ?_) (fun hg1 => ?_)
  ·skip
   have hf2 := of_decide_eq_true hg1
   refine opN rfl rfl rfl rfl (by show yv (.bool (decide (s < 0))) ≠ _; rw [hg1]; intro h; cases h) rfl rfl ?_
   refine opN rfl rfl rfl rfl (by show yv (.bool (decide (s < 0))) ≠ _; rw [hg1]; intro h; cases h) rfl rfl ?_
   refine opN rfl rfl rfl rfl (by show yv (.bool (decide (s < 0))) ≠ _; rw [hg1]; intro h; cases h) rfl rfl ?_
   refine opN rfl rfl rfl rfl (by show yv (.bool (decide (s < 0))) ≠ _; rw [hg1]; intro h; cases h) rfl rfl ?_
   refine opN rfl rfl rfl rfl (by show yv (.bool (decide (s < 0))) ≠ _; rw [hg1]; intro h; cases h) rfl rfl ?_
   refine opG rfl (aop_pick (b := (decide (s < 0))) (av := .b true) rfl rfl rfl rfl ((congrArg (fun b_ => cond b_ _ _) hg1).trans rfl) ?_)
   refine op0 ?_
   exact imp_env (lee_both 13 _ _ (by rw [hg1] <;> rfl) (lee_out 12 _ rfl (lee_out 11 _ rfl (lee_out 10 _ rfl (lee_out 9 _ rfl (lee_out 8 _ rfl (lee_same _)))))))
  ·skip
   have hf3 := of_decide_eq_false hg1
   refine opY rfl rfl rfl (by show AV.v (.bool (decide (s < 0))) = _; rw [hg1]) (aop_move (av := .i s) (.inl rfl) rfl rfl rfl ?_)
   refine opY rfl rfl rfl (by show AV.v (.bool (decide (s < 0))) = _; rw [hg1]) (aop_fieldAddr (av := .pt 51 0) (av' := .pt 51 1) rfl rfl rfl ft37_1 sz33 rfl rfl rfl ?_)
   refine opY rfl rfl rfl (by show AV.v (.bool (decide (s < 0))) = _; rw [hg1]) (aop_ld (av := .q eSec secs) rfl rfl rfl ag33 rfl rfl ?_)
   refine opY rfl rfl rfl (by show AV.v (.bool (decide (s < 0))) = _; rw [hg1]) (aop_len rfl rfl rfl rfl ut33 (len_ro rfl) ?_)
   refine opY rfl rfl rfl (by show AV.v (.bool (decide (s < 0))) = _; rw [hg1]) (aop_binI (u := (.bool (decide (s ≥ (secs.length : Int))))) rfl rfl rfl rfl rfl trivial rfl ?_)
   refine opG rfl (aop_pick (b := (decide (s < 0))) (av := .b (decide (s ≥ (secs.length : Int)))) rfl rfl rfl rfl ((congrArg (fun b_ => cond b_ _ _) hg1).trans rfl) ?_)
   refine op0 ?_
   exact imp_env (lee_both 13 _ _ (by rw [hg1] <;> rfl) (lee_out 12 _ rfl (lee_out 11 _ rfl (lee_out 10 _ rfl (lee_out 9 _ rfl (lee_out 8 _ rfl (lee_same _)))))))
 refine op0 ?_
 refine rs_ (upd (upd (upd (upd none_ 1 (.i s)) 2 (.pt 51 0)) 4 (.i 0)) 13 (.b ((decide (s < 0)) || (decide (s ≥ (secs.length : Int)))))) (updO noOb 51 (.live ⟨[.one, .q eSec secs, .one, .one, .one, .one, .one, .one, .one, .one], 37, 1⟩)) (lu rfl (lu rfl (lu rfl (lu rfl ln)))) rfl ?_
 refine awp_cond ((decide (s < 0)) || (decide (s ≥ (secs.length : Int)))) rfl rfl (fun hc0 => ?_) (fun hc0 => ?_)
 ·skip
  have hn : noSec secs s = true := hc0
  refine seqR ?_
  refine opG rfl (aop_move (av := .i 0) (.inr rfl) rfl rfl rfl ?_)
  refine op0 ?_
  refine awp_ret ?_
  exact fret (av := .v (.int .i64 0)) rfl rfl (by rw [lenI_no hn])
 ·skip
  obtain ⟨hf4a, hf4b⟩ := or_f hc0
  have hf5 := of_decide_eq_false hf4a
  have hf6 := of_decide_eq_false hf4b
  have hn : noSec secs s = false := hc0
  have hb := noSec_false hn
  refine awp_skip ?_
  refine seqR ?_
  refine opG rfl (aop_fieldAddr (av := .pt 51 0) (av' := .pt 51 1) rfl rfl rfl ft37_1 sz33 rfl rfl rfl ?_)
  refine opG rfl (aop_ld (av := .q eSec secs) rfl rfl rfl ag33 rfl rfl ?_)
  refine opG rfl (aop_move (av := .i s) (.inl rfl) rfl rfl rfl ?_)
  refine opG rfl (aop_ixI dS rfl rfl rfl ut33 sz74 rfl rfl (fun _ => rfl) rfl (by omega) (by first | omega | (simp; done) | decide | (simp at *; omega)) ?_)
  refine opG rfl (aop_fieldAddr (av := .rp (([.i ((secs.getD s.toNat dS).len), .i ((secs.getD s.toNat dS).a), .i ((secs.getD s.toNat dS).b)] : List AV) ++ ((enc eSec secs).drop ((s.toNat + 1) * 3)))) (av' := .rp (([.i ((secs.getD s.toNat dS).len), .i ((secs.getD s.toNat dS).a), .i ((secs.getD s.toNat dS).b)] : List AV) ++ ((enc eSec secs).drop ((s.toNat + 1) * 3)))) rfl rfl rfl ft74_0 sz3 rfl rfl rfl ?_)
  refine opG rfl (aop_ld (av := .i ((secs.getD s.toNat dS).len)) rfl rfl rfl ag3 rfl rfl ?_)
  refine opG rfl (aop_move (av := .i ((secs.getD s.toNat dS).len)) (.inr rfl) rfl rfl rfl ?_)
  refine op0 ?_
  refine rs_ (upd none_ 4 (.i ((secs.getD s.toNat dS).len))) (updO noOb 51 (.live ⟨[.one, .q eSec secs, .one, .one, .one, .one, .one, .one, .one, .one], 37, 1⟩)) (lu rfl ln) rfl ?_
  refine awp_ret ?_
  exact fret (av := .v (.int .i64 ((secs.getD s.toNat dS).len))) rfl rfl (by rw [lenI_yes hn])
theorem g_Point1 (x n : Int)  : Fn Try.prog 58 [.agg [.v (.int .i64 x), .one, .one, .one], .rp [.v (.int .i64 n)]] (.v (.bool (decide (x = n)))) := by
 refine fnE_of_body (N := 8) Try.func58 rfl rfl (resOf1 rfl) (by simp) (fun w0 X hL_ => ?_)
 refine seqR ?_
 refine opG rfl (aop_box 51 rfl rfl rfl rfl rfl rfl rfl ?_)
 refine opG rfl (aop_move (av := .b false) (.inr rfl) rfl rfl rfl ?_)
 refine op0 ?_
 refine seqR ?_
 refine opG rfl (aop_fieldAddr (av := .pt 51 0) (av' := .pt 51 0) rfl rfl rfl ft58_0 sz3 rfl rfl rfl ?_)
 refine opG rfl (aop_ld (av := .i x) rfl rfl rfl ag3 rfl rfl ?_)
 refine opG rfl (aop_ld (av := .i n) rfl rfl rfl ag3 rfl rfl ?_)
 refine opG rfl (aop_binI (u := (.bool (x == n))) rfl rfl rfl rfl rfl trivial rfl ?_)
 refine opG rfl (aop_move (av := .b (x == n)) (.inr rfl) rfl rfl rfl ?_)
 refine op0 ?_
 refine rs_ (upd none_ 3 (.b (x == n))) (updO noOb 51 (.live ⟨[.i x, .one, .one, .one], 58, 1⟩)) (lu rfl ln) rfl ?_
 refine awp_ret ?_
 exact fret (av := .v (.bool (x == n))) rfl rfl (by rfl)
theorem ixPt (pts : List Pnt) (n : Int) (hp : pts.length ≤ 65536) : Fn Try.prog 57 [.ro pts.length (enc ePnt pts), .fn 58 [.rp [.v (.int .i64 n)]]] (.v (.int .i64 (pointI pts n))) := by
 refine fnE_of_body (N := 19) Try.func57 rfl rfl (resOf1 rfl) (by simp) (fun w0 X hL_ => ?_)
 refine seqR ?_
 refine opG rfl (aop_move (av := .i 0) (.inr rfl) rfl rfl rfl ?_)
 refine op0 ?_
 refine awp_seq ?_
 refine seqR ?_
 refine opG rfl (aop_move (av := .q ePnt pts) (.inl rfl) rfl rfl rfl ?_)
 refine opG rfl (aop_len rfl rfl rfl rfl ut35 (len_ro rfl) ?_)
 refine opG rfl (aop_move (av := .i 0) (.inl rfl) rfl rfl rfl ?_)
 refine op0 ?_
 refine rs_ (upd (upd (upd (upd (upd none_ 0 (.q ePnt pts)) 1 (.fn 58 [.rp [.i n]])) 4 (.i 0)) 7 (.i (pts.length : Int))) 8 (.i 0)) noOb (lu rfl (lu rfl (lu rfl (lu rfl (lu rfl ln))))) rfl ?_
 refine awp_block ?_
 refine awp_countI (fun k => ⟨(upd (upd (upd (upd (upd none_ 0 (.q ePnt pts)) 1 (.fn 58 [.rp [.i n]])) 4 (.i 0)) 7 (.i (pts.length : Int))) 8 (.i (k : Int))), noOb⟩) (fun k => (pts.take k).any (fun p => decide (p.node = n)) = false) (pts.length) ?_ (by simp) (fun k hk_k hinv => ?_)
 ·skip
  exact imp_ler [] (ler0 (sS rfl (sS rfl (sS rfl (sS rfl (sS rfl sr_none)))))) (keep_of rfl)
 refine seqR ?_
 refine opG rfl (aop_binI (u := (.bool (decide ((k : Int) < (pts.length : Int))))) rfl rfl rfl rfl rfl trivial rfl ?_)
 refine op0 ?_
 refine awp_seq ?_
 refine awp_cond (decide ((k : Int) < (pts.length : Int))) rfl rfl (fun hc0 => ?_) (fun hc0 => ?_)
 ·skip
  have hf1 := of_decide_eq_true hc0
  refine awp_skip ?_
  refine awp_seq ?_
  refine awp_block ?_
  refine seqR ?_
  refine opG rfl (aop_move (av := .i (k : Int)) (.inl rfl) rfl rfl rfl ?_)
  refine opG rfl (aop_move (av := .i (k : Int)) (.inr rfl) rfl rfl rfl ?_)
  refine op0 ?_
  refine seqR ?_
  refine opG rfl (aop_move (av := .fn 58 [.rp [.i n]]) (.inl rfl) rfl rfl rfl ?_)
  refine opG rfl (aop_move (av := .q ePnt pts) (.inl rfl) rfl rfl rfl ?_)
  refine opG rfl (aop_move (av := .i (k : Int)) (.inl rfl) rfl rfl rfl ?_)
  refine opG rfl (aop_ixE dP rfl rfl rfl ut35 sz58 rfl rfl (fun _ => rfl) rfl (by first | omega | (simp; done) | decide | (simp at *; omega)) ?_)
  refine opG rfl (aop_ldB (cells' := [.i ((pts.getD k dP).node), .i ((pts.getD k dP).stem), .i ((pts.getD k dP).left), .i ((pts.getD k dP).right)]) rfl rfl rfl ag58 sz58 rfl rfl rfl rfl ?_)
  refine opG rfl (callW_ (g_Point1 ((pts.getD k dP).node) n) rfl rfl rfl rfl rfl bd58 (lends_cons (lend_agg (lends_cons (lend_n (av := .i ((pts.getD k dP).node))) (lends_cons (.one _ rfl) (lends_cons (.one _ rfl) (lends_cons (.one _ rfl) lends_nil))))) (lends_cons (lend_n (av := .rp [.i n])) lends_nil)) ?_)
  refine op0 ?_
  refine rs_ (upd (upd (upd (upd (upd (upd (upd none_ 0 (.q ePnt pts)) 1 (.fn 58 [.rp [.i n]])) 4 (.i 0)) 5 (.i (k : Int))) 7 (.i (pts.length : Int))) 8 (.i (k : Int))) 16 (.b (decide (((pts.getD k dP).node) = n)))) noOb (lu rfl (lu rfl (lu rfl (lu rfl (lu rfl (lu rfl (lu rfl ln))))))) rfl ?_
  refine awp_cond (decide (((pts.getD k dP).node) = n)) rfl rfl (fun hc1 => ?_) (fun hc1 => ?_)
  ·skip
   refine seqR ?_
   refine opG rfl (aop_move (av := .i (k : Int)) (.inl rfl) rfl rfl rfl ?_)
   refine opG rfl (aop_move (av := .i (k : Int)) (.inr rfl) rfl rfl rfl ?_)
   refine op0 ?_
   refine awp_ret ?_
   exact fret (av := .v (.int .i64 (k : Int))) rfl rfl (by unfold pointI; rw [idxB_stop dP (by omega) hinv hc1] <;> rfl)
  ·skip
   refine awp_skip ?_
   refine regR ?_
   refine opG rfl (aop_binI (u := (.int .i64 ((k + 1 : Nat) : Int))) rfl rfl rfl rfl rfl trivial (addN (by omega)) ?_)
   refine opG rfl (aop_move (av := .i ((k + 1 : Nat) : Int)) (.inl rfl) rfl rfl rfl ?_)
   refine op0 ?_
   show _ ∧ _
   refine ⟨by omega, (any_step dP (by omega) hinv hc1), ?_⟩
   exact imp_ler [] (ler0 (sS rfl (sS rfl (sS rfl (sS rfl (sS rfl sr_none)))))) (keep_of rfl)
 ·skip
  have hf2 := of_decide_eq_false hc0
  refine awp_exit ?_
  refine seqR ?_
  refine opG rfl (aop_move (av := .i (-1)) (.inr rfl) rfl rfl rfl ?_)
  refine op0 ?_
  refine awp_ret ?_
  exact fret (av := .v (.int .i64 (-1))) rfl rfl (by unfold pointI; rw [idxB_end (by omega) hinv] <;> rfl)
theorem g_Point (pts : List Pnt) (n : Int) (hp : pts.length ≤ 65536) : Fn Try.prog 45 [.rp [.one, .one, .one, .ro pts.length (enc ePnt pts), .one, .one, .one, .one, .one, .one], .v (.int .i64 n)] (.v (.int .i64 (pointI pts n))) := by
 refine fnE_of_body (N := 14) Try.func45 rfl rfl (resOf1 rfl) (by simp) (fun w0 X hL_ => ?_)
 refine seqR ?_
 refine opG rfl (aop_box 51 rfl rfl rfl rfl rfl rfl rfl ?_)
 refine opG rfl (aop_move (av := .i 0) (.inr rfl) rfl rfl rfl ?_)
 refine op0 ?_
 refine awp_seq ?_
 refine seqR ?_
 refine opG rfl (aop_move (av := .rp [.one, .one, .one, .q ePnt pts, .one, .one, .one, .one, .one, .one]) (.inl rfl) rfl rfl rfl ?_)
 refine opG rfl (aop_ptNil rfl rfl rfl ut44 rfl rfl rfl (.inl ⟨rfl, rfl⟩) ?_)
 refine op0 ?_
 refine rs_ (upd (upd (upd (upd none_ 0 (.rp [.one, .one, .one, .q ePnt pts, .one, .one, .one, .one, .one, .one])) 3 (.pt 51 0)) 4 (.i 0)) 6 (.b false)) (updO noOb 51 (.live ⟨[.i n], 3, 1⟩)) (lu rfl (lu rfl (lu rfl (lu rfl ln)))) rfl ?_
 refine awp_cond false rfl rfl (fun h => by cases h) (fun _ => ?_)
 refine awp_skip ?_
 refine seqR ?_
 refine opG rfl (aop_move (av := .rp [.one, .one, .one, .q ePnt pts, .one, .one, .one, .one, .one, .one]) (.inl rfl) rfl rfl rfl ?_)
 refine opG rfl (aop_nilCheck rfl rfl rfl rfl rfl ?_)
 refine opG rfl (aop_fieldAddr (av := .rp [.one, .one, .one, .q ePnt pts, .one, .one, .one, .one, .one, .one]) (av' := .rp [.one, .one, .one, .q ePnt pts, .one, .one, .one, .one, .one, .one]) rfl rfl rfl ft67_0 sz37 rfl rfl rfl ?_)
 refine opG rfl (aop_fieldAddr (av := .rp [.one, .one, .one, .q ePnt pts, .one, .one, .one, .one, .one, .one]) (av' := .rp [.q ePnt pts, .one, .one, .one, .one, .one, .one]) rfl rfl rfl ft37_3 sz35 rfl rfl rfl ?_)
 refine opG rfl (aop_ld (av := .q ePnt pts) rfl rfl rfl ag35 rfl rfl ?_)
 refine opG rfl (aop_makeFunc (caps := [.tmp 3]) rfl rfl rfl rfl ?_)
 refine opG rfl (callL_ (ixPt pts n hp) rfl rfl rfl rfl rfl bd57 (lends_cons (lend_n (av := .q ePnt pts)) (lends_cons (lend_fn (lends_cons (lend_pt rfl (lends_cons (lend_n (av := .i n)) lends_nil)) lends_nil)) lends_nil)) ?_)
 refine opG rfl (aop_move (av := .i (pointI pts n)) (.inr rfl) rfl rfl rfl ?_)
 refine op0 ?_
 refine rs_ (upd none_ 4 (.i (pointI pts n))) (updO noOb 51 (.live ⟨[.i n], 3, 1⟩)) (lu rfl ln) rfl ?_
 refine awp_ret ?_
 exact fret (av := .v (.int .i64 (pointI pts n))) rfl rfl rfl
theorem g_Ends (secs : List Sec) (n : Int) (hs : secs.length ≤ 65536) : FnO Try.prog 53 [.rp [.one, .ro secs.length (enc eSec secs), .one, .one, .one, .one, .one, .one, .one, .one], .v (.int .i64 n)] (.sl 0 0 ((endsL secs n).length)) [⟨(enc eEn (endsL secs n)), 51, 2⟩] := by
 refine fnE_of_body (N := 41) Try.func53 rfl rfl (resOf1 rfl) (by simp) (fun w0 X hL_ => ?_)
 refine seqR ?_
 refine opG rfl (aop_move (av := .v (.slice none 0 0)) (.inr rfl) rfl rfl rfl ?_)
 refine op0 ?_
 refine seqR ?_
 refine opG rfl (aop_move (av := .v (.slice none 0 0)) (.inr rfl) rfl rfl rfl ?_)
 refine op0 ?_
 refine seqR ?_
 refine opG rfl (aop_move (av := .i 0) (.inr rfl) rfl rfl rfl ?_)
 refine op0 ?_
 refine awp_block ?_
 refine awp_countI (fun k => ⟨(upd (upd (upd (upd (upd none_ 0 (.rp [.one, .q eSec secs, .one, .one, .one, .one, .one, .one, .one, .one])) 1 (.i n)) 4 (.v (.slice none 0 0))) 5 (.sl 1 0 ((endsK secs n k).length))) 6 (.i (k : Int))), (updO noOb 1 (.live ⟨(enc eEn (endsK secs n k)), 51, 2⟩))⟩) (fun k => k ≤ secs.length) (secs.length + 1) ?_ (Nat.zero_le _) (fun k hk_k hinv => ?_)
 ·skip
  refine (imp_adopt 5 51 51 2 rfl rfl).trans ?_
  exact imp_ler [(51, 1)] (lerI 51 1 (o := ⟨[], 51, 2⟩) rfl rfl (sS rfl (sM rfl (sS rfl (sS rfl (sS rfl sr_none)))))) (keep_of rfl)
 have hle := endsK_len secs n k
 refine awp_seq ?_
 refine awp_block ?_
 refine seqR ?_
 refine opG rfl (aop_move (av := .rp [.one, .q eSec secs, .one, .one, .one, .one, .one, .one, .one, .one]) (.inl rfl) rfl rfl rfl ?_)
 refine opG rfl (aop_move (av := .i (k : Int)) (.inl rfl) rfl rfl rfl ?_)
 refine opG rfl (call_ (g_section secs (k : Int) (by first | omega | (simp; done) | decide | (simp at *; omega))) rfl rfl rfl rfl rfl bd51 rfl ?_)
 refine opG rfl (aop_move (av := .tup [.agg [.i ((secV secs (k : Int)).len), .i ((secV secs (k : Int)).a), .i ((secV secs (k : Int)).b)], .b (!noSec secs (k : Int))]) (.inl rfl) rfl rfl rfl ?_)
 refine opG rfl (aop_extract rfl rfl rfl rfl rfl ?_)
 refine opG rfl (aop_extract rfl rfl rfl rfl rfl ?_)
 refine opG rfl (aop_alloc 52 rfl rfl rfl rfl ze74 rfl ?_)
 refine opG rfl (aop_store rfl rfl rfl sz74 rfl rfl rfl rfl rfl (Nat.le_of_ble_eq_true rfl) rfl rfl ?_)
 refine opG rfl (aop_move (av := .b (!noSec secs (k : Int))) (.inr rfl) rfl rfl rfl ?_)
 refine op0 ?_
 refine rs_ (upd (upd (upd (upd (upd (upd (upd none_ 0 (.rp [.one, .q eSec secs, .one, .one, .one, .one, .one, .one, .one, .one])) 1 (.i n)) 4 (.v (.slice none 0 0))) 5 (.sl 1 0 ((endsK secs n k).length))) 6 (.i (k : Int))) 7 (.pt 52 0)) 8 (.b (!noSec secs (k : Int)))) (updO (updO (updO noOb 1 (.live ⟨(enc eEn (endsK secs n k)), 51, 2⟩)) 52 (.live ⟨[.i 0, .i 0, .i 0], 74, 1⟩)) 52 (.live ⟨[.i ((secV secs (k : Int)).len), .i ((secV secs (k : Int)).a), .i ((secV secs (k : Int)).b)], 74, 1⟩)) (lu rfl (lu rfl (lu rfl (lu rfl (lu rfl (lu rfl (lu rfl ln))))))) rfl ?_
 refine awp_seq ?_
 refine seqR ?_
 refine opG rfl (aop_move (av := .b (!noSec secs (k : Int))) (.inl rfl) rfl rfl rfl ?_)
 refine opG rfl (aop_not rfl rfl rfl rfl ?_)
 refine op0 ?_
 refine awp_cond (!(!noSec secs (k : Int))) rfl rfl (fun hc0 => ?_) (fun hc0 => ?_)
 ·skip
  have hf1 := not_t hc0
  have hkn : k = secs.length := by rw [noSec_nat] at hc0; simp at hc0; omega
  refine seqR ?_
  refine opG rfl (aop_move (av := .sl 1 0 ((endsK secs n k).length)) (.inl rfl) rfl rfl rfl ?_)
  refine opG rfl (aop_move (av := .sl 1 0 ((endsK secs n k).length)) (.inr rfl) rfl rfl rfl ?_)
  refine op0 ?_
  refine rs_ (upd (upd (upd (upd (upd (upd (upd none_ 0 (.rp [.one, .q eSec secs, .one, .one, .one, .one, .one, .one, .one, .one])) 1 (.i n)) 4 (.sl 1 0 ((endsK secs n k).length))) 5 (.sl 1 0 ((endsK secs n k).length))) 6 (.i (k : Int))) 7 (.pt 52 0)) 8 (.b (!noSec secs (k : Int)))) (updO (updO (updO noOb 1 (.live ⟨(enc eEn (endsK secs n k)), 51, 2⟩)) 52 (.live ⟨[.i 0, .i 0, .i 0], 74, 1⟩)) 52 (.live ⟨[.i ((secV secs (k : Int)).len), .i ((secV secs (k : Int)).a), .i ((secV secs (k : Int)).b)], 74, 1⟩)) (lu rfl (lu rfl (lu rfl (lu rfl (lu rfl (lu rfl (lu rfl ln))))))) rfl ?_
  refine awp_ret ?_
  exact fretO 1 rfl rfl rfl (by rw [hkn]; rfl) (by rw [hkn]; rfl)
 ·skip
  have hf2 := not_f hc0
  have hkl : k < secs.length := by rw [noSec_nat] at hc0; simp at hc0; omega
  have hsv := secV_nat (secs := secs) hkl
  refine awp_skip ?_
  refine seqR ?_
  refine opG rfl (aop_fieldAddr (av := .pt 52 0) (av' := .pt 52 1) rfl rfl rfl ft74_1 sz3 rfl rfl rfl ?_)
  refine opG rfl (aop_ld (av := .i ((secV secs (k : Int)).a)) rfl rfl rfl ag3 rfl rfl ?_)
  refine opG rfl (aop_fieldAddr (av := .pt 52 0) (av' := .pt 52 2) rfl rfl rfl ft74_2 sz3 rfl rfl rfl ?_)
  refine opG rfl (aop_ld (av := .i ((secV secs (k : Int)).b)) rfl rfl rfl ag3 rfl rfl ?_)
  refine opG rfl (aop_build rfl rfl rfl pl80 rfl ?_)
  refine opG rfl (aop_move (av := .i 0) (.inl rfl) rfl rfl rfl ?_)
  refine op0 ?_
  refine rs_ (upd (upd (upd (upd (upd (upd (upd (upd (upd none_ 0 (.rp [.one, .q eSec secs, .one, .one, .one, .one, .one, .one, .one, .one])) 1 (.i n)) 4 (.v (.slice none 0 0))) 5 (.sl 1 0 ((endsK secs n k).length))) 6 (.i (k : Int))) 7 (.pt 52 0)) 8 (.b (!noSec secs (k : Int)))) 26 (.agg [.i ((secV secs (k : Int)).a), .i ((secV secs (k : Int)).b)])) 27 (.i 0)) (updO (updO (updO noOb 1 (.live ⟨(enc eEn (endsK secs n k)), 51, 2⟩)) 52 (.live ⟨[.i 0, .i 0, .i 0], 74, 1⟩)) 52 (.live ⟨[.i ((secV secs (k : Int)).len), .i ((secV secs (k : Int)).a), .i ((secV secs (k : Int)).b)], 74, 1⟩)) (lu rfl (lu rfl (lu rfl (lu rfl (lu rfl (lu rfl (lu rfl (lu rfl (lu rfl ln))))))))) rfl ?_
  refine awp_block ?_
  refine awp_countI (fun j => ⟨(upd (upd (upd (upd (upd (upd (upd (upd none_ 0 (.rp [.one, .q eSec secs, .one, .one, .one, .one, .one, .one, .one, .one])) 1 (.i n)) 4 (.v (.slice none 0 0))) 5 (.sl 1 0 ((endsJ secs n k j).length))) 6 (.i (k : Int))) 8 (.b (!noSec secs (k : Int)))) 26 (.agg [.i ((secV secs (k : Int)).a), .i ((secV secs (k : Int)).b)])) 27 (.i (j : Int))), (updO noOb 1 (.live ⟨(enc eEn (endsJ secs n k j)), 51, 2⟩))⟩) (fun j => j ≤ 2) (2) ?_ (by decide) (fun j hk_j hinv => ?_)
  ·skip
   have hz := endsJ_zero secs n k
   exact imp_ler [(1, 1)] (lerI 1 1 rfl (by exact congrArg (fun l_ => LObj.mk (enc eEn l_) 51 2) hz) (sS rfl (sS rfl (sS rfl (sS rfl (sM (by exact congrArg (AV.sl 1 0) (congrArg List.length hz.symm)) (sS rfl (sS rfl (sS rfl sr_none))))))))) (keep_of rfl)
  have hlj := endsJ_len secs n k j
  refine seqR ?_
  refine opG rfl (aop_binI (u := (.bool (decide ((j : Int) < 2)))) rfl rfl rfl rfl rfl trivial rfl ?_)
  refine op0 ?_
  refine awp_seq ?_
  refine awp_cond (decide ((j : Int) < 2)) rfl rfl (fun hc1 => ?_) (fun hc1 => ?_)
  ·skip
   have hf3 := of_decide_eq_true hc1
   have hj2 : j < 2 := by omega
   refine awp_skip ?_
   refine awp_seq ?_
   refine awp_block ?_
   refine seqR ?_
   refine opG rfl (aop_move (av := .i (j : Int)) (.inl rfl) rfl rfl rfl ?_)
   refine opG rfl (aop_index (cells := [.i ((secV secs (k : Int)).a), .i ((secV secs (k : Int)).b)]) (i := (j : Int)) (av := .i (endAt secs k j)) rfl rfl rfl ut80 ag3 sz3 rfl rfl (by omega) (by omega) (pair_at hkl hj2) ?_)
   refine opG rfl (aop_move (av := .i (j : Int)) (.inr rfl) rfl rfl rfl ?_)
   refine opG rfl (aop_move (av := .i (endAt secs k j)) (.inr rfl) rfl rfl rfl ?_)
   refine op0 ?_
   refine rs_ (upd (upd (upd (upd (upd (upd (upd (upd (upd (upd none_ 0 (.rp [.one, .q eSec secs, .one, .one, .one, .one, .one, .one, .one, .one])) 1 (.i n)) 4 (.v (.slice none 0 0))) 5 (.sl 1 0 ((endsJ secs n k j).length))) 6 (.i (k : Int))) 8 (.b (!noSec secs (k : Int)))) 9 (.i (j : Int))) 10 (.i (endAt secs k j))) 26 (.agg [.i ((secV secs (k : Int)).a), .i ((secV secs (k : Int)).b)])) 27 (.i (j : Int))) (updO noOb 1 (.live ⟨(enc eEn (endsJ secs n k j)), 51, 2⟩)) (lu rfl (lu rfl (lu rfl (lu rfl (lu rfl (lu rfl (lu rfl (lu rfl (lu rfl (lu rfl ln)))))))))) rfl ?_
   refine seqR ?_
   refine opG rfl (aop_move (av := .i (endAt secs k j)) (.inl rfl) rfl rfl rfl ?_)
   refine opG rfl (aop_move (av := .i n) (.inl rfl) rfl rfl rfl ?_)
   refine opG rfl (aop_binI (u := (.bool ((endAt secs k j) == n))) rfl rfl rfl rfl rfl trivial rfl ?_)
   refine op0 ?_
   refine awp_cond ((endAt secs k j) == n) rfl rfl (fun hc2 => ?_) (fun hc2 => ?_)
   ·skip
    have hf4 := (beq_iff_eq).1 hc2
    refine regR ?_
    refine opG rfl (aop_move (av := .sl 1 0 ((endsJ secs n k j).length)) (.inl rfl) rfl rfl rfl ?_)
    refine opG rfl (aop_move (av := .i (k : Int)) (.inl rfl) rfl rfl rfl ?_)
    refine opG rfl (aop_move (av := .i (j : Int)) (.inl rfl) rfl rfl rfl ?_)
    refine opG rfl (aop_build rfl rfl rfl pl51 rfl ?_)
    refine opG rfl (aop_lit rfl rfl rfl ut69 iz51 (by decide) (by decide) rfl rfl ?_)
    refine opG rfl (aop_app1 (f := eEn) (l := endsJ secs n k j) 53 (⟨(k : Int), (j : Int)⟩ : En) rfl rfl rfl rfl ut69 in51 rfl (by decide) rfl rfl rfl rfl rfl rfl (fun _ => rfl) rfl rfl (by first | omega | (simp; done) | decide | (simp at *; omega)) (by first | omega | (simp; done) | decide | (simp at *; omega)) rfl ?_)
    refine opG rfl (aop_move (av := .sl 53 0 (((endsJ secs n k j) ++ [(⟨(k : Int), (j : Int)⟩ : En)]).length)) (.inr rfl) rfl rfl rfl ?_)
    refine op0 ?_
    refine rs_ (upd (upd (upd (upd (upd (upd (upd (upd (upd (upd none_ 0 (.rp [.one, .q eSec secs, .one, .one, .one, .one, .one, .one, .one, .one])) 1 (.i n)) 4 (.v (.slice none 0 0))) 5 (.sl 53 0 (((endsJ secs n k j) ++ [(⟨(k : Int), (j : Int)⟩ : En)]).length))) 6 (.i (k : Int))) 8 (.b (!noSec secs (k : Int)))) 9 (.i (j : Int))) 10 (.i (endAt secs k j))) 26 (.agg [.i ((secV secs (k : Int)).a), .i ((secV secs (k : Int)).b)])) 27 (.i (j : Int))) (updO (updO (updO noOb 1 (.live ⟨(enc eEn (endsJ secs n k j)), 51, 2⟩)) 1 .dead) 53 (.live ⟨(enc eEn ((endsJ secs n k j) ++ [(⟨(k : Int), (j : Int)⟩ : En)])), 51, 2⟩)) (lu rfl (lu rfl (lu rfl (lu rfl (lu rfl (lu rfl (lu rfl (lu rfl (lu rfl (lu rfl ln)))))))))) rfl ?_
    refine regR ?_
    refine opG rfl (aop_binI (u := (.int .i64 ((j + 1 : Nat) : Int))) rfl rfl rfl rfl rfl trivial (addN (by omega)) ?_)
    refine opG rfl (aop_move (av := .i ((j + 1 : Nat) : Int)) (.inl rfl) rfl rfl rfl ?_)
    refine op0 ?_
    show _ ∧ _
    have hs_ := endsJ_on hj2 (by simpa using hc2)
    refine ⟨by omega, (by omega), ?_⟩
    exact imp_ler [(53, 1)] (lerI 53 1 rfl (by exact congrArg (fun l_ => LObj.mk (enc eEn l_) 51 2) hs_) (sS rfl (sS rfl (sS rfl (sS rfl (sM (by exact congrArg (AV.sl 1 0) (congrArg List.length hs_.symm)) (sS rfl (sS rfl (sS rfl sr_none))))))))) (keep_of rfl)
   ·skip
    have hf5 := (beq_eq_false_iff_ne).1 hc2
    refine awp_skip ?_
    refine regR ?_
    refine opG rfl (aop_binI (u := (.int .i64 ((j + 1 : Nat) : Int))) rfl rfl rfl rfl rfl trivial (addN (by omega)) ?_)
    refine opG rfl (aop_move (av := .i ((j + 1 : Nat) : Int)) (.inl rfl) rfl rfl rfl ?_)
    refine op0 ?_
    show _ ∧ _
    have hs_ := endsJ_off hj2 (by simpa using hc2)
    refine ⟨by omega, (by omega), ?_⟩
    exact imp_ler [(1, 1)] (lerI 1 1 rfl (by exact congrArg (fun l_ => LObj.mk (enc eEn l_) 51 2) hs_) (sS rfl (sS rfl (sS rfl (sS rfl (sM (by exact congrArg (AV.sl 1 0) (congrArg List.length hs_.symm)) (sS rfl (sS rfl (sS rfl sr_none))))))))) (keep_of rfl)
  ·skip
   have hf6 := of_decide_eq_false hc1
   refine awp_exit ?_
   refine regR ?_
   refine opG rfl (aop_move (av := .i (k : Int)) (.inl rfl) rfl rfl rfl ?_)
   refine opG rfl (aop_binI (u := (.int .i64 ((k + 1 : Nat) : Int))) rfl rfl rfl rfl rfl trivial (addN (by omega)) ?_)
   refine opG rfl (aop_move (av := .i ((k + 1 : Nat) : Int)) (.inr rfl) rfl rfl rfl ?_)
   refine op0 ?_
   show _ ∧ _
   have hs_ : endsJ secs n k j = endsK secs n (k + 1) := by rw [show j = 2 by omega]; exact endsJ_two secs n k
   refine ⟨by omega, (by omega), ?_⟩
   exact imp_ler [(1, 1)] (lerI 1 1 rfl (by exact congrArg (fun l_ => LObj.mk (enc eEn l_) 51 2) hs_.symm) (sS rfl (sM (by exact congrArg (AV.sl 1 0) (congrArg List.length hs_)) (sS rfl (sS rfl (sS rfl sr_none)))))) (keep_of rfl)
theorem g_at (secs : List Sec) (s n : Int) (hs : secs.length ≤ 65536) : Fn Try.prog 56 [.rp [.one, .ro secs.length (enc eSec secs), .one, .one, .one, .one, .one, .one, .one, .one], .v (.int .i64 s), .v (.int .i64 n)] (.ro ((oneE secs s n).length) (enc eEn (oneE secs s n))) := by
 refine fnE_of_body (N := 24) Try.func56 rfl rfl (resOf1 rfl) (by simp) (fun w0 X hL_ => ?_)
 refine seqR ?_
 refine opG rfl (aop_move (av := .v (.slice none 0 0)) (.inr rfl) rfl rfl rfl ?_)
 refine op0 ?_
 refine awp_seq ?_
 refine seqR ?_
 refine opG rfl (aop_move (av := .rp [.one, .q eSec secs, .one, .one, .one, .one, .one, .one, .one, .one]) (.inl rfl) rfl rfl rfl ?_)
 refine opG rfl (aop_move (av := .i n) (.inl rfl) rfl rfl rfl ?_)
 refine opG rfl (callO_ 51 (g_Ends secs n (by first | omega | (simp; done) | decide | (simp at *; omega))) rfl rfl rfl rfl rfl bd53 (lends_cons (lend_n (av := .rp [.one, .q eSec secs, .one, .one, .one, .one, .one, .one, .one, .one])) (lends_cons (lend_n (av := .i n)) lends_nil)) (.sl _ _ _ trivial) (news1 news0) (free1 rfl) rfl rfl ?_)
 refine opG rfl (aop_len rfl rfl rfl rfl ut69 (len_sl rfl) ?_)
 refine opG rfl (aop_move (av := .i 0) (.inl rfl) rfl rfl rfl ?_)
 refine op0 ?_
 refine rs_ (upd (upd (upd (upd (upd none_ 1 (.i s)) 6 (.v (.slice none 0 0))) 11 (.sl 51 0 ((endsL secs n).length))) 12 (.i ((endsL secs n).length : Int))) 13 (.i 0)) (updO noOb 51 (.live ⟨(enc eEn (endsL secs n)), 51, 2⟩)) (lu rfl (lu rfl (lu rfl (lu rfl (lu rfl ln))))) rfl ?_
 refine awp_block ?_
 refine awp_countI (fun k => ⟨(upd (upd (upd (upd (upd none_ 1 (.i s)) 6 (.v (.slice none 0 0))) 11 (.sl 1 0 ((endsL secs n).length))) 12 (.i ((endsL secs n).length : Int))) 13 (.i (k : Int))), (updO noOb 1 (.live ⟨(enc eEn (endsL secs n)), 51, 2⟩))⟩) (fun k => ((endsL secs n).take k).any (fun e => decide (e.sec = s)) = false) ((endsL secs n).length) ?_ (by simp) (fun k hk_k hinv => ?_)
 ·skip
  exact imp_ler [(51, 1)] (lerI 51 1 rfl rfl (sS rfl (sS rfl (sM rfl (sS rfl (sS rfl sr_none)))))) (keep_of rfl)
 refine seqR ?_
 refine opG rfl (aop_binI (u := (.bool (decide ((k : Int) < ((endsL secs n).length : Int))))) rfl rfl rfl rfl rfl trivial rfl ?_)
 refine op0 ?_
 refine awp_seq ?_
 refine awp_cond (decide ((k : Int) < ((endsL secs n).length : Int))) rfl rfl (fun hc0 => ?_) (fun hc0 => ?_)
 ·skip
  have hf1 := of_decide_eq_true hc0
  have hle := endsL_len secs n
  refine awp_skip ?_
  refine awp_seq ?_
  refine awp_block ?_
  refine seqR ?_
  refine opG rfl (aop_ixO (k := k) rfl rfl rfl ut69 sz51 rfl rfl (by first | omega | (simp; done) | decide | (simp at *; omega)) ?_)
  refine opG rfl (aop_ldOA (f := eEn) dE rfl rfl rfl ag51 sz51 rfl rfl rfl (fun _ => rfl) (by first | omega | (simp; done) | decide | (simp at *; omega)) rfl ?_)
  refine opG rfl (aop_alloc 52 rfl rfl rfl rfl ze51 rfl ?_)
  refine opG rfl (aop_store rfl rfl rfl sz51 rfl rfl rfl rfl rfl (Nat.le_of_ble_eq_true rfl) rfl rfl ?_)
  refine op0 ?_
  refine rs_ (upd (upd (upd (upd (upd (upd none_ 1 (.i s)) 6 (.v (.slice none 0 0))) 8 (.pt 52 0)) 11 (.sl 1 0 ((endsL secs n).length))) 12 (.i ((endsL secs n).length : Int))) 13 (.i (k : Int))) (updO (updO (updO noOb 1 (.live ⟨(enc eEn (endsL secs n)), 51, 2⟩)) 52 (.live ⟨[.i 0, .i 0], 51, 1⟩)) 52 (.live ⟨[.i (((endsL secs n).getD k dE).sec), .i (((endsL secs n).getD k dE).en)], 51, 1⟩)) (lu rfl (lu rfl (lu rfl (lu rfl (lu rfl (lu rfl ln)))))) rfl ?_
  refine seqR ?_
  refine opG rfl (aop_fieldAddr (av := .pt 52 0) (av' := .pt 52 0) rfl rfl rfl ft51_0 sz3 rfl rfl rfl ?_)
  refine opG rfl (aop_ld (av := .i (((endsL secs n).getD k dE).sec)) rfl rfl rfl ag3 rfl rfl ?_)
  refine opG rfl (aop_move (av := .i s) (.inl rfl) rfl rfl rfl ?_)
  refine opG rfl (aop_binI (u := (.bool ((((endsL secs n).getD k dE).sec) == s))) rfl rfl rfl rfl rfl trivial rfl ?_)
  refine op0 ?_
  refine rs_ (upd (upd (upd (upd (upd (upd (upd none_ 1 (.i s)) 6 (.v (.slice none 0 0))) 8 (.pt 52 0)) 11 (.sl 1 0 ((endsL secs n).length))) 12 (.i ((endsL secs n).length : Int))) 13 (.i (k : Int))) 20 (.b ((((endsL secs n).getD k dE).sec) == s))) (updO (updO (updO noOb 1 (.live ⟨(enc eEn (endsL secs n)), 51, 2⟩)) 52 (.live ⟨[.i 0, .i 0], 51, 1⟩)) 52 (.live ⟨[.i (((endsL secs n).getD k dE).sec), .i (((endsL secs n).getD k dE).en)], 51, 1⟩)) (lu rfl (lu rfl (lu rfl (lu rfl (lu rfl (lu rfl (lu rfl ln))))))) rfl ?_
  refine awp_cond ((((endsL secs n).getD k dE).sec) == s) rfl rfl (fun hc1 => ?_) (fun hc1 => ?_)
  ·skip
   have hf2 := (beq_iff_eq).1 hc1
   refine seqR ?_
   refine opG rfl (aop_ldB (cells' := [.i (((endsL secs n).getD k dE).sec), .i (((endsL secs n).getD k dE).en)]) rfl rfl rfl ag51 sz51 rfl rfl rfl rfl ?_)
   refine opG rfl (aop_lit rfl rfl rfl ut69 iz51 (by decide) (by decide) rfl rfl ?_)
   refine opG rfl (aop_move (av := .ro 1 [.i (((endsL secs n).getD k dE).sec), .i (((endsL secs n).getD k dE).en)]) (.inr rfl) rfl rfl rfl ?_)
   refine op0 ?_
   refine awp_ret ?_
   exact fret (av := .ro 1 [.v (.int .i64 (((endsL secs n).getD k dE).sec)), .v (.int .i64 (((endsL secs n).getD k dE).en))]) rfl rfl (by unfold oneE; rw [firstE_stop (by omega) hinv (by simpa using hc1)] <;> rfl)
  ·skip
   have hf3 := (beq_eq_false_iff_ne).1 hc1
   refine awp_skip ?_
   refine regR ?_
   refine opG rfl (aop_binI (u := (.int .i64 ((k + 1 : Nat) : Int))) rfl rfl rfl rfl rfl trivial (addN (by omega)) ?_)
   refine opG rfl (aop_move (av := .i ((k + 1 : Nat) : Int)) (.inl rfl) rfl rfl rfl ?_)
   refine op0 ?_
   show _ ∧ _
   refine ⟨by omega, (any_step dE (by omega) hinv (by simpa using hc1)), ?_⟩
   exact imp_ler [(1, 1)] (lerI 1 1 rfl rfl (sS rfl (sS rfl (sM rfl (sS rfl (sS rfl sr_none)))))) (keep_of rfl)
 ·skip
  have hf4 := of_decide_eq_false hc0
  refine awp_exit ?_
  refine seqR ?_
  refine opG rfl (aop_move (av := .v (.slice none 0 0)) (.inr rfl) rfl rfl rfl ?_)
  refine op0 ?_
  refine awp_imp _ (imp_frozen rfl (fun _ h => h) (lee_lend 6 (.ro 0 []) .nil lee_lend0)) ?_
  refine awp_ret ?_
  exact fret (av := .ro 0 []) rfl rfl (by unfold oneE; rw [firstE_none (by omega) hinv] <;> rfl)
theorem g_Around1 (x y s e : Int)  : Fn Try.prog 54 [.agg [.v (.int .i64 x), .v (.int .i64 y)], .rp [.v (.int .i64 s), .v (.int .i64 e)]] (.v (.bool (decide (x = s ∧ y = e)))) := by
 refine fnE_of_body (N := 7) Try.func54 rfl rfl (resOf1 rfl) (by simp) (fun w0 X hL_ => ?_)
 refine seqR ?_
 refine opG rfl (aop_box 51 rfl rfl rfl rfl rfl rfl rfl ?_)
 refine opG rfl (aop_move (av := .b false) (.inr rfl) rfl rfl rfl ?_)
 refine op0 ?_
 refine seqR ?_
 refine opG rfl (aop_ldB (cells' := [.i x, .i y]) rfl rfl rfl ag51 sz51 rfl rfl rfl rfl ?_)
 refine opG rfl (aop_ldB (cells' := [.i s, .i e]) rfl rfl rfl ag51 sz51 rfl rfl rfl rfl ?_)
 refine opG rfl (aop_eqS2 (r := (decide (x = s ∧ y = e))) rfl rfl rfl rfl rfl es51 ut3 ut3 ag3 ag3 (.inl ⟨rfl, rfl⟩) ?_)
 refine opG rfl (aop_move (av := .b (decide (x = s ∧ y = e))) (.inr rfl) rfl rfl rfl ?_)
 refine op0 ?_
 refine rs_ (upd none_ 3 (.b (decide (x = s ∧ y = e)))) (updO noOb 51 (.live ⟨[.i x, .i y], 51, 1⟩)) (lu rfl ln) rfl ?_
 refine awp_ret ?_
 exact fret (av := .v (.bool (decide (x = s ∧ y = e)))) rfl rfl rfl
theorem g_Next1 (x g : Int)  : Fn Try.prog 48 [.agg [.v (.int .i64 x), .one], .rp [.v (.int .i64 g)]] (.v (.bool (decide (x = g)))) := by
 refine fnE_of_body (N := 8) Try.func48 rfl rfl (resOf1 rfl) (by simp) (fun w0 X hL_ => ?_)
 refine seqR ?_
 refine opG rfl (aop_box 51 rfl rfl rfl rfl rfl rfl rfl ?_)
 refine opG rfl (aop_move (av := .b false) (.inr rfl) rfl rfl rfl ?_)
 refine op0 ?_
 refine seqR ?_
 refine opG rfl (aop_fieldAddr (av := .pt 51 0) (av' := .pt 51 0) rfl rfl rfl ft51_0 sz3 rfl rfl rfl ?_)
 refine opG rfl (aop_ld (av := .i x) rfl rfl rfl ag3 rfl rfl ?_)
 refine opG rfl (aop_ld (av := .i g) rfl rfl rfl ag3 rfl rfl ?_)
 refine opG rfl (aop_binI (u := (.bool (x == g))) rfl rfl rfl rfl rfl trivial rfl ?_)
 refine opG rfl (aop_move (av := .b (x == g)) (.inr rfl) rfl rfl rfl ?_)
 refine op0 ?_
 refine rs_ (upd none_ 3 (.b (x == g))) (updO noOb 51 (.live ⟨[.i x, .one], 51, 1⟩)) (lu rfl ln) rfl ?_
 refine awp_ret ?_
 exact fret (av := .v (.bool (x == g))) rfl rfl (by rfl)
theorem ixE_o (l : List En) (s e : Int) (hl : l.length ≤ 4294967296)  : Fn Try.prog 47 [.ro l.length (enc eEn l), .fn 54 [.rp [.v (.int .i64 s), .v (.int .i64 e)]]] (.v (.int .i64 (idxB (fun x : En => decide (x.sec = s ∧ x.en = e)) l))) := by
 refine fnE_of_body (N := 19) Try.func47 rfl rfl (resOf1 rfl) (by simp) (fun w0 X hL_ => ?_)
 refine seqR ?_
 refine opG rfl (aop_move (av := .i 0) (.inr rfl) rfl rfl rfl ?_)
 refine op0 ?_
 refine awp_seq ?_
 refine seqR ?_
 refine opG rfl (aop_move (av := .q eEn l) (.inl rfl) rfl rfl rfl ?_)
 refine opG rfl (aop_len rfl rfl rfl rfl ut69 (len_ro rfl) ?_)
 refine opG rfl (aop_move (av := .i 0) (.inl rfl) rfl rfl rfl ?_)
 refine op0 ?_
 refine rs_ (upd (upd (upd (upd (upd none_ 0 (.q eEn l)) 1 (.fn 54 [.rp [.i s, .i e]])) 4 (.i 0)) 7 (.i (l.length : Int))) 8 (.i 0)) noOb (lu rfl (lu rfl (lu rfl (lu rfl (lu rfl ln))))) rfl ?_
 refine awp_block ?_
 refine awp_countI (fun k => ⟨(upd (upd (upd (upd (upd none_ 0 (.q eEn l)) 1 (.fn 54 [.rp [.i s, .i e]])) 4 (.i 0)) 7 (.i (l.length : Int))) 8 (.i (k : Int))), noOb⟩) (fun k => (l.take k).any (fun x : En => decide (x.sec = s ∧ x.en = e)) = false) (l.length) ?_ (by simp) (fun k hk_k hinv => ?_)
 ·skip
  exact imp_ler [] (ler0 (sS rfl (sS rfl (sS rfl (sS rfl (sS rfl sr_none)))))) (keep_of rfl)
 refine seqR ?_
 refine opG rfl (aop_binI (u := (.bool (decide ((k : Int) < (l.length : Int))))) rfl rfl rfl rfl rfl trivial rfl ?_)
 refine op0 ?_
 refine awp_seq ?_
 refine awp_cond (decide ((k : Int) < (l.length : Int))) rfl rfl (fun hc0 => ?_) (fun hc0 => ?_)
 ·skip
  have hf1 := of_decide_eq_true hc0
  refine awp_skip ?_
  refine awp_seq ?_
  refine awp_block ?_
  refine seqR ?_
  refine opG rfl (aop_move (av := .i (k : Int)) (.inl rfl) rfl rfl rfl ?_)
  refine opG rfl (aop_move (av := .i (k : Int)) (.inr rfl) rfl rfl rfl ?_)
  refine op0 ?_
  refine seqR ?_
  refine opG rfl (aop_move (av := .fn 54 [.rp [.i s, .i e]]) (.inl rfl) rfl rfl rfl ?_)
  refine opG rfl (aop_move (av := .q eEn l) (.inl rfl) rfl rfl rfl ?_)
  refine opG rfl (aop_move (av := .i (k : Int)) (.inl rfl) rfl rfl rfl ?_)
  refine opG rfl (aop_ixE dE rfl rfl rfl ut69 sz51 rfl rfl (fun _ => rfl) rfl (by first | omega | (simp; done) | decide | (simp at *; omega)) ?_)
  refine opG rfl (aop_ldB (cells' := [.i ((l.getD k dE).sec), .i ((l.getD k dE).en)]) rfl rfl rfl ag51 sz51 rfl rfl rfl rfl ?_)
  refine opG rfl (call_ (g_Around1 ((l.getD k dE).sec) ((l.getD k dE).en) s e) rfl rfl rfl rfl rfl bd54 rfl ?_)
  refine op0 ?_
  refine rs_ (upd (upd (upd (upd (upd (upd (upd none_ 0 (.q eEn l)) 1 (.fn 54 [.rp [.i s, .i e]])) 4 (.i 0)) 5 (.i (k : Int))) 7 (.i (l.length : Int))) 8 (.i (k : Int))) 16 (.b (decide (((l.getD k dE).sec) = s ∧ ((l.getD k dE).en) = e)))) noOb (lu rfl (lu rfl (lu rfl (lu rfl (lu rfl (lu rfl (lu rfl ln))))))) rfl ?_
  refine awp_cond (decide (((l.getD k dE).sec) = s ∧ ((l.getD k dE).en) = e)) rfl rfl (fun hc1 => ?_) (fun hc1 => ?_)
  ·skip
   refine seqR ?_
   refine opG rfl (aop_move (av := .i (k : Int)) (.inl rfl) rfl rfl rfl ?_)
   refine opG rfl (aop_move (av := .i (k : Int)) (.inr rfl) rfl rfl rfl ?_)
   refine op0 ?_
   refine awp_ret ?_
   exact fret (av := .v (.int .i64 (k : Int))) rfl rfl (by rw [idxB_stop (f := fun x : En => decide (x.sec = s ∧ x.en = e)) dE (by omega) hinv hc1] <;> rfl)
  ·skip
   refine awp_skip ?_
   refine regR ?_
   refine opG rfl (aop_binI (u := (.int .i64 ((k + 1 : Nat) : Int))) rfl rfl rfl rfl rfl trivial (addN (by omega)) ?_)
   refine opG rfl (aop_move (av := .i ((k + 1 : Nat) : Int)) (.inl rfl) rfl rfl rfl ?_)
   refine op0 ?_
   show _ ∧ _
   refine ⟨by omega, (any_step dE (by omega) hinv hc1), ?_⟩
   exact imp_ler [] (ler0 (sS rfl (sS rfl (sS rfl (sS rfl (sS rfl sr_none)))))) (keep_of rfl)
 ·skip
  have hf2 := of_decide_eq_false hc0
  refine awp_exit ?_
  refine seqR ?_
  refine opG rfl (aop_move (av := .i (-1)) (.inr rfl) rfl rfl rfl ?_)
  refine op0 ?_
  refine awp_ret ?_
  exact fret (av := .v (.int .i64 (-1))) rfl rfl (by rw [idxB_end (f := fun x : En => decide (x.sec = s ∧ x.en = e)) (by omega) hinv] <;> rfl)
theorem ixE_s (l : List En) (s : Int) (hl : l.length ≤ 4294967296)  : Fn Try.prog 47 [.ro l.length (enc eEn l), .fn 48 [.rp [.v (.int .i64 s)]]] (.v (.int .i64 (idxB (fun x : En => decide (x.sec = s)) l))) := by
 refine fnE_of_body (N := 19) Try.func47 rfl rfl (resOf1 rfl) (by simp) (fun w0 X hL_ => ?_)
 refine seqR ?_
 refine opG rfl (aop_move (av := .i 0) (.inr rfl) rfl rfl rfl ?_)
 refine op0 ?_
 refine awp_seq ?_
 refine seqR ?_
 refine opG rfl (aop_move (av := .q eEn l) (.inl rfl) rfl rfl rfl ?_)
 refine opG rfl (aop_len rfl rfl rfl rfl ut69 (len_ro rfl) ?_)
 refine opG rfl (aop_move (av := .i 0) (.inl rfl) rfl rfl rfl ?_)
 refine op0 ?_
 refine rs_ (upd (upd (upd (upd (upd none_ 0 (.q eEn l)) 1 (.fn 48 [.rp [.i s]])) 4 (.i 0)) 7 (.i (l.length : Int))) 8 (.i 0)) noOb (lu rfl (lu rfl (lu rfl (lu rfl (lu rfl ln))))) rfl ?_
 refine awp_block ?_
 refine awp_countI (fun k => ⟨(upd (upd (upd (upd (upd none_ 0 (.q eEn l)) 1 (.fn 48 [.rp [.i s]])) 4 (.i 0)) 7 (.i (l.length : Int))) 8 (.i (k : Int))), noOb⟩) (fun k => (l.take k).any (fun x : En => decide (x.sec = s)) = false) (l.length) ?_ (by simp) (fun k hk_k hinv => ?_)
 ·skip
  exact imp_ler [] (ler0 (sS rfl (sS rfl (sS rfl (sS rfl (sS rfl sr_none)))))) (keep_of rfl)
 refine seqR ?_
 refine opG rfl (aop_binI (u := (.bool (decide ((k : Int) < (l.length : Int))))) rfl rfl rfl rfl rfl trivial rfl ?_)
 refine op0 ?_
 refine awp_seq ?_
 refine awp_cond (decide ((k : Int) < (l.length : Int))) rfl rfl (fun hc0 => ?_) (fun hc0 => ?_)
 ·skip
  have hf1 := of_decide_eq_true hc0
  refine awp_skip ?_
  refine awp_seq ?_
  refine awp_block ?_
  refine seqR ?_
  refine opG rfl (aop_move (av := .i (k : Int)) (.inl rfl) rfl rfl rfl ?_)
  refine opG rfl (aop_move (av := .i (k : Int)) (.inr rfl) rfl rfl rfl ?_)
  refine op0 ?_
  refine seqR ?_
  refine opG rfl (aop_move (av := .fn 48 [.rp [.i s]]) (.inl rfl) rfl rfl rfl ?_)
  refine opG rfl (aop_move (av := .q eEn l) (.inl rfl) rfl rfl rfl ?_)
  refine opG rfl (aop_move (av := .i (k : Int)) (.inl rfl) rfl rfl rfl ?_)
  refine opG rfl (aop_ixE dE rfl rfl rfl ut69 sz51 rfl rfl (fun _ => rfl) rfl (by first | omega | (simp; done) | decide | (simp at *; omega)) ?_)
  refine opG rfl (aop_ldB (cells' := [.i ((l.getD k dE).sec), .i ((l.getD k dE).en)]) rfl rfl rfl ag51 sz51 rfl rfl rfl rfl ?_)
  refine opG rfl (callW_ (g_Next1 ((l.getD k dE).sec) s) rfl rfl rfl rfl rfl bd48 (lends_cons (lend_agg (lends_cons (lend_n (av := .i ((l.getD k dE).sec))) (lends_cons (.one _ rfl) lends_nil))) (lends_cons (lend_n (av := .rp [.i s])) lends_nil)) ?_)
  refine op0 ?_
  refine rs_ (upd (upd (upd (upd (upd (upd (upd none_ 0 (.q eEn l)) 1 (.fn 48 [.rp [.i s]])) 4 (.i 0)) 5 (.i (k : Int))) 7 (.i (l.length : Int))) 8 (.i (k : Int))) 16 (.b (decide (((l.getD k dE).sec) = s)))) noOb (lu rfl (lu rfl (lu rfl (lu rfl (lu rfl (lu rfl (lu rfl ln))))))) rfl ?_
  refine awp_cond (decide (((l.getD k dE).sec) = s)) rfl rfl (fun hc1 => ?_) (fun hc1 => ?_)
  ·skip
   refine seqR ?_
   refine opG rfl (aop_move (av := .i (k : Int)) (.inl rfl) rfl rfl rfl ?_)
   refine opG rfl (aop_move (av := .i (k : Int)) (.inr rfl) rfl rfl rfl ?_)
   refine op0 ?_
   refine awp_ret ?_
   exact fret (av := .v (.int .i64 (k : Int))) rfl rfl (by rw [idxB_stop (f := fun x : En => decide (x.sec = s)) dE (by omega) hinv hc1] <;> rfl)
  ·skip
   refine awp_skip ?_
   refine regR ?_
   refine opG rfl (aop_binI (u := (.int .i64 ((k + 1 : Nat) : Int))) rfl rfl rfl rfl rfl trivial (addN (by omega)) ?_)
   refine opG rfl (aop_move (av := .i ((k + 1 : Nat) : Int)) (.inl rfl) rfl rfl rfl ?_)
   refine op0 ?_
   show _ ∧ _
   refine ⟨by omega, (any_step dE (by omega) hinv hc1), ?_⟩
   exact imp_ler [] (ler0 (sS rfl (sS rfl (sS rfl (sS rfl (sS rfl sr_none)))))) (keep_of rfl)
 ·skip
  have hf2 := of_decide_eq_false hc0
  refine awp_exit ?_
  refine seqR ?_
  refine opG rfl (aop_move (av := .i (-1)) (.inr rfl) rfl rfl rfl ?_)
  refine op0 ?_
  refine awp_ret ?_
  exact fret (av := .v (.int .i64 (-1))) rfl rfl (by rw [idxB_end (f := fun x : En => decide (x.sec = s)) (by omega) hinv] <;> rfl)
theorem delE (l : List En) (s e : Int) (hl : l.length ≤ 4294967296)  : FnGO Try.prog 52 [⟨(enc eEn l), 51, 2⟩] [.sl 0 0 l.length, .fn 54 [.rp [.v (.int .i64 s), .v (.int .i64 e)]]] (.sl 0 0 ((restG (fun x : En => decide (x.sec = s ∧ x.en = e)) l).length)) [.live ⟨(enc eEn (restG (fun x : En => decide (x.sec = s ∧ x.en = e)) l ++ List.replicate (l.length - (restG (fun x : En => decide (x.sec = s ∧ x.en = e)) l).length) dE)), 51, 2⟩] := by
 refine fnG_of_body (N := 42) 1 rfl Try.func52 rfl rfl (resOf1 rfl) (by simp) (fun w0 G C hL_ hLG_ => ?_)
 refine seqR ?_
 refine opG rfl (aop_move (av := .v (.slice none 0 0)) (.inr rfl) rfl rfl rfl ?_)
 refine op0 ?_
 refine seqR ?_
 refine opG rfl (aop_move (av := .sl 0 0 l.length) (.inl rfl) rfl rfl rfl ?_)
 refine opG rfl (aop_move (av := .fn 54 [.rp [.i s, .i e]]) (.inl rfl) rfl rfl rfl ?_)
 refine opG rfl (callL_ (ixE_o l s e (by first | omega | (simp; done) | decide | (simp at *; omega))) rfl rfl rfl rfl rfl bd47 (lends_cons (lend_s (id := 0) (n := l.length) (o := ⟨(enc eEn l), 51, 2⟩) rfl (enc_len (fun _ => rfl) (by first | rfl | (simp; done)))) (lends_cons (lend_n (av := .fn 54 [.rp [.i s, .i e]])) lends_nil)) ?_)
 refine opG rfl (aop_move (av := .i (idxB (fun x : En => decide (x.sec = s ∧ x.en = e)) l)) (.inr rfl) rfl rfl rfl ?_)
 refine op0 ?_
 refine rs_ (upd (upd (upd (upd none_ 0 (.sl 0 0 l.length)) 1 (.fn 54 [.rp [.i s, .i e]])) 4 (.v (.slice none 0 0))) 5 (.i (idxB (fun x : En => decide (x.sec = s ∧ x.en = e)) l))) (updO noOb 0 (.live ⟨(enc eEn l), 51, 2⟩)) (lu rfl (lu rfl (lu rfl (lu rfl ln)))) rfl ?_
 refine awp_seq ?_
 refine seqR ?_
 refine opG rfl (aop_move (av := .i (idxB (fun x : En => decide (x.sec = s ∧ x.en = e)) l)) (.inl rfl) rfl rfl rfl ?_)
 refine opG rfl (aop_binI (u := (.bool ((idxB (fun x : En => decide (x.sec = s ∧ x.en = e)) l) == (-1)))) rfl rfl rfl rfl rfl trivial rfl ?_)
 refine op0 ?_
 refine awp_cond ((idxB (fun x : En => decide (x.sec = s ∧ x.en = e)) l) == (-1)) rfl rfl (fun hc0 => ?_) (fun hc0 => ?_)
 ·skip
  have hf1 := (beq_iff_eq).1 hc0
  have hm0 := restG_none (fun x : En => decide (x.sec = s ∧ x.en = e)) (any_none (fun x : En => decide (x.sec = s ∧ x.en = e)) dE hf1)
  refine seqR ?_
  refine opG rfl (aop_move (av := .sl 0 0 l.length) (.inl rfl) rfl rfl rfl ?_)
  refine opG rfl (aop_move (av := .sl 0 0 l.length) (.inr rfl) rfl rfl rfl ?_)
  refine op0 ?_
  refine rs_ (upd (upd (upd (upd none_ 0 (.sl 0 0 l.length)) 1 (.fn 54 [.rp [.i s, .i e]])) 4 (.sl 0 0 l.length)) 5 (.i (idxB (fun x : En => decide (x.sec = s ∧ x.en = e)) l))) (updO noOb 0 (.live ⟨(enc eEn l), 51, 2⟩)) (lu rfl (lu rfl (lu rfl (lu rfl ln)))) rfl ?_
  refine awp_imp ⟨(upd none_ 4 (.sl 0 0 ((restG (fun x : En => decide (x.sec = s ∧ x.en = e)) l).length))), (updO noOb 0 (.live ⟨(enc eEn (restG (fun x : En => decide (x.sec = s ∧ x.en = e)) l ++ List.replicate (l.length - (restG (fun x : En => decide (x.sec = s ∧ x.en = e)) l).length) dE)), 51, 2⟩))⟩ ?_ ?_
  ·skip
   exact imp_ler [(0, 0)] (lerL [(0, 0)] [((0, 0), .live ⟨(enc eEn (restG (fun x : En => decide (x.sec = s ∧ x.en = e)) l ++ List.replicate (l.length - (restG (fun x : En => decide (x.sec = s ∧ x.en = e)) l).length) dE)), 51, 2⟩)] rfl (by decide) (by decide) ⟨row_no (o := ⟨(enc eEn l), 51, 2⟩) rfl (by exact congrArg (fun l_ => LObj.mk (enc eEn l_) 51 2) (by rw [hm0]; simp)), trivial⟩ (sr_map 4 (.sl 0 0 ((restG (fun x : En => decide (x.sec = s ∧ x.en = e)) l).length)) (by first | exact Ok.sl _ _ _ (by first | decide | simp) | exact Ok.pt _ _ (by first | decide | simp)) (by exact congrArg (AV.sl 0 0) (by rw [hm0])) sr_none)) (keep_of rfl)
  refine awp_ret ?_
  exact fretG rfl rfl rfl rfl
 ·skip
  have hf2 := (beq_eq_false_iff_ne).1 hc0
  obtain ⟨i0, hi, hlt, hpre, hdel⟩ := idxB_found dE (show ¬ idxB (fun x : En => decide (x.sec = s ∧ x.en = e)) l = -1 from fun e => hf2 e)
  refine awp_skip ?_
  refine awp_seq ?_
  refine seqR ?_
  refine opG rfl (aop_move (av := .i (idxB (fun x : En => decide (x.sec = s ∧ x.en = e)) l)) (.inl rfl) rfl rfl rfl ?_)
  refine opG rfl (aop_binI (u := (.int .i64 ((idxB (fun x : En => decide (x.sec = s ∧ x.en = e)) l) + 1))) rfl rfl rfl rfl rfl trivial (addI (by omega)) ?_)
  refine opG rfl (aop_move (av := .i ((idxB (fun x : En => decide (x.sec = s ∧ x.en = e)) l) + 1)) (.inr rfl) rfl rfl rfl ?_)
  refine op0 ?_
  refine rs_ (upd (upd (upd (upd (upd none_ 0 (.sl 0 0 l.length)) 1 (.fn 54 [.rp [.i s, .i e]])) 4 (.v (.slice none 0 0))) 5 (.i (idxB (fun x : En => decide (x.sec = s ∧ x.en = e)) l))) 6 (.i ((idxB (fun x : En => decide (x.sec = s ∧ x.en = e)) l) + 1))) (updO noOb 0 (.live ⟨(enc eEn l), 51, 2⟩)) (lu rfl (lu rfl (lu rfl (lu rfl (lu rfl ln))))) rfl ?_
  refine awp_block ?_
  refine awp_countI (fun k => ⟨(upd (upd (upd (upd (upd none_ 0 (.sl 0 0 l.length)) 1 (.fn 54 [.rp [.i s, .i e]])) 4 (.v (.slice none 0 0))) 5 (.i (((delG (fun x : En => decide (x.sec = s ∧ x.en = e)) l (i0 + 1 + k)).2 : Nat) : Int))) 6 (.i ((i0 + 1 + k : Nat) : Int))), (updO noOb 0 (.live ⟨(enc eEn ((delG (fun x : En => decide (x.sec = s ∧ x.en = e)) l (i0 + 1 + k)).1)), 51, 2⟩))⟩) (fun k => True) ((l.length - (i0 + 1))) ?_ trivial (fun k hk_k hinv => ?_)
  ·skip
   have hf0 := delG_first (fun x : En => decide (x.sec = s ∧ x.en = e)) dE hlt hpre hdel
   exact imp_ler [(0, 0)] (lerL [(0, 0)] [((0, 0), .live ⟨(enc eEn ((delG (fun x : En => decide (x.sec = s ∧ x.en = e)) l (i0 + 1 + 0)).1)), 51, 2⟩)] rfl (by decide) (by decide) ⟨row_no (o := ⟨(enc eEn l), 51, 2⟩) rfl (by exact congrArg (fun l_ => LObj.mk (enc eEn l_) 51 2) (show (delG (fun x : En => decide (x.sec = s ∧ x.en = e)) l (i0 + 1 + 0)).1 = l by rw [show i0 + 1 + 0 = i0 + 1 from rfl, hf0])), trivial⟩ (sr_same 6 (.i ((i0 + 1 + 0 : Nat) : Int)) (by exact congrArg (fun n_ : Int => AV.v (.int .i64 n_)) (show idxB (fun x : En => decide (x.sec = s ∧ x.en = e)) l + 1 = ((i0 + 1 + 0 : Nat) : Int) by omega)) NoI.out (sr_same 5 (.i (((delG (fun x : En => decide (x.sec = s ∧ x.en = e)) l (i0 + 1 + 0)).2 : Nat) : Int)) (by exact congrArg (fun n_ : Int => AV.v (.int .i64 n_)) (show idxB (fun x : En => decide (x.sec = s ∧ x.en = e)) l = (((delG (fun x : En => decide (x.sec = s ∧ x.en = e)) l (i0 + 1 + 0)).2 : Nat) : Int) by rw [show i0 + 1 + 0 = i0 + 1 from rfl, hf0]; exact hi)) NoI.out (sr_same 4 (.v (.slice none 0 0)) rfl NoI.out (sr_same 1 (.fn 54 [.rp [.i s, .i e]]) rfl NoI.out (sr_map 0 (.sl 0 0 l.length) (by first | exact Ok.sl _ _ _ (by first | decide | simp) | exact Ok.pt _ _ (by first | decide | simp)) rfl sr_none)))))) (keep_of rfl)
  obtain ⟨hv1, hv2, hv3, hv4, hv5⟩ := delG_inv (fun x : En => decide (x.sec = s ∧ x.en = e)) l (i0 + 1 + k) (by omega)
  have hv6 := delG_lt (fun x : En => decide (x.sec = s ∧ x.en = e)) dE hlt hpre hdel k (by omega)
  refine awp_seq ?_
  refine seqR ?_
  refine opG rfl (aop_move (av := .i ((i0 + 1 + k : Nat) : Int)) (.inl rfl) rfl rfl rfl ?_)
  refine opG rfl (aop_move (av := .sl 0 0 l.length) (.inl rfl) rfl rfl rfl ?_)
  refine opG rfl (aop_len rfl rfl rfl rfl ut69 (len_sl rfl) ?_)
  refine opG rfl (aop_binI (u := (.bool (decide (((i0 + 1 + k : Nat) : Int) < (l.length : Int))))) rfl rfl rfl rfl rfl trivial rfl ?_)
  refine op0 ?_
  refine rs_ (upd (upd (upd (upd (upd (upd none_ 0 (.sl 0 0 l.length)) 1 (.fn 54 [.rp [.i s, .i e]])) 4 (.v (.slice none 0 0))) 5 (.i (((delG (fun x : En => decide (x.sec = s ∧ x.en = e)) l (i0 + 1 + k)).2 : Nat) : Int))) 6 (.i ((i0 + 1 + k : Nat) : Int))) 19 (.b (decide (((i0 + 1 + k : Nat) : Int) < (l.length : Int))))) (updO noOb 0 (.live ⟨(enc eEn ((delG (fun x : En => decide (x.sec = s ∧ x.en = e)) l (i0 + 1 + k)).1)), 51, 2⟩)) (lu rfl (lu rfl (lu rfl (lu rfl (lu rfl (lu rfl ln)))))) rfl ?_
  refine awp_cond (decide (((i0 + 1 + k : Nat) : Int) < (l.length : Int))) rfl rfl (fun hc1 => ?_) (fun hc1 => ?_)
  ·skip
   have hf3 := of_decide_eq_true hc1
   refine awp_skip ?_
   refine awp_seq ?_
   refine awp_block ?_
   refine seqR ?_
   refine opG rfl (aop_move (av := .sl 0 0 l.length) (.inl rfl) rfl rfl rfl ?_)
   refine opG rfl (aop_move (av := .i ((i0 + 1 + k : Nat) : Int)) (.inl rfl) rfl rfl rfl ?_)
   refine opG rfl (aop_ixO (k := i0 + 1 + k) rfl rfl rfl ut69 sz51 rfl rfl (by first | omega | (simp; done) | decide | (simp at *; omega)) ?_)
   refine opG rfl (aop_ldOA (f := eEn) dE rfl rfl rfl ag51 sz51 rfl rfl rfl (fun _ => rfl) (by first | omega | (simp; done) | decide | (simp at *; omega)) rfl ?_)
   refine opG rfl (aop_alloc 51 rfl rfl rfl rfl ze51 rfl ?_)
   refine opG rfl (aop_store rfl rfl rfl sz51 rfl rfl rfl rfl rfl (Nat.le_of_ble_eq_true rfl) rfl rfl ?_)
   refine op0 ?_
   refine rs_ (upd (upd (upd (upd (upd (upd none_ 0 (.sl 0 0 l.length)) 1 (.fn 54 [.rp [.i s, .i e]])) 4 (.v (.slice none 0 0))) 5 (.i (((delG (fun x : En => decide (x.sec = s ∧ x.en = e)) l (i0 + 1 + k)).2 : Nat) : Int))) 6 (.i ((i0 + 1 + k : Nat) : Int))) 7 (.pt 51 0)) (updO (updO (updO noOb 0 (.live ⟨(enc eEn ((delG (fun x : En => decide (x.sec = s ∧ x.en = e)) l (i0 + 1 + k)).1)), 51, 2⟩)) 51 (.live ⟨[.i 0, .i 0], 51, 1⟩)) 51 (.live ⟨[.i ((((delG (fun x : En => decide (x.sec = s ∧ x.en = e)) l (i0 + 1 + k)).1).getD (i0 + 1 + k) dE).sec), .i ((((delG (fun x : En => decide (x.sec = s ∧ x.en = e)) l (i0 + 1 + k)).1).getD (i0 + 1 + k) dE).en)], 51, 1⟩)) (lu rfl (lu rfl (lu rfl (lu rfl (lu rfl (lu rfl ln)))))) rfl ?_
   refine seqR ?_
   refine opG rfl (aop_move (av := .fn 54 [.rp [.i s, .i e]]) (.inl rfl) rfl rfl rfl ?_)
   refine opG rfl (aop_ldB (cells' := [.i ((((delG (fun x : En => decide (x.sec = s ∧ x.en = e)) l (i0 + 1 + k)).1).getD (i0 + 1 + k) dE).sec), .i ((((delG (fun x : En => decide (x.sec = s ∧ x.en = e)) l (i0 + 1 + k)).1).getD (i0 + 1 + k) dE).en)]) rfl rfl rfl ag51 sz51 rfl rfl rfl rfl ?_)
   refine opG rfl (call_ (g_Around1 ((((delG (fun x : En => decide (x.sec = s ∧ x.en = e)) l (i0 + 1 + k)).1).getD (i0 + 1 + k) dE).sec) ((((delG (fun x : En => decide (x.sec = s ∧ x.en = e)) l (i0 + 1 + k)).1).getD (i0 + 1 + k) dE).en) s e) rfl rfl rfl rfl rfl bd54 rfl ?_)
   refine opG rfl (aop_not rfl rfl rfl rfl ?_)
   refine op0 ?_
   refine rs_ (upd (upd (upd (upd (upd (upd (upd none_ 0 (.sl 0 0 l.length)) 1 (.fn 54 [.rp [.i s, .i e]])) 4 (.v (.slice none 0 0))) 5 (.i (((delG (fun x : En => decide (x.sec = s ∧ x.en = e)) l (i0 + 1 + k)).2 : Nat) : Int))) 6 (.i ((i0 + 1 + k : Nat) : Int))) 7 (.pt 51 0)) 29 (.b (!(decide (((((delG (fun x : En => decide (x.sec = s ∧ x.en = e)) l (i0 + 1 + k)).1).getD (i0 + 1 + k) dE).sec) = s ∧ ((((delG (fun x : En => decide (x.sec = s ∧ x.en = e)) l (i0 + 1 + k)).1).getD (i0 + 1 + k) dE).en) = e))))) (updO (updO (updO noOb 0 (.live ⟨(enc eEn ((delG (fun x : En => decide (x.sec = s ∧ x.en = e)) l (i0 + 1 + k)).1)), 51, 2⟩)) 51 (.live ⟨[.i 0, .i 0], 51, 1⟩)) 51 (.live ⟨[.i ((((delG (fun x : En => decide (x.sec = s ∧ x.en = e)) l (i0 + 1 + k)).1).getD (i0 + 1 + k) dE).sec), .i ((((delG (fun x : En => decide (x.sec = s ∧ x.en = e)) l (i0 + 1 + k)).1).getD (i0 + 1 + k) dE).en)], 51, 1⟩)) (lu rfl (lu rfl (lu rfl (lu rfl (lu rfl (lu rfl (lu rfl ln))))))) rfl ?_
   refine awp_cond (!(decide (((((delG (fun x : En => decide (x.sec = s ∧ x.en = e)) l (i0 + 1 + k)).1).getD (i0 + 1 + k) dE).sec) = s ∧ ((((delG (fun x : En => decide (x.sec = s ∧ x.en = e)) l (i0 + 1 + k)).1).getD (i0 + 1 + k) dE).en) = e))) rfl rfl (fun hc2 => ?_) (fun hc2 => ?_)
   ·skip
    have hf4 := not_t hc2
    refine seqR ?_
    refine opG rfl (aop_move (av := .sl 0 0 l.length) (.inl rfl) rfl rfl rfl ?_)
    refine opG rfl (aop_move (av := .i (((delG (fun x : En => decide (x.sec = s ∧ x.en = e)) l (i0 + 1 + k)).2 : Nat) : Int)) (.inl rfl) rfl rfl rfl ?_)
    refine opG rfl (aop_ldB (cells' := [.i ((((delG (fun x : En => decide (x.sec = s ∧ x.en = e)) l (i0 + 1 + k)).1).getD (i0 + 1 + k) dE).sec), .i ((((delG (fun x : En => decide (x.sec = s ∧ x.en = e)) l (i0 + 1 + k)).1).getD (i0 + 1 + k) dE).en)]) rfl rfl rfl ag51 sz51 rfl rfl rfl rfl ?_)
    refine opG rfl (aop_ixO (k := (delG (fun x : En => decide (x.sec = s ∧ x.en = e)) l (i0 + 1 + k)).2) rfl rfl rfl ut69 sz51 rfl rfl (by first | omega | (simp; done) | decide | (simp at *; omega)) ?_)
    refine opG rfl (aop_storeE (f := eEn) (l := (delG (fun x : En => decide (x.sec = s ∧ x.en = e)) l (i0 + 1 + k)).1) (l' := ((delG (fun x : En => decide (x.sec = s ∧ x.en = e)) l (i0 + 1 + k)).1).set ((delG (fun x : En => decide (x.sec = s ∧ x.en = e)) l (i0 + 1 + k)).2) (⟨(((delG (fun x : En => decide (x.sec = s ∧ x.en = e)) l (i0 + 1 + k)).1).getD (i0 + 1 + k) dE).sec, (((delG (fun x : En => decide (x.sec = s ∧ x.en = e)) l (i0 + 1 + k)).1).getD (i0 + 1 + k) dE).en⟩ : En)) (⟨(((delG (fun x : En => decide (x.sec = s ∧ x.en = e)) l (i0 + 1 + k)).1).getD (i0 + 1 + k) dE).sec, (((delG (fun x : En => decide (x.sec = s ∧ x.en = e)) l (i0 + 1 + k)).1).getD (i0 + 1 + k) dE).en⟩ : En) rfl rfl rfl sz51 rfl rfl rfl rfl rfl (fun _ => rfl) (by first | omega | (simp; done) | decide | (simp at *; omega)) rfl rfl ?_)
    refine op0 ?_
    refine rs_ (upd (upd (upd (upd (upd (upd none_ 0 (.sl 0 0 l.length)) 1 (.fn 54 [.rp [.i s, .i e]])) 4 (.v (.slice none 0 0))) 5 (.i (((delG (fun x : En => decide (x.sec = s ∧ x.en = e)) l (i0 + 1 + k)).2 : Nat) : Int))) 6 (.i ((i0 + 1 + k : Nat) : Int))) 7 (.pt 51 0)) (updO (updO (updO (updO noOb 0 (.live ⟨(enc eEn ((delG (fun x : En => decide (x.sec = s ∧ x.en = e)) l (i0 + 1 + k)).1)), 51, 2⟩)) 51 (.live ⟨[.i 0, .i 0], 51, 1⟩)) 51 (.live ⟨[.i ((((delG (fun x : En => decide (x.sec = s ∧ x.en = e)) l (i0 + 1 + k)).1).getD (i0 + 1 + k) dE).sec), .i ((((delG (fun x : En => decide (x.sec = s ∧ x.en = e)) l (i0 + 1 + k)).1).getD (i0 + 1 + k) dE).en)], 51, 1⟩)) 0 (.live ⟨(enc eEn (((delG (fun x : En => decide (x.sec = s ∧ x.en = e)) l (i0 + 1 + k)).1).set ((delG (fun x : En => decide (x.sec = s ∧ x.en = e)) l (i0 + 1 + k)).2) (⟨(((delG (fun x : En => decide (x.sec = s ∧ x.en = e)) l (i0 + 1 + k)).1).getD (i0 + 1 + k) dE).sec, (((delG (fun x : En => decide (x.sec = s ∧ x.en = e)) l (i0 + 1 + k)).1).getD (i0 + 1 + k) dE).en⟩ : En))), 51, 2⟩)) (lu rfl (lu rfl (lu rfl (lu rfl (lu rfl (lu rfl ln)))))) rfl ?_
    refine regR ?_
    refine opG rfl (aop_move (av := .i (((delG (fun x : En => decide (x.sec = s ∧ x.en = e)) l (i0 + 1 + k)).2 : Nat) : Int)) (.inl rfl) rfl rfl rfl ?_)
    refine opG rfl (aop_binI (u := (.int .i64 (((delG (fun x : En => decide (x.sec = s ∧ x.en = e)) l (i0 + 1 + k)).2 + 1 : Nat) : Int))) rfl rfl rfl rfl rfl trivial (addN (by omega)) ?_)
    refine opG rfl (aop_move (av := .i (((delG (fun x : En => decide (x.sec = s ∧ x.en = e)) l (i0 + 1 + k)).2 + 1 : Nat) : Int)) (.inr rfl) rfl rfl rfl ?_)
    refine op0 ?_
    refine regR ?_
    refine opG rfl (aop_move (av := .i ((i0 + 1 + k : Nat) : Int)) (.inl rfl) rfl rfl rfl ?_)
    refine opG rfl (aop_binI (u := (.int .i64 ((i0 + 1 + k + 1 : Nat) : Int))) rfl rfl rfl rfl rfl trivial (addN (by omega)) ?_)
    refine opG rfl (aop_move (av := .i ((i0 + 1 + k + 1 : Nat) : Int)) (.inr rfl) rfl rfl rfl ?_)
    refine op0 ?_
    show _ ∧ _
    have hs := delG_keep (fun x : En => decide (x.sec = s ∧ x.en = e)) dE (l := l) (j := i0 + 1 + k) (by omega) ((Bool.not_eq_true' _).mp hc2)
    refine ⟨by omega, trivial, ?_⟩
    exact imp_ler [(0, 0)] (lerL [(0, 0)] [((0, 0), .live ⟨(enc eEn ((delG (fun x : En => decide (x.sec = s ∧ x.en = e)) l (i0 + 1 + (k + 1))).1)), 51, 2⟩)] rfl (by decide) (by decide) ⟨row_no (o := ⟨(enc eEn (((delG (fun x : En => decide (x.sec = s ∧ x.en = e)) l (i0 + 1 + k)).1).set ((delG (fun x : En => decide (x.sec = s ∧ x.en = e)) l (i0 + 1 + k)).2) (⟨(((delG (fun x : En => decide (x.sec = s ∧ x.en = e)) l (i0 + 1 + k)).1).getD (i0 + 1 + k) dE).sec, (((delG (fun x : En => decide (x.sec = s ∧ x.en = e)) l (i0 + 1 + k)).1).getD (i0 + 1 + k) dE).en⟩ : En))), 51, 2⟩) rfl (by exact congrArg (fun l_ => LObj.mk (enc eEn l_) 51 2) (congrArg Prod.fst hs)), trivial⟩ (sr_same 6 (.i ((i0 + 1 + (k + 1) : Nat) : Int)) rfl NoI.out (sr_same 5 (.i (((delG (fun x : En => decide (x.sec = s ∧ x.en = e)) l (i0 + 1 + (k + 1))).2 : Nat) : Int)) (by exact congrArg (fun n_ : Int => AV.v (.int .i64 n_)) (congrArg (fun q : List En × Nat => ((q.2 : Nat) : Int)) hs.symm)) NoI.out (sr_same 4 (.v (.slice none 0 0)) rfl NoI.out (sr_same 1 (.fn 54 [.rp [.i s, .i e]]) rfl NoI.out (sr_map 0 (.sl 0 0 l.length) (by first | exact Ok.sl _ _ _ (by first | decide | simp) | exact Ok.pt _ _ (by first | decide | simp)) rfl sr_none)))))) (keep_of rfl)
   ·skip
    have hf5 := not_f hc2
    refine awp_skip ?_
    refine regR ?_
    refine opG rfl (aop_move (av := .i ((i0 + 1 + k : Nat) : Int)) (.inl rfl) rfl rfl rfl ?_)
    refine opG rfl (aop_binI (u := (.int .i64 ((i0 + 1 + k + 1 : Nat) : Int))) rfl rfl rfl rfl rfl trivial (addN (by omega)) ?_)
    refine opG rfl (aop_move (av := .i ((i0 + 1 + k + 1 : Nat) : Int)) (.inr rfl) rfl rfl rfl ?_)
    refine op0 ?_
    show _ ∧ _
    have hs := delG_drop (fun x : En => decide (x.sec = s ∧ x.en = e)) dE (l := l) (j := i0 + 1 + k) (by omega) ((Bool.not_eq_false' _).mp hc2)
    refine ⟨by omega, trivial, ?_⟩
    exact imp_ler [(0, 0)] (lerL [(0, 0)] [((0, 0), .live ⟨(enc eEn ((delG (fun x : En => decide (x.sec = s ∧ x.en = e)) l (i0 + 1 + (k + 1))).1)), 51, 2⟩)] rfl (by decide) (by decide) ⟨row_no (o := ⟨(enc eEn ((delG (fun x : En => decide (x.sec = s ∧ x.en = e)) l (i0 + 1 + k)).1)), 51, 2⟩) rfl (by exact congrArg (fun l_ => LObj.mk (enc eEn l_) 51 2) (congrArg Prod.fst hs)), trivial⟩ (sr_same 6 (.i ((i0 + 1 + (k + 1) : Nat) : Int)) rfl NoI.out (sr_same 5 (.i (((delG (fun x : En => decide (x.sec = s ∧ x.en = e)) l (i0 + 1 + (k + 1))).2 : Nat) : Int)) (by exact congrArg (fun n_ : Int => AV.v (.int .i64 n_)) (congrArg (fun q : List En × Nat => ((q.2 : Nat) : Int)) hs.symm)) NoI.out (sr_same 4 (.v (.slice none 0 0)) rfl NoI.out (sr_same 1 (.fn 54 [.rp [.i s, .i e]]) rfl NoI.out (sr_map 0 (.sl 0 0 l.length) (by first | exact Ok.sl _ _ _ (by first | decide | simp) | exact Ok.pt _ _ (by first | decide | simp)) rfl sr_none)))))) (keep_of rfl)
  ·skip
   have hf6 := of_decide_eq_false hc1
   refine awp_exit ?_
   refine seqR ?_
   refine opG rfl (aop_move (av := .sl 0 0 l.length) (.inl rfl) rfl rfl rfl ?_)
   refine opG rfl (aop_move (av := .i (((delG (fun x : En => decide (x.sec = s ∧ x.en = e)) l (i0 + 1 + k)).2 : Nat) : Int)) (.inl rfl) rfl rfl rfl ?_)
   refine opG rfl (aop_sliceFrom (l := (delG (fun x : En => decide (x.sec = s ∧ x.en = e)) l (i0 + 1 + k)).2) (ob := ⟨(enc eEn ((delG (fun x : En => decide (x.sec = s ∧ x.en = e)) l (i0 + 1 + k)).1)), 51, 2⟩) rfl rfl rfl ut69 sz51 rfl rfl rfl ⟨_, rfl⟩ (by first | omega | (simp; done) | decide | (simp at *; omega)) ?_)
   refine opG rfl (aop_clear (n := l.length - ((delG (fun x : En => decide (x.sec = s ∧ x.en = e)) l (i0 + 1 + k)).2)) (ob := ⟨(enc eEn ((delG (fun x : En => decide (x.sec = s ∧ x.en = e)) l (i0 + 1 + k)).1)), 51, 2⟩) rfl rfl rfl rfl ut69 (run_zero_ ze51) rfl rfl rfl (by first | omega | (simp; done) | decide | (simp at *; omega)) (clear_fit (fun _ => rfl) (by omega)) (clear_rowG (e := eEn) (v := dE) (s := 2) (i := (delG (fun x : En => decide (x.sec = s ∧ x.en = e)) l (i0 + 1 + k)).2) (n := l.length - (delG (fun x : En => decide (x.sec = s ∧ x.en = e)) l (i0 + 1 + k)).2) (fun _ => rfl) (zeros_enc (z := #[.int .i64 0, .int .i64 0]) rfl (by decide)) (by omega)) ?_)
   refine op0 ?_
   refine rs_ (upd (upd (upd none_ 0 (.sl 0 0 l.length)) 4 (.v (.slice none 0 0))) 5 (.i (((delG (fun x : En => decide (x.sec = s ∧ x.en = e)) l (i0 + 1 + k)).2 : Nat) : Int))) (updO (updO noOb 0 (.live ⟨(enc eEn ((delG (fun x : En => decide (x.sec = s ∧ x.en = e)) l (i0 + 1 + k)).1)), 51, 2⟩)) 0 (.live ⟨(enc eEn ((delG (fun x : En => decide (x.sec = s ∧ x.en = e)) l (i0 + 1 + k)).1.take (delG (fun x : En => decide (x.sec = s ∧ x.en = e)) l (i0 + 1 + k)).2 ++ List.replicate (l.length - (delG (fun x : En => decide (x.sec = s ∧ x.en = e)) l (i0 + 1 + k)).2) dE)), 51, 2⟩)) (lu rfl (lu rfl (lu rfl ln))) rfl ?_
   refine seqR ?_
   refine opG rfl (aop_move (av := .sl 0 0 l.length) (.inl rfl) rfl rfl rfl ?_)
   refine opG rfl (aop_move (av := .i (((delG (fun x : En => decide (x.sec = s ∧ x.en = e)) l (i0 + 1 + k)).2 : Nat) : Int)) (.inl rfl) rfl rfl rfl ?_)
   refine opG rfl (aop_sliceOwn (hgh := (delG (fun x : En => decide (x.sec = s ∧ x.en = e)) l (i0 + 1 + k)).2) rfl rfl rfl ut69 sz51 rfl ⟨_, rfl⟩ (by first | omega | (simp; done) | decide | (simp at *; omega)) ?_)
   refine opG rfl (aop_move (av := .sl 0 0 ((delG (fun x : En => decide (x.sec = s ∧ x.en = e)) l (i0 + 1 + k)).2)) (.inr rfl) rfl rfl rfl ?_)
   refine op0 ?_
   refine rs_ (upd none_ 4 (.sl 0 0 ((delG (fun x : En => decide (x.sec = s ∧ x.en = e)) l (i0 + 1 + k)).2))) (updO (updO noOb 0 (.live ⟨(enc eEn ((delG (fun x : En => decide (x.sec = s ∧ x.en = e)) l (i0 + 1 + k)).1)), 51, 2⟩)) 0 (.live ⟨(enc eEn ((delG (fun x : En => decide (x.sec = s ∧ x.en = e)) l (i0 + 1 + k)).1.take (delG (fun x : En => decide (x.sec = s ∧ x.en = e)) l (i0 + 1 + k)).2 ++ List.replicate (l.length - (delG (fun x : En => decide (x.sec = s ∧ x.en = e)) l (i0 + 1 + k)).2) dE)), 51, 2⟩)) (lu rfl ln) rfl ?_
   have hjk : i0 + 1 + k = l.length := by omega
   rw [hjk, List.take_of_length_le (Nat.le_refl _)] at hv4 hv5
   refine awp_imp ⟨(upd none_ 4 (.sl 0 0 ((restG (fun x : En => decide (x.sec = s ∧ x.en = e)) l).length))), (updO noOb 0 (.live ⟨(enc eEn (restG (fun x : En => decide (x.sec = s ∧ x.en = e)) l ++ List.replicate (l.length - (restG (fun x : En => decide (x.sec = s ∧ x.en = e)) l).length) dE)), 51, 2⟩))⟩ ?_ ?_
   ·skip
    exact imp_ler [(0, 0)] (lerL [(0, 0)] [((0, 0), .live ⟨(enc eEn (restG (fun x : En => decide (x.sec = s ∧ x.en = e)) l ++ List.replicate (l.length - (restG (fun x : En => decide (x.sec = s ∧ x.en = e)) l).length) dE)), 51, 2⟩)] rfl (by decide) (by decide) ⟨row_no (o := ⟨(enc eEn ((delG (fun x : En => decide (x.sec = s ∧ x.en = e)) l (i0 + 1 + k)).1.take (delG (fun x : En => decide (x.sec = s ∧ x.en = e)) l (i0 + 1 + k)).2 ++ List.replicate (l.length - (delG (fun x : En => decide (x.sec = s ∧ x.en = e)) l (i0 + 1 + k)).2) dE)), 51, 2⟩) rfl (by exact congrArg (fun l_ => LObj.mk (enc eEn l_) 51 2) (by rw [hjk, hv4, hv5])), trivial⟩ (sr_map 4 (.sl 0 0 ((restG (fun x : En => decide (x.sec = s ∧ x.en = e)) l).length)) (by first | exact Ok.sl _ _ _ (by first | decide | simp) | exact Ok.pt _ _ (by first | decide | simp)) (by exact congrArg (AV.sl 0 0) (by rw [hjk, hv5])) sr_none)) (keep_of rfl)
   refine awp_ret ?_
   exact fretG rfl rfl rfl rfl
theorem growE (n : Nat) (hn : n ≤ 4294967296) : FnO Try.prog 60 [.v (.slice none 0 0), .v (.int .i64 (n : Int))] (.sl 0 0 0) [⟨[], 51, 2⟩] := by
 refine fnE_of_body (N := 27) Try.func60 rfl rfl (resOf1 rfl) (by simp) (fun w0 X hL_ => ?_)
 refine seqR ?_
 refine opG rfl (aop_move (av := .v (.slice none 0 0)) (.inr rfl) rfl rfl rfl ?_)
 refine op0 ?_
 refine awp_seq ?_
 refine seqR ?_
 refine opG rfl (aop_move (av := .i (n : Int)) (.inl rfl) rfl rfl rfl ?_)
 refine opG rfl (aop_binI (u := (.bool (decide ((n : Int) < 0)))) rfl rfl rfl rfl rfl trivial rfl ?_)
 refine op0 ?_
 refine awp_cond (decide ((n : Int) < 0)) rfl rfl (fun hc0 => ?_) (fun hc0 => ?_)
 ·skip
  have hf1 := of_decide_eq_true hc0
  exfalso; omega
 ·skip
  have hf2 := of_decide_eq_false hc0
  refine awp_skip ?_
  refine awp_seq ?_
  refine seqR ?_
  refine opG rfl (aop_move (av := .i (n : Int)) (.inl rfl) rfl rfl rfl ?_)
  refine opG rfl (aop_move (av := .v (.slice none 0 0)) (.inl rfl) rfl rfl rfl ?_)
  refine opG rfl (aop_capNil rfl rfl rfl rfl ut69 rfl ?_)
  refine opG rfl (aop_move (av := .v (.slice none 0 0)) (.inl rfl) rfl rfl rfl ?_)
  refine opG rfl (aop_len rfl rfl rfl rfl ut69 (len_nil rfl) ?_)
  refine opG rfl (aop_binI (u := (.int .i64 0)) rfl rfl rfl rfl rfl trivial rfl ?_)
  refine opG rfl (aop_binI (u := (.int .i64 (n : Int))) rfl rfl rfl rfl rfl trivial (subZ (by omega)) ?_)
  refine opG rfl (aop_move (av := .i (n : Int)) (.inr rfl) rfl rfl rfl ?_)
  refine op0 ?_
  refine rs_ (upd (upd (upd none_ 0 (.v (.slice none 0 0))) 1 (.i (n : Int))) 4 (.v (.slice none 0 0))) noOb (lu rfl (lu rfl (lu rfl ln))) rfl ?_
  refine seqR ?_
  refine opG rfl (aop_move (av := .i (n : Int)) (.inl rfl) rfl rfl rfl ?_)
  refine opG rfl (aop_binI (u := (.bool (decide ((n : Int) > 0)))) rfl rfl rfl rfl rfl trivial rfl ?_)
  refine op0 ?_
  refine awp_cond (decide ((n : Int) > 0)) rfl rfl (fun hc1 => ?_) (fun hc1 => ?_)
  ·skip
   have hf3 := of_decide_eq_true hc1
   refine regR ?_
   refine opG rfl (aop_move (av := .v (.slice none 0 0)) (.inl rfl) rfl rfl rfl ?_)
   refine opG rfl (aop_move (av := .v (.slice none 0 0)) (.inl rfl) rfl rfl rfl ?_)
   refine opG rfl (aop_capNil rfl rfl rfl rfl ut69 rfl ?_)
   refine opG rfl (aop_sliceNil rfl rfl rfl ut69 sz51 rfl rfl ⟨_, rfl⟩ ?_)
   refine opG rfl (aop_move (av := .i (n : Int)) (.inl rfl) rfl rfl rfl ?_)
   refine opG rfl (aop_appZ (n := n) 51 rfl rfl rfl rfl ut69 ut3 in51 rfl (by decide) rfl rfl (by omega) (by omega) (by omega) rfl ?_)
   refine opG rfl (aop_move (av := .v (.slice none 0 0)) (.inl rfl) rfl rfl rfl ?_)
   refine opG rfl (aop_len rfl rfl rfl rfl ut69 (len_nil rfl) ?_)
   refine opG rfl (aop_sliceOwn (hgh := 0) rfl rfl rfl ut69 sz51 rfl ⟨_, rfl⟩ (by first | omega | (simp; done) | decide | (simp at *; omega)) ?_)
   refine opG rfl (aop_move (av := .sl 51 0 0) (.inr rfl) rfl rfl rfl ?_)
   refine op0 ?_
   refine rs_ (upd (upd none_ 0 (.sl 51 0 0)) 4 (.v (.slice none 0 0))) (updO noOb 51 (.live ⟨[], 51, 2⟩)) (lu rfl (lu rfl ln)) rfl ?_
   refine seqR ?_
   refine opG rfl (aop_move (av := .sl 51 0 0) (.inl rfl) rfl rfl rfl ?_)
   refine opG rfl (aop_move (av := .sl 51 0 0) (.inr rfl) rfl rfl rfl ?_)
   refine op0 ?_
   refine awp_ret ?_
   exact fretO 51 rfl rfl rfl rfl rfl
  ·skip
   have hf4 := of_decide_eq_false hc1
   refine awp_skip ?_
   refine seqR ?_
   refine opG rfl (aop_move (av := .v (.slice none 0 0)) (.inl rfl) rfl rfl rfl ?_)
   refine opG rfl (aop_move (av := .v (.slice none 0 0)) (.inr rfl) rfl rfl rfl ?_)
   refine op0 ?_
   refine rs_ (upd none_ 4 (.v (.slice none 0 0))) noOb (lu rfl ln) rfl ?_
   refine awp_imp _ (imp_adopt 4 52 51 2 rfl rfl) ?_
   refine awp_ret ?_
   exact fretO 52 rfl rfl rfl rfl rfl
theorem concE (ls : List (List En)) (hl : ls.length ≤ 16) (hx : ∀ x, x ∈ ls → x.length ≤ 65536) : Fn Try.prog 55 [.ro ls.length (enc eEL ls)] (.ro ls.flatten.length (enc eEn ls.flatten)) := by
 refine fnE_of_body (N := 36) Try.func55 rfl rfl (resOf1 rfl) (by simp) (fun w0 X hL_ => ?_)
 refine seqR ?_
 refine opG rfl (aop_move (av := .v (.slice none 0 0)) (.inr rfl) rfl rfl rfl ?_)
 refine op0 ?_
 refine seqR ?_
 refine opG rfl (aop_move (av := .i 0) (.inr rfl) rfl rfl rfl ?_)
 refine op0 ?_
 refine awp_seq ?_
 refine seqR ?_
 refine opG rfl (aop_move (av := .q eEL ls) (.inl rfl) rfl rfl rfl ?_)
 refine opG rfl (aop_len rfl rfl rfl rfl ut102 (len_ro rfl) ?_)
 refine opG rfl (aop_move (av := .i 0) (.inl rfl) rfl rfl rfl ?_)
 refine op0 ?_
 refine rs_ (upd (upd (upd (upd (upd (upd none_ 0 (.q eEL ls)) 2 (.v (.slice none 0 0))) 3 (.i 0)) 9 (.q eEL ls)) 10 (.i (ls.length : Int))) 11 (.i 0)) noOb (lu rfl (lu rfl (lu rfl (lu rfl (lu rfl (lu rfl ln)))))) rfl ?_
 refine awp_block ?_
 refine awp_countI (fun k => ⟨(upd (upd (upd (upd (upd (upd none_ 0 (.q eEL ls)) 2 (.v (.slice none 0 0))) 3 (.i ((catK ls k).length : Int))) 9 (.q eEL ls)) 10 (.i (ls.length : Int))) 11 (.i (k : Int))), noOb⟩) (fun k => True) (ls.length) ?_ trivial (fun k hk_k hinv => ?_)
 ·skip
  exact imp_ler [] (ler0 (sS rfl (sS rfl (sS rfl (sS rfl (sS rfl (sS rfl sr_none))))))) (keep_of rfl)
 have hcl := catK_len hx k
 refine seqR ?_
 refine opG rfl (aop_binI (u := (.bool (decide ((k : Int) < (ls.length : Int))))) rfl rfl rfl rfl rfl trivial rfl ?_)
 refine op0 ?_
 refine awp_seq ?_
 refine awp_cond (decide ((k : Int) < (ls.length : Int))) rfl rfl (fun hc0 => ?_) (fun hc0 => ?_)
 ·skip
  have hf1 := of_decide_eq_true hc0
  have hkl : k < ls.length := by omega
  have hxk := hx _ (getD_mem [] hkl)
  refine awp_skip ?_
  refine awp_seq ?_
  refine awp_block ?_
  refine seqR ?_
  refine opG rfl (aop_ixE [] rfl rfl rfl ut102 sz69 rfl rfl (fun _ => rfl) rfl (by first | omega | (simp; done) | decide | (simp at *; omega)) ?_)
  refine opG rfl (aop_ld (av := .q eEn (ls.getD k [])) rfl rfl rfl ag69 rfl rfl ?_)
  refine opG rfl (aop_move (av := .q eEn (ls.getD k [])) (.inr rfl) rfl rfl rfl ?_)
  refine op0 ?_
  refine rs_ (upd (upd (upd (upd (upd (upd (upd none_ 0 (.q eEL ls)) 2 (.v (.slice none 0 0))) 3 (.i ((catK ls k).length : Int))) 5 (.q eEn (ls.getD k []))) 9 (.q eEL ls)) 10 (.i (ls.length : Int))) 11 (.i (k : Int))) noOb (lu rfl (lu rfl (lu rfl (lu rfl (lu rfl (lu rfl (lu rfl ln))))))) rfl ?_
  refine seqR ?_
  refine opG rfl (aop_move (av := .i ((catK ls k).length : Int)) (.inl rfl) rfl rfl rfl ?_)
  refine opG rfl (aop_move (av := .q eEn (ls.getD k [])) (.inl rfl) rfl rfl rfl ?_)
  refine opG rfl (aop_len rfl rfl rfl rfl ut69 (len_ro rfl) ?_)
  refine opG rfl (aop_binI (u := (.int .i64 (((catK ls k).length : Int) + ((ls.getD k []).length : Int)))) rfl rfl rfl rfl rfl trivial (addI (by omega)) ?_)
  refine opG rfl (aop_move (av := .i (((catK ls k).length : Int) + ((ls.getD k []).length : Int))) (.inr rfl) rfl rfl rfl ?_)
  refine op0 ?_
  refine rs_ (upd (upd (upd (upd (upd (upd (upd none_ 0 (.q eEL ls)) 2 (.v (.slice none 0 0))) 3 (.i (((catK ls k).length : Int) + ((ls.getD k []).length : Int)))) 5 (.q eEn (ls.getD k []))) 9 (.q eEL ls)) 10 (.i (ls.length : Int))) 11 (.i (k : Int))) noOb (lu rfl (lu rfl (lu rfl (lu rfl (lu rfl (lu rfl (lu rfl ln))))))) rfl ?_
  refine seqR ?_
  refine opG rfl (aop_move (av := .i (((catK ls k).length : Int) + ((ls.getD k []).length : Int))) (.inl rfl) rfl rfl rfl ?_)
  refine opG rfl (aop_binI (u := (.bool (decide ((((catK ls k).length : Int) + ((ls.getD k []).length : Int)) < 0)))) rfl rfl rfl rfl rfl trivial rfl ?_)
  refine op0 ?_
  refine awp_cond (decide ((((catK ls k).length : Int) + ((ls.getD k []).length : Int)) < 0)) rfl rfl (fun hc1 => ?_) (fun hc1 => ?_)
  ·skip
   have hf2 := of_decide_eq_true hc1
   exfalso; omega
  ·skip
   have hf3 := of_decide_eq_false hc1
   refine awp_skip ?_
   refine regR ?_
   refine opG rfl (aop_binI (u := (.int .i64 ((k + 1 : Nat) : Int))) rfl rfl rfl rfl rfl trivial (addN (by omega)) ?_)
   refine opG rfl (aop_move (av := .i ((k + 1 : Nat) : Int)) (.inl rfl) rfl rfl rfl ?_)
   refine op0 ?_
   show _ ∧ _
   have hs_ := catK_step (d := []) hkl
   refine ⟨by omega, trivial, ?_⟩
   exact imp_ler [] (ler0 (sS rfl (sS rfl (sS rfl (sS (by exact congrArg (fun n_ : Int => AV.v (.int .i64 n_)) (by rw [hs_, List.length_append]; omega)) (sS rfl (sS rfl sr_none))))))) (keep_of rfl)
 ·skip
  have hf4 := of_decide_eq_false hc0
  refine awp_exit ?_
  refine seqR ?_
  refine opG rfl (aop_move (av := .i ((catK ls k).length : Int)) (.inl rfl) rfl rfl rfl ?_)
  refine opG rfl (callO_ 51 (growE ((catK ls k).length) (by first | omega | (simp; done) | decide | (simp at *; omega))) rfl rfl rfl rfl rfl bd60 (lends_cons (lend_n (av := .v (.slice none 0 0))) (lends_cons (lend_n (av := .i ((catK ls k).length : Int))) lends_nil)) (.sl _ _ _ trivial) (news1 news0) (free1 rfl) rfl rfl ?_)
  refine opG rfl (aop_move (av := .sl 51 0 0) (.inr rfl) rfl rfl rfl ?_)
  refine op0 ?_
  refine rs_ (upd (upd (upd none_ 0 (.q eEL ls)) 2 (.v (.slice none 0 0))) 6 (.sl 51 0 0)) (updO noOb 51 (.live ⟨[], 51, 2⟩)) (lu rfl (lu rfl (lu rfl ln))) rfl ?_
  refine awp_seq ?_
  refine seqR ?_
  refine opG rfl (aop_move (av := .q eEL ls) (.inl rfl) rfl rfl rfl ?_)
  refine opG rfl (aop_len rfl rfl rfl rfl ut102 (len_ro rfl) ?_)
  refine opG rfl (aop_move (av := .i 0) (.inl rfl) rfl rfl rfl ?_)
  refine op0 ?_
  refine awp_block ?_
  refine awp_countI (fun j => ⟨(upd (upd (upd (upd (upd none_ 2 (.v (.slice none 0 0))) 6 (.sl 1 0 ((catK ls j).length))) 25 (.q eEL ls)) 26 (.i (ls.length : Int))) 27 (.i (j : Int))), (updO noOb 1 (.live ⟨(enc eEn (catK ls j)), 51, 2⟩))⟩) (fun j => True) (ls.length) ?_ trivial (fun j hk_j hinv => ?_)
  ·skip
   exact imp_ler [(51, 1)] (lerI 51 1 rfl rfl (sS rfl (sS rfl (sS rfl (sM rfl (sS rfl sr_none)))))) (keep_of rfl)
  have hcl2 := catK_len hx j
  refine seqR ?_
  refine opG rfl (aop_binI (u := (.bool (decide ((j : Int) < (ls.length : Int))))) rfl rfl rfl rfl rfl trivial rfl ?_)
  refine op0 ?_
  refine awp_seq ?_
  refine awp_cond (decide ((j : Int) < (ls.length : Int))) rfl rfl (fun hc2 => ?_) (fun hc2 => ?_)
  ·skip
   have hf5 := of_decide_eq_true hc2
   have hjl : j < ls.length := by omega
   have hxj := hx _ (getD_mem [] hjl)
   refine awp_skip ?_
   refine awp_seq ?_
   refine awp_block ?_
   refine seqR ?_
   refine opG rfl (aop_ixE [] rfl rfl rfl ut102 sz69 rfl rfl (fun _ => rfl) rfl (by first | omega | (simp; done) | decide | (simp at *; omega)) ?_)
   refine opG rfl (aop_ld (av := .q eEn (ls.getD j [])) rfl rfl rfl ag69 rfl rfl ?_)
   refine opG rfl (aop_move (av := .q eEn (ls.getD j [])) (.inr rfl) rfl rfl rfl ?_)
   refine op0 ?_
   refine rs_ (upd (upd (upd (upd (upd (upd none_ 2 (.v (.slice none 0 0))) 6 (.sl 1 0 ((catK ls j).length))) 8 (.q eEn (ls.getD j []))) 25 (.q eEL ls)) 26 (.i (ls.length : Int))) 27 (.i (j : Int))) (updO noOb 1 (.live ⟨(enc eEn (catK ls j)), 51, 2⟩)) (lu rfl (lu rfl (lu rfl (lu rfl (lu rfl (lu rfl ln)))))) rfl ?_
   refine regR ?_
   refine opG rfl (aop_move (av := .sl 1 0 ((catK ls j).length)) (.inl rfl) rfl rfl rfl ?_)
   refine opG rfl (aop_move (av := .q eEn (ls.getD j [])) (.inl rfl) rfl rfl rfl ?_)
   refine opG rfl (aop_appE (f := eEn) (l := catK ls j) (l2 := ls.getD j []) 52 rfl rfl rfl rfl ut69 in51 rfl (by decide) rfl rfl rfl rfl rfl rfl (fun _ => rfl) rfl rfl rfl (by first | omega | (simp; done) | decide | (simp at *; omega)) (by first | omega | (simp; done) | decide | (simp at *; omega)) rfl ?_)
   refine opG rfl (aop_move (av := .sl 52 0 (((catK ls j) ++ (ls.getD j [])).length)) (.inr rfl) rfl rfl rfl ?_)
   refine op0 ?_
   refine rs_ (upd (upd (upd (upd (upd (upd none_ 2 (.v (.slice none 0 0))) 6 (.sl 52 0 (((catK ls j) ++ (ls.getD j [])).length))) 8 (.q eEn (ls.getD j []))) 25 (.q eEL ls)) 26 (.i (ls.length : Int))) 27 (.i (j : Int))) (updO (updO (updO noOb 1 (.live ⟨(enc eEn (catK ls j)), 51, 2⟩)) 1 .dead) 52 (.live ⟨(enc eEn ((catK ls j) ++ (ls.getD j []))), 51, 2⟩)) (lu rfl (lu rfl (lu rfl (lu rfl (lu rfl (lu rfl ln)))))) rfl ?_
   refine regR ?_
   refine opG rfl (aop_binI (u := (.int .i64 ((j + 1 : Nat) : Int))) rfl rfl rfl rfl rfl trivial (addN (by omega)) ?_)
   refine opG rfl (aop_move (av := .i ((j + 1 : Nat) : Int)) (.inl rfl) rfl rfl rfl ?_)
   refine op0 ?_
   show _ ∧ _
   have hs_ := catK_step (d := []) hjl
   refine ⟨by omega, trivial, ?_⟩
   exact imp_ler [(52, 1)] (lerI 52 1 rfl (by exact congrArg (fun l_ => LObj.mk (enc eEn l_) 51 2) hs_) (sS rfl (sS rfl (sS rfl (sM (by exact congrArg (AV.sl 1 0) (congrArg List.length hs_.symm)) (sS rfl sr_none)))))) (keep_of rfl)
  ·skip
   have hf6 := of_decide_eq_false hc2
   refine awp_exit ?_
   refine seqR ?_
   refine opG rfl (aop_move (av := .sl 1 0 ((catK ls j).length)) (.inl rfl) rfl rfl rfl ?_)
   refine opG rfl (aop_move (av := .sl 1 0 ((catK ls j).length)) (.inr rfl) rfl rfl rfl ?_)
   refine op0 ?_
   have he : catK ls j = ls.flatten := by unfold catK; rw [List.take_of_length_le (by omega)]
   refine awp_imp _ (imp_frozen rfl (fun _ h => h) (lee_lend 2 (.q eEn (catK ls j)) (lend_s (id := 1) (n := (catK ls j).length) (o := ⟨(enc eEn (catK ls j)), 51, 2⟩) rfl (enc_len (fun _ => rfl) (by first | rfl | (simp; done)))) lee_lend0)) ?_
   refine awp_ret ?_
   exact fret (av := .ro ((catK ls j).length) (enc eEn (catK ls j))) rfl rfl (by rw [he])
theorem g_Around (secs : List Sec) (pts : List Pnt) (s e : Int) (hs : secs.length ≤ 65536) (hp : pts.length ≤ 65536) : Fn Try.prog 43 [.rp [.one, .ro secs.length (enc eSec secs), .one, .ro pts.length (enc ePnt pts), .one, .one, .one, .one, .one, .one], .agg [.v (.int .i64 s), .v (.int .i64 e)]] (.ro ((aroundL secs pts s e).length) (enc eEn (aroundL secs pts s e))) := by
 refine fnE_of_body (N := 70) Try.func43 rfl rfl (resOf1 rfl) (by simp) (fun w0 X hL_ => ?_)
 refine seqR ?_
 refine opG rfl (aop_box 51 rfl rfl rfl rfl rfl rfl rfl ?_)
 refine opG rfl (aop_move (av := .v (.slice none 0 0)) (.inr rfl) rfl rfl rfl ?_)
 refine op0 ?_
 refine seqR ?_
 refine opG rfl (aop_move (av := .rp [.one, .q eSec secs, .one, .q ePnt pts, .one, .one, .one, .one, .one, .one]) (.inl rfl) rfl rfl rfl ?_)
 refine opG rfl (aop_ldB (cells' := [.i s, .i e]) rfl rfl rfl ag51 sz51 rfl rfl rfl rfl ?_)
 refine opG rfl (callW_ (g_node secs s e (by first | omega | (simp; done) | decide | (simp at *; omega))) rfl rfl rfl rfl rfl bd44 (lends_cons (lend_rpw (lends_cons (lend_n (av := .one)) (lends_cons (lend_n (av := .q eSec secs)) (lends_cons (lend_n (av := .one)) (lends_cons (.one _ rfl) (lends_cons (lend_n (av := .one)) (lends_cons (lend_n (av := .one)) (lends_cons (lend_n (av := .one)) (lends_cons (lend_n (av := .one)) (lends_cons (lend_n (av := .one)) (lends_cons (lend_n (av := .one)) lends_nil))))))))))) (lends_cons (lend_n (av := .agg [.i s, .i e])) lends_nil)) ?_)
 refine opG rfl (aop_move (av := .tup [.i (nodeA secs s e), .b (!noNode secs s e)]) (.inl rfl) rfl rfl rfl ?_)
 refine opG rfl (aop_extract rfl rfl rfl rfl rfl ?_)
 refine opG rfl (aop_extract rfl rfl rfl rfl rfl ?_)
 refine opG rfl (aop_move (av := .i (nodeA secs s e)) (.inr rfl) rfl rfl rfl ?_)
 refine opG rfl (aop_move (av := .b (!noNode secs s e)) (.inr rfl) rfl rfl rfl ?_)
 refine op0 ?_
 refine rs_ (upd (upd (upd (upd (upd none_ 0 (.rp [.one, .q eSec secs, .one, .q ePnt pts, .one, .one, .one, .one, .one, .one])) 3 (.pt 51 0)) 4 (.v (.slice none 0 0))) 5 (.i (nodeA secs s e))) 6 (.b (!noNode secs s e))) (updO noOb 51 (.live ⟨[.i s, .i e], 51, 1⟩)) (lu rfl (lu rfl (lu rfl (lu rfl (lu rfl ln))))) rfl ?_
 refine awp_seq ?_
 refine seqR ?_
 refine opG rfl (aop_move (av := .b (!noNode secs s e)) (.inl rfl) rfl rfl rfl ?_)
 refine opG rfl (aop_not rfl rfl rfl rfl ?_)
 refine op0 ?_
 refine awp_cond (!(!noNode secs s e)) rfl rfl (fun hc0 => ?_) (fun hc0 => ?_)
 ·skip
  have hf1 := not_t hc0
  have hn : noNode secs s e = true := by simpa using hc0
  refine seqR ?_
  refine opG rfl (aop_move (av := .v (.slice none 0 0)) (.inr rfl) rfl rfl rfl ?_)
  refine op0 ?_
  refine awp_imp _ (imp_frozen rfl (fun _ h => h) (lee_lend 4 (.ro 0 []) .nil lee_lend0)) ?_
  refine awp_ret ?_
  exact fret (av := .ro 0 []) rfl rfl (by rw [around_no hn]; rfl)
 ·skip
  have hf2 := not_f hc0
  have hn : noNode secs s e = false := by simpa using hc0
  have hr_ := pointI_range pts (nodeA secs s e)
  refine awp_skip ?_
  refine seqR ?_
  refine opG rfl (aop_move (av := .rp [.one, .q eSec secs, .one, .q ePnt pts, .one, .one, .one, .one, .one, .one]) (.inl rfl) rfl rfl rfl ?_)
  refine opG rfl (aop_move (av := .i (nodeA secs s e)) (.inl rfl) rfl rfl rfl ?_)
  refine opG rfl (callW_ (g_Point pts (nodeA secs s e) (by first | omega | (simp; done) | decide | (simp at *; omega))) rfl rfl rfl rfl rfl bd45 (lends_cons (lend_rpw (lends_cons (lend_n (av := .one)) (lends_cons (.one _ rfl) (lends_cons (lend_n (av := .one)) (lends_cons (lend_n (av := .q ePnt pts)) (lends_cons (lend_n (av := .one)) (lends_cons (lend_n (av := .one)) (lends_cons (lend_n (av := .one)) (lends_cons (lend_n (av := .one)) (lends_cons (lend_n (av := .one)) (lends_cons (lend_n (av := .one)) lends_nil))))))))))) (lends_cons (lend_n (av := .i (nodeA secs s e))) lends_nil)) ?_)
  refine opG rfl (aop_move (av := .i (pointI pts (nodeA secs s e))) (.inr rfl) rfl rfl rfl ?_)
  refine op0 ?_
  refine rs_ (upd (upd (upd (upd (upd none_ 0 (.rp [.one, .q eSec secs, .one, .q ePnt pts, .one, .one, .one, .one, .one, .one])) 3 (.pt 51 0)) 4 (.v (.slice none 0 0))) 5 (.i (nodeA secs s e))) 7 (.i (pointI pts (nodeA secs s e)))) (updO noOb 51 (.live ⟨[.i s, .i e], 51, 1⟩)) (lu rfl (lu rfl (lu rfl (lu rfl (lu rfl ln))))) rfl ?_
  refine awp_seq ?_
  refine seqR ?_
  refine opG rfl (aop_move (av := .i (pointI pts (nodeA secs s e))) (.inl rfl) rfl rfl rfl ?_)
  refine opG rfl (aop_binI (u := (.bool (decide ((pointI pts (nodeA secs s e)) < 0)))) rfl rfl rfl rfl rfl trivial rfl ?_)
  refine op0 ?_
  refine awp_cond (decide ((pointI pts (nodeA secs s e)) < 0)) rfl rfl (fun hc1 => ?_) (fun hc1 => ?_)
  ·skip
   have hf3 := of_decide_eq_true hc1
   have hi : ¬ 0 ≤ pointI pts (nodeA secs s e) := by omega
   have hle0 := endsL_len secs (nodeA secs s e)
   refine seqR ?_
   refine opG rfl (aop_move (av := .rp [.one, .q eSec secs, .one, .q ePnt pts, .one, .one, .one, .one, .one, .one]) (.inl rfl) rfl rfl rfl ?_)
   refine opG rfl (aop_move (av := .i (nodeA secs s e)) (.inl rfl) rfl rfl rfl ?_)
   refine opG rfl (callO_ 52 (g_Ends secs (nodeA secs s e) (by first | omega | (simp; done) | decide | (simp at *; omega))) rfl rfl rfl rfl rfl bd53 (lends_cons (lend_rpw (lends_cons (lend_n (av := .one)) (lends_cons (lend_n (av := .q eSec secs)) (lends_cons (lend_n (av := .one)) (lends_cons (.one _ rfl) (lends_cons (lend_n (av := .one)) (lends_cons (lend_n (av := .one)) (lends_cons (lend_n (av := .one)) (lends_cons (lend_n (av := .one)) (lends_cons (lend_n (av := .one)) (lends_cons (lend_n (av := .one)) lends_nil))))))))))) (lends_cons (lend_n (av := .i (nodeA secs s e))) lends_nil)) (.sl _ _ _ trivial) (news1 news0) (free1 rfl) rfl rfl ?_)
   refine opG rfl (aop_makeFunc (caps := [.tmp 3]) rfl rfl rfl rfl ?_)
   refine opG rfl (callG_ true [52] [] (delE (endsL secs (nodeA secs s e)) s e (by first | omega | (simp; done) | decide | (simp at *; omega))) rfl rfl rfl rfl rfl bd52 (by decide) ⟨giv_no (o := ⟨(enc eEn (endsL secs (nodeA secs s e))), 51, 2⟩) rfl rfl, trivial⟩ ⟨(arg_own (.sl _ _ _ (by simp)) rfl), (arg_lent (lend_fn (lends_cons (lend_pt rfl (lends_cons (lend_n (av := .i s)) (lends_cons (lend_n (av := .i e)) lends_nil))) lends_nil))), trivial⟩ rfl trivial (fun _ => ⟨.sl _ _ _ trivial, ⟨(fun c hc => ((inferInstance : FlatL (enc eEn (restG (fun x : En => decide (x.sec = s ∧ x.en = e)) (endsL secs (nodeA secs s e)) ++ List.replicate ((endsL secs (nodeA secs s e)).length - (restG (fun x : En => decide (x.sec = s ∧ x.en = e)) (endsL secs (nodeA secs s e))).length) dE))).out c hc).mono (fun _ h => h.elim) id), trivial⟩⟩) rfl (place_cons (ost_no (cs := (enc eEn (restG (fun x : En => decide (x.sec = s ∧ x.en = e)) (endsL secs (nodeA secs s e)) ++ List.replicate ((endsL secs (nodeA secs s e)).length - (restG (fun x : En => decide (x.sec = s ∧ x.en = e)) (endsL secs (nodeA secs s e))).length) dE)))) place_nil) ?_)
   refine opG rfl (aop_move (av := .sl 52 0 ((restG (fun x : En => decide (x.sec = s ∧ x.en = e)) (endsL secs (nodeA secs s e))).length)) (.inr rfl) rfl rfl rfl ?_)
   refine op0 ?_
   refine rs_ (upd (upd (upd (upd (upd (upd none_ 0 (.rp [.one, .q eSec secs, .one, .q ePnt pts, .one, .one, .one, .one, .one, .one])) 3 (.pt 51 0)) 4 (.v (.slice none 0 0))) 5 (.i (nodeA secs s e))) 7 (.i (pointI pts (nodeA secs s e)))) 8 (.sl 52 0 ((restG (fun x : En => decide (x.sec = s ∧ x.en = e)) (endsL secs (nodeA secs s e))).length))) (updO (updO (updO noOb 51 (.live ⟨[.i s, .i e], 51, 1⟩)) 52 (.live ⟨(enc eEn (endsL secs (nodeA secs s e))), 51, 2⟩)) 52 (.live ⟨(enc eEn (restG (fun x : En => decide (x.sec = s ∧ x.en = e)) (endsL secs (nodeA secs s e)) ++ List.replicate ((endsL secs (nodeA secs s e)).length - (restG (fun x : En => decide (x.sec = s ∧ x.en = e)) (endsL secs (nodeA secs s e))).length) dE)), 51, 2⟩)) (lu rfl (lu rfl (lu rfl (lu rfl (lu rfl (lu rfl ln)))))) rfl ?_
   refine awp_seq ?_
   refine seqR ?_
   refine opG rfl (aop_move (av := .sl 52 0 ((restG (fun x : En => decide (x.sec = s ∧ x.en = e)) (endsL secs (nodeA secs s e))).length)) (.inl rfl) rfl rfl rfl ?_)
   refine opG rfl (aop_len rfl rfl rfl rfl ut69 (len_sl rfl) ?_)
   refine opG rfl (aop_binI (u := (.bool (((restG (fun x : En => decide (x.sec = s ∧ x.en = e)) (endsL secs (nodeA secs s e))).length : Int) != 1))) rfl rfl rfl rfl rfl trivial rfl ?_)
   refine op0 ?_
   refine awp_cond (((restG (fun x : En => decide (x.sec = s ∧ x.en = e)) (endsL secs (nodeA secs s e))).length : Int) != 1) rfl rfl (fun hc2 => ?_) (fun hc2 => ?_)
   ·skip
    have hf4 := (bne_iff_ne).1 hc2
    have hlen : ¬ (otherE secs (nodeA secs s e) s e).length = 1 := by rw [otherE_rest]; simp at hc2; omega
    refine seqR ?_
    refine opG rfl (aop_move (av := .v (.slice none 0 0)) (.inr rfl) rfl rfl rfl ?_)
    refine op0 ?_
    refine rs_ (upd (upd (upd (upd (upd (upd none_ 0 (.rp [.one, .q eSec secs, .one, .q ePnt pts, .one, .one, .one, .one, .one, .one])) 3 (.pt 51 0)) 4 (.v (.slice none 0 0))) 5 (.i (nodeA secs s e))) 7 (.i (pointI pts (nodeA secs s e)))) 8 (.sl 52 0 ((restG (fun x : En => decide (x.sec = s ∧ x.en = e)) (endsL secs (nodeA secs s e))).length))) (updO (updO (updO noOb 51 (.live ⟨[.i s, .i e], 51, 1⟩)) 52 (.live ⟨(enc eEn (endsL secs (nodeA secs s e))), 51, 2⟩)) 52 (.live ⟨(enc eEn (restG (fun x : En => decide (x.sec = s ∧ x.en = e)) (endsL secs (nodeA secs s e)) ++ List.replicate ((endsL secs (nodeA secs s e)).length - (restG (fun x : En => decide (x.sec = s ∧ x.en = e)) (endsL secs (nodeA secs s e))).length) dE)), 51, 2⟩)) (lu rfl (lu rfl (lu rfl (lu rfl (lu rfl (lu rfl ln)))))) rfl ?_
    refine awp_imp _ (imp_frozen rfl (fun _ h => h) (lee_lend 4 (.ro 0 []) .nil lee_lend0)) ?_
    refine awp_ret ?_
    exact fret (av := .ro 0 []) rfl rfl (by rw [around_many hn hi hlen]; rfl)
   ·skip
    have hf5 := (bne_eq_false_iff_eq).1 hc2
    have hlen : (otherE secs (nodeA secs s e) s e).length = 1 := by rw [otherE_rest]; simp at hc2; omega
    refine awp_skip ?_
    refine seqR ?_
    refine opG rfl (aop_move (av := .sl 52 0 ((restG (fun x : En => decide (x.sec = s ∧ x.en = e)) (endsL secs (nodeA secs s e))).length)) (.inl rfl) rfl rfl rfl ?_)
    refine opG rfl (aop_move (av := .sl 52 0 ((restG (fun x : En => decide (x.sec = s ∧ x.en = e)) (endsL secs (nodeA secs s e))).length)) (.inr rfl) rfl rfl rfl ?_)
    refine op0 ?_
    refine rs_ (upd (upd (upd (upd (upd none_ 0 (.rp [.one, .q eSec secs, .one, .q ePnt pts, .one, .one, .one, .one, .one, .one])) 3 (.pt 51 0)) 4 (.sl 52 0 ((restG (fun x : En => decide (x.sec = s ∧ x.en = e)) (endsL secs (nodeA secs s e))).length))) 5 (.i (nodeA secs s e))) 7 (.i (pointI pts (nodeA secs s e)))) (updO (updO (updO noOb 51 (.live ⟨[.i s, .i e], 51, 1⟩)) 52 (.live ⟨(enc eEn (endsL secs (nodeA secs s e))), 51, 2⟩)) 52 (.live ⟨(enc eEn (restG (fun x : En => decide (x.sec = s ∧ x.en = e)) (endsL secs (nodeA secs s e)) ++ List.replicate ((endsL secs (nodeA secs s e)).length - (restG (fun x : En => decide (x.sec = s ∧ x.en = e)) (endsL secs (nodeA secs s e))).length) dE)), 51, 2⟩)) (lu rfl (lu rfl (lu rfl (lu rfl (lu rfl ln))))) rfl ?_
    refine awp_imp _ (imp_frozen rfl (fun _ h => h) (lee_lend 4 (.q eEn (restG (fun x : En => decide (x.sec = s ∧ x.en = e)) (endsL secs (nodeA secs s e)))) (lend_p (id := 52) (n := (restG (fun x : En => decide (x.sec = s ∧ x.en = e)) (endsL secs (nodeA secs s e))).length) (o := ⟨(enc eEn (restG (fun x : En => decide (x.sec = s ∧ x.en = e)) (endsL secs (nodeA secs s e)) ++ List.replicate ((endsL secs (nodeA secs s e)).length - (restG (fun x : En => decide (x.sec = s ∧ x.en = e)) (endsL secs (nodeA secs s e))).length) dE)), 51, 2⟩) (f := eEn) (l := restG (fun x : En => decide (x.sec = s ∧ x.en = e)) (endsL secs (nodeA secs s e))) (rest := List.replicate ((endsL secs (nodeA secs s e)).length - (restG (fun x : En => decide (x.sec = s ∧ x.en = e)) (endsL secs (nodeA secs s e))).length) dE) rfl rfl rfl (fun _ => rfl)) lee_lend0)) ?_
    refine awp_ret ?_
    exact fret (av := .ro ((restG (fun x : En => decide (x.sec = s ∧ x.en = e)) (endsL secs (nodeA secs s e))).length) (enc eEn (restG (fun x : En => decide (x.sec = s ∧ x.en = e)) (endsL secs (nodeA secs s e))))) rfl rfl (by rw [around_one hn hi hlen, otherE_rest])
  ·skip
   have hf6 := of_decide_eq_false hc1
   have hi : 0 ≤ pointI pts (nodeA secs s e) := by omega
   have ho1 := oneE_len secs (pts.getD (pointI pts (nodeA secs s e)).toNat dP).left (nodeA secs s e)
   have ho2 := oneE_len secs (pts.getD (pointI pts (nodeA secs s e)).toNat dP).right (nodeA secs s e)
   have hxl : ∀ x, x ∈ [oneE secs (pts.getD (pointI pts (nodeA secs s e)).toNat dP).left (nodeA secs s e), oneE secs (pts.getD (pointI pts (nodeA secs s e)).toNat dP).right (nodeA secs s e)] → x.length ≤ 65536 := fun x hx => by rcases List.mem_cons.1 hx with rfl | hx; omega; rw [List.mem_singleton.1 hx]; omega
   refine awp_skip ?_
   refine seqR ?_
   refine opG rfl (aop_move (av := .rp [.one, .q eSec secs, .one, .q ePnt pts, .one, .one, .one, .one, .one, .one]) (.inl rfl) rfl rfl rfl ?_)
   refine opG rfl (aop_nilCheck rfl rfl rfl rfl rfl ?_)
   refine opG rfl (aop_fieldAddr (av := .rp [.one, .q eSec secs, .one, .q ePnt pts, .one, .one, .one, .one, .one, .one]) (av' := .rp [.one, .q eSec secs, .one, .q ePnt pts, .one, .one, .one, .one, .one, .one]) rfl rfl rfl ft67_0 sz37 rfl rfl rfl ?_)
   refine opG rfl (aop_fieldAddr (av := .rp [.one, .q eSec secs, .one, .q ePnt pts, .one, .one, .one, .one, .one, .one]) (av' := .rp [.q ePnt pts, .one, .one, .one, .one, .one, .one]) rfl rfl rfl ft37_3 sz35 rfl rfl rfl ?_)
   refine opG rfl (aop_ld (av := .q ePnt pts) rfl rfl rfl ag35 rfl rfl ?_)
   refine opG rfl (aop_move (av := .i (pointI pts (nodeA secs s e))) (.inl rfl) rfl rfl rfl ?_)
   refine opG rfl (aop_ixI dP rfl rfl rfl ut35 sz58 rfl rfl (fun _ => rfl) rfl (by omega) (by first | omega | (simp; done) | decide | (simp at *; omega)) ?_)
   refine opG rfl (aop_ldB (cells' := [.i ((pts.getD (pointI pts (nodeA secs s e)).toNat dP).node), .i ((pts.getD (pointI pts (nodeA secs s e)).toNat dP).stem), .i ((pts.getD (pointI pts (nodeA secs s e)).toNat dP).left), .i ((pts.getD (pointI pts (nodeA secs s e)).toNat dP).right)]) rfl rfl rfl ag58 sz58 rfl rfl rfl rfl ?_)
   refine opG rfl (aop_alloc 53 rfl rfl rfl rfl ze58 rfl ?_)
   refine opG rfl (aop_store rfl rfl rfl sz58 rfl rfl rfl rfl rfl (Nat.le_of_ble_eq_true rfl) rfl rfl ?_)
   refine op0 ?_
   refine rs_ (upd (upd (upd (upd (upd none_ 0 (.rp [.one, .q eSec secs, .one, .q ePnt pts, .one, .one, .one, .one, .one, .one])) 3 (.pt 51 0)) 4 (.v (.slice none 0 0))) 5 (.i (nodeA secs s e))) 9 (.pt 53 0)) (updO (updO (updO noOb 51 (.live ⟨[.i s, .i e], 51, 1⟩)) 53 (.live ⟨[.i 0, .i 0, .i 0, .i 0], 58, 1⟩)) 53 (.live ⟨[.i ((pts.getD (pointI pts (nodeA secs s e)).toNat dP).node), .i ((pts.getD (pointI pts (nodeA secs s e)).toNat dP).stem), .i ((pts.getD (pointI pts (nodeA secs s e)).toNat dP).left), .i ((pts.getD (pointI pts (nodeA secs s e)).toNat dP).right)], 58, 1⟩)) (lu rfl (lu rfl (lu rfl (lu rfl (lu rfl ln))))) rfl ?_
   refine awp_seq ?_
   refine seqR ?_
   refine opG rfl (aop_fieldAddr (av := .pt 51 0) (av' := .pt 51 0) rfl rfl rfl ft51_0 sz3 rfl rfl rfl ?_)
   refine opG rfl (aop_ld (av := .i s) rfl rfl rfl ag3 rfl rfl ?_)
   refine op0 ?_
   refine awp_block ?_
   refine seqR ?_
   refine opG rfl (aop_fieldAddr (av := .pt 53 0) (av' := .pt 53 1) rfl rfl rfl ft58_1 sz3 rfl rfl rfl ?_)
   refine opG rfl (aop_ld (av := .i ((pts.getD (pointI pts (nodeA secs s e)).toNat dP).stem)) rfl rfl rfl ag3 rfl rfl ?_)
   refine opG rfl (aop_binI (u := (.bool (s == ((pts.getD (pointI pts (nodeA secs s e)).toNat dP).stem)))) rfl rfl rfl rfl rfl trivial rfl ?_)
   refine opG rfl (aop_move (av := .b (s == ((pts.getD (pointI pts (nodeA secs s e)).toNat dP).stem))) (.inr rfl) rfl rfl rfl ?_)
   refine op0 ?_
   refine rs_ (upd (upd (upd (upd (upd (upd none_ 0 (.rp [.one, .q eSec secs, .one, .q ePnt pts, .one, .one, .one, .one, .one, .one])) 4 (.v (.slice none 0 0))) 5 (.i (nodeA secs s e))) 9 (.pt 53 0)) 41 (.i s)) 42 (.b (s == ((pts.getD (pointI pts (nodeA secs s e)).toNat dP).stem)))) (updO (updO (updO noOb 51 (.live ⟨[.i s, .i e], 51, 1⟩)) 53 (.live ⟨[.i 0, .i 0, .i 0, .i 0], 58, 1⟩)) 53 (.live ⟨[.i ((pts.getD (pointI pts (nodeA secs s e)).toNat dP).node), .i ((pts.getD (pointI pts (nodeA secs s e)).toNat dP).stem), .i ((pts.getD (pointI pts (nodeA secs s e)).toNat dP).left), .i ((pts.getD (pointI pts (nodeA secs s e)).toNat dP).right)], 58, 1⟩)) (lu rfl (lu rfl (lu rfl (lu rfl (lu rfl (lu rfl ln)))))) rfl ?_
   refine awp_cond (s == ((pts.getD (pointI pts (nodeA secs s e)).toNat dP).stem)) rfl rfl (fun hc3 => ?_) (fun hc3 => ?_)
   ·skip
    have hf7 := (beq_iff_eq).1 hc3
    have hq : s = (pts.getD (pointI pts (nodeA secs s e)).toNat dP).stem := by simpa using hc3
    refine awp_seq ?_
    refine awp_draw (m := 12) [(57, .ro ([(oneE secs ((pts.getD (pointI pts (nodeA secs s e)).toNat dP).left) (nodeA secs s e) : (List En)), (oneE secs ((pts.getD (pointI pts (nodeA secs s e)).toNat dP).right) (nodeA secs s e) : (List En))].flatten.length) (enc eEn ([(oneE secs ((pts.getD (pointI pts (nodeA secs s e)).toNat dP).left) (nodeA secs s e) : (List En)), (oneE secs ((pts.getD (pointI pts (nodeA secs s e)).toNat dP).right) (nodeA secs s e) : (List En))].flatten))), (56, .ro 2 [.q eEn (oneE secs ((pts.getD (pointI pts (nodeA secs s e)).toNat dP).left) (nodeA secs s e)), .q eEn (oneE secs ((pts.getD (pointI pts (nodeA secs s e)).toNat dP).right) (nodeA secs s e))]), (55, .q eEn (oneE secs ((pts.getD (pointI pts (nodeA secs s e)).toNat dP).right) (nodeA secs s e))), (54, .i (nodeA secs s e)), (53, .i ((pts.getD (pointI pts (nodeA secs s e)).toNat dP).right)), (52, .pt 53 3), (51, .rp [.one, .q eSec secs, .one, .q ePnt pts, .one, .one, .one, .one, .one, .one]), (50, .q eEn (oneE secs ((pts.getD (pointI pts (nodeA secs s e)).toNat dP).left) (nodeA secs s e))), (49, .i (nodeA secs s e)), (48, .i ((pts.getD (pointI pts (nodeA secs s e)).toNat dP).left)), (47, .pt 53 2), (46, .rp [.one, .q eSec secs, .one, .q ePnt pts, .one, .one, .one, .one, .one, .one])] mixed (by kernel_rfl) ?_ ?_
    ·refine ⟨?_, ?_, ?_, ?_, ?_, ?_, ?_, ?_, ?_, ?_, ?_, ?_, trivial⟩
     ·exact ⟨46, rfl, blt_lt rfl, fun st hob hE => aop_move (av := .rp [.one, .q eSec secs, .one, .q ePnt pts, .one, .one, .one, .one, .one, .one]) (.inl rfl) rfl rfl (hE 0 rfl) (by rw [hob]; rfl)⟩
     ·exact ⟨47, rfl, blt_lt rfl, fun st hob hE => aop_fieldAddr (av := .pt 53 0) (av' := .pt 53 2) rfl rfl rfl ft58_2 sz3 (hE 9 rfl) rfl rfl (by rw [hob]; rfl)⟩
     ·exact ⟨48, rfl, blt_lt rfl, fun st hob hE => aop_ld (av := .i ((pts.getD (pointI pts (nodeA secs s e)).toNat dP).left)) rfl rfl rfl ag3 (hE 47 rfl) (by rw [hob]; rfl) (by rw [hob]; rfl)⟩
     ·exact ⟨49, rfl, blt_lt rfl, fun st hob hE => aop_move (av := .i (nodeA secs s e)) (.inl rfl) rfl rfl (hE 5 rfl) (by rw [hob]; rfl)⟩
     ·exact ⟨50, rfl, blt_lt rfl, fun st hob hE => callW_ (g_at secs ((pts.getD (pointI pts (nodeA secs s e)).toNat dP).left) (nodeA secs s e) (by first | omega | (simp; done) | decide | (simp at *; omega))) rfl rfl rfl rfl rfl bd56 (by show Lends _ ([st.env 46, st.env 48, st.env 49] ++ _) _; rw [hE 46 rfl, hE 48 rfl, hE 49 rfl]; exact (lends_cons (lend_rpw (lends_cons (lend_n (av := .one)) (lends_cons (lend_n (av := .q eSec secs)) (lends_cons (lend_n (av := .one)) (lends_cons (.one _ rfl) (lends_cons (lend_n (av := .one)) (lends_cons (lend_n (av := .one)) (lends_cons (lend_n (av := .one)) (lends_cons (lend_n (av := .one)) (lends_cons (lend_n (av := .one)) (lends_cons (lend_n (av := .one)) lends_nil))))))))))) (lends_cons (lend_n (av := .i ((pts.getD (pointI pts (nodeA secs s e)).toNat dP).left))) (lends_cons (lend_n (av := .i (nodeA secs s e))) lends_nil)))) (by rw [hob]; rfl)⟩
     ·exact ⟨51, rfl, blt_lt rfl, fun st hob hE => aop_move (av := .rp [.one, .q eSec secs, .one, .q ePnt pts, .one, .one, .one, .one, .one, .one]) (.inl rfl) rfl rfl (hE 0 rfl) (by rw [hob]; rfl)⟩
     ·exact ⟨52, rfl, blt_lt rfl, fun st hob hE => aop_fieldAddr (av := .pt 53 0) (av' := .pt 53 3) rfl rfl rfl ft58_3 sz3 (hE 9 rfl) rfl rfl (by rw [hob]; rfl)⟩
     ·exact ⟨53, rfl, blt_lt rfl, fun st hob hE => aop_ld (av := .i ((pts.getD (pointI pts (nodeA secs s e)).toNat dP).right)) rfl rfl rfl ag3 (hE 52 rfl) (by rw [hob]; rfl) (by rw [hob]; rfl)⟩
     ·exact ⟨54, rfl, blt_lt rfl, fun st hob hE => aop_move (av := .i (nodeA secs s e)) (.inl rfl) rfl rfl (hE 5 rfl) (by rw [hob]; rfl)⟩
     ·exact ⟨55, rfl, blt_lt rfl, fun st hob hE => callW_ (g_at secs ((pts.getD (pointI pts (nodeA secs s e)).toNat dP).right) (nodeA secs s e) (by first | omega | (simp; done) | decide | (simp at *; omega))) rfl rfl rfl rfl rfl bd56 (by show Lends _ ([st.env 51, st.env 53, st.env 54] ++ _) _; rw [hE 51 rfl, hE 53 rfl, hE 54 rfl]; exact (lends_cons (lend_rpw (lends_cons (lend_n (av := .one)) (lends_cons (lend_n (av := .q eSec secs)) (lends_cons (lend_n (av := .one)) (lends_cons (.one _ rfl) (lends_cons (lend_n (av := .one)) (lends_cons (lend_n (av := .one)) (lends_cons (lend_n (av := .one)) (lends_cons (lend_n (av := .one)) (lends_cons (lend_n (av := .one)) (lends_cons (lend_n (av := .one)) lends_nil))))))))))) (lends_cons (lend_n (av := .i ((pts.getD (pointI pts (nodeA secs s e)).toNat dP).right))) (lends_cons (lend_n (av := .i (nodeA secs s e))) lends_nil)))) (by rw [hob]; rfl)⟩
     ·exact ⟨56, rfl, blt_lt rfl, fun st hob hE => aop_lit rfl rfl rfl ut102 iz69 (by decide) (by decide) (by simp only [partsA, List.map, evA, hE 50 rfl, hE 55 rfl]; rfl) rfl (by rw [hob]; rfl)⟩
     ·exact ⟨57, rfl, blt_lt rfl, fun st hob hE => call_ (concE [oneE secs (pts.getD (pointI pts (nodeA secs s e)).toNat dP).left (nodeA secs s e), oneE secs (pts.getD (pointI pts (nodeA secs s e)).toNat dP).right (nodeA secs s e)] (Nat.le_of_ble_eq_true rfl) hxl) rfl rfl rfl rfl rfl bd55 (by show [st.env 56] ++ _ = _; rw [hE 56 rfl]; rfl) (by rw [hob]; rfl)⟩
    refine opG rfl (aop_move (av := .ro ([(oneE secs ((pts.getD (pointI pts (nodeA secs s e)).toNat dP).left) (nodeA secs s e) : (List En)), (oneE secs ((pts.getD (pointI pts (nodeA secs s e)).toNat dP).right) (nodeA secs s e) : (List En))].flatten.length) (enc eEn ([(oneE secs ((pts.getD (pointI pts (nodeA secs s e)).toNat dP).left) (nodeA secs s e) : (List En)), (oneE secs ((pts.getD (pointI pts (nodeA secs s e)).toNat dP).right) (nodeA secs s e) : (List En))].flatten))) (.inr rfl) rfl rfl rfl ?_)
    refine op0 ?_
    refine awp_ret ?_
    exact fret (av := .ro ([(oneE secs ((pts.getD (pointI pts (nodeA secs s e)).toNat dP).left) (nodeA secs s e) : (List En)), (oneE secs ((pts.getD (pointI pts (nodeA secs s e)).toNat dP).right) (nodeA secs s e) : (List En))].flatten.length) (enc eEn ([(oneE secs ((pts.getD (pointI pts (nodeA secs s e)).toNat dP).left) (nodeA secs s e) : (List En)), (oneE secs ((pts.getD (pointI pts (nodeA secs s e)).toNat dP).right) (nodeA secs s e) : (List En))].flatten))) rfl rfl (by rw [around_stem hn hi hq]; simp)
   ·skip
    have hf8 := (beq_eq_false_iff_ne).1 hc3
    have hq : ¬ s = (pts.getD (pointI pts (nodeA secs s e)).toNat dP).stem := by simpa using hc3
    refine awp_seq ?_
    refine seqR ?_
    refine opG rfl (aop_fieldAddr (av := .pt 53 0) (av' := .pt 53 2) rfl rfl rfl ft58_2 sz3 rfl rfl rfl ?_)
    refine opG rfl (aop_ld (av := .i ((pts.getD (pointI pts (nodeA secs s e)).toNat dP).left)) rfl rfl rfl ag3 rfl rfl ?_)
    refine opG rfl (aop_binI (u := (.bool (s == ((pts.getD (pointI pts (nodeA secs s e)).toNat dP).left)))) rfl rfl rfl rfl rfl trivial rfl ?_)
    refine opG rfl (aop_move (av := .b (s == ((pts.getD (pointI pts (nodeA secs s e)).toNat dP).left))) (.inr rfl) rfl rfl rfl ?_)
    refine op0 ?_
    refine rs_ (upd (upd (upd (upd (upd (upd none_ 0 (.rp [.one, .q eSec secs, .one, .q ePnt pts, .one, .one, .one, .one, .one, .one])) 4 (.v (.slice none 0 0))) 5 (.i (nodeA secs s e))) 9 (.pt 53 0)) 41 (.i s)) 58 (.b (s == ((pts.getD (pointI pts (nodeA secs s e)).toNat dP).left)))) (updO (updO (updO noOb 51 (.live ⟨[.i s, .i e], 51, 1⟩)) 53 (.live ⟨[.i 0, .i 0, .i 0, .i 0], 58, 1⟩)) 53 (.live ⟨[.i ((pts.getD (pointI pts (nodeA secs s e)).toNat dP).node), .i ((pts.getD (pointI pts (nodeA secs s e)).toNat dP).stem), .i ((pts.getD (pointI pts (nodeA secs s e)).toNat dP).left), .i ((pts.getD (pointI pts (nodeA secs s e)).toNat dP).right)], 58, 1⟩)) (lu rfl (lu rfl (lu rfl (lu rfl (lu rfl (lu rfl ln)))))) rfl ?_
    refine awp_cond (s == ((pts.getD (pointI pts (nodeA secs s e)).toNat dP).left)) rfl rfl (fun hc4 => ?_) (fun hc4 => ?_)
    ·skip
     have hf9 := (beq_iff_eq).1 hc4
     refine awp_skip ?_
     refine awp_cond (s == ((pts.getD (pointI pts (nodeA secs s e)).toNat dP).left)) rfl rfl (fun hc5 => ?_) (fun hc5 => ?_)
     ·skip
      have hf10 := (beq_iff_eq).1 hc5
      refine seqR ?_
      refine opG rfl (aop_move (av := .rp [.one, .q eSec secs, .one, .q ePnt pts, .one, .one, .one, .one, .one, .one]) (.inl rfl) rfl rfl rfl ?_)
      refine opG rfl (aop_fieldAddr (av := .pt 53 0) (av' := .pt 53 1) rfl rfl rfl ft58_1 sz3 rfl rfl rfl ?_)
      refine opG rfl (aop_ld (av := .i ((pts.getD (pointI pts (nodeA secs s e)).toNat dP).stem)) rfl rfl rfl ag3 rfl rfl ?_)
      refine opG rfl (aop_move (av := .i (nodeA secs s e)) (.inl rfl) rfl rfl rfl ?_)
      refine opG rfl (callW_ (g_at secs ((pts.getD (pointI pts (nodeA secs s e)).toNat dP).stem) (nodeA secs s e) (by first | omega | (simp; done) | decide | (simp at *; omega))) rfl rfl rfl rfl rfl bd56 (lends_cons (lend_rpw (lends_cons (lend_n (av := .one)) (lends_cons (lend_n (av := .q eSec secs)) (lends_cons (lend_n (av := .one)) (lends_cons (.one _ rfl) (lends_cons (lend_n (av := .one)) (lends_cons (lend_n (av := .one)) (lends_cons (lend_n (av := .one)) (lends_cons (lend_n (av := .one)) (lends_cons (lend_n (av := .one)) (lends_cons (lend_n (av := .one)) lends_nil))))))))))) (lends_cons (lend_n (av := .i ((pts.getD (pointI pts (nodeA secs s e)).toNat dP).stem))) (lends_cons (lend_n (av := .i (nodeA secs s e))) lends_nil))) ?_)
      refine opG rfl (aop_move (av := .q eEn (oneE secs ((pts.getD (pointI pts (nodeA secs s e)).toNat dP).stem) (nodeA secs s e))) (.inr rfl) rfl rfl rfl ?_)
      refine op0 ?_
      refine rs_ (upd none_ 4 (.q eEn (oneE secs ((pts.getD (pointI pts (nodeA secs s e)).toNat dP).stem) (nodeA secs s e)))) (updO (updO (updO noOb 51 (.live ⟨[.i s, .i e], 51, 1⟩)) 53 (.live ⟨[.i 0, .i 0, .i 0, .i 0], 58, 1⟩)) 53 (.live ⟨[.i ((pts.getD (pointI pts (nodeA secs s e)).toNat dP).node), .i ((pts.getD (pointI pts (nodeA secs s e)).toNat dP).stem), .i ((pts.getD (pointI pts (nodeA secs s e)).toNat dP).left), .i ((pts.getD (pointI pts (nodeA secs s e)).toNat dP).right)], 58, 1⟩)) (lu rfl ln) rfl ?_
      refine awp_ret ?_
      exact fret (av := .ro ((oneE secs ((pts.getD (pointI pts (nodeA secs s e)).toNat dP).stem) (nodeA secs s e)).length) (enc eEn (oneE secs ((pts.getD (pointI pts (nodeA secs s e)).toNat dP).stem) (nodeA secs s e)))) rfl rfl (by rw [around_leg hn hi hq (.inl (by simpa using hc4))])
     ·skip
      have hf11 := (beq_eq_false_iff_ne).1 hc5
      exfalso; rw [hc4] at hc5; cases hc5
    ·skip
     have hf12 := (beq_eq_false_iff_ne).1 hc4
     refine regR ?_
     refine opG rfl (aop_fieldAddr (av := .pt 53 0) (av' := .pt 53 3) rfl rfl rfl ft58_3 sz3 rfl rfl rfl ?_)
     refine opG rfl (aop_ld (av := .i ((pts.getD (pointI pts (nodeA secs s e)).toNat dP).right)) rfl rfl rfl ag3 rfl rfl ?_)
     refine opG rfl (aop_binI (u := (.bool (s == ((pts.getD (pointI pts (nodeA secs s e)).toNat dP).right)))) rfl rfl rfl rfl rfl trivial rfl ?_)
     refine opG rfl (aop_move (av := .b (s == ((pts.getD (pointI pts (nodeA secs s e)).toNat dP).right))) (.inr rfl) rfl rfl rfl ?_)
     refine op0 ?_
     refine rs_ (upd (upd (upd (upd (upd none_ 0 (.rp [.one, .q eSec secs, .one, .q ePnt pts, .one, .one, .one, .one, .one, .one])) 4 (.v (.slice none 0 0))) 5 (.i (nodeA secs s e))) 9 (.pt 53 0)) 58 (.b (s == ((pts.getD (pointI pts (nodeA secs s e)).toNat dP).right)))) (updO (updO (updO noOb 51 (.live ⟨[.i s, .i e], 51, 1⟩)) 53 (.live ⟨[.i 0, .i 0, .i 0, .i 0], 58, 1⟩)) 53 (.live ⟨[.i ((pts.getD (pointI pts (nodeA secs s e)).toNat dP).node), .i ((pts.getD (pointI pts (nodeA secs s e)).toNat dP).stem), .i ((pts.getD (pointI pts (nodeA secs s e)).toNat dP).left), .i ((pts.getD (pointI pts (nodeA secs s e)).toNat dP).right)], 58, 1⟩)) (lu rfl (lu rfl (lu rfl (lu rfl (lu rfl ln))))) rfl ?_
     refine awp_cond (s == ((pts.getD (pointI pts (nodeA secs s e)).toNat dP).right)) rfl rfl (fun hc6 => ?_) (fun hc6 => ?_)
     ·skip
      have hf13 := (beq_iff_eq).1 hc6
      refine seqR ?_
      refine opG rfl (aop_move (av := .rp [.one, .q eSec secs, .one, .q ePnt pts, .one, .one, .one, .one, .one, .one]) (.inl rfl) rfl rfl rfl ?_)
      refine opG rfl (aop_fieldAddr (av := .pt 53 0) (av' := .pt 53 1) rfl rfl rfl ft58_1 sz3 rfl rfl rfl ?_)
      refine opG rfl (aop_ld (av := .i ((pts.getD (pointI pts (nodeA secs s e)).toNat dP).stem)) rfl rfl rfl ag3 rfl rfl ?_)
      refine opG rfl (aop_move (av := .i (nodeA secs s e)) (.inl rfl) rfl rfl rfl ?_)
      refine opG rfl (callW_ (g_at secs ((pts.getD (pointI pts (nodeA secs s e)).toNat dP).stem) (nodeA secs s e) (by first | omega | (simp; done) | decide | (simp at *; omega))) rfl rfl rfl rfl rfl bd56 (lends_cons (lend_rpw (lends_cons (lend_n (av := .one)) (lends_cons (lend_n (av := .q eSec secs)) (lends_cons (lend_n (av := .one)) (lends_cons (.one _ rfl) (lends_cons (lend_n (av := .one)) (lends_cons (lend_n (av := .one)) (lends_cons (lend_n (av := .one)) (lends_cons (lend_n (av := .one)) (lends_cons (lend_n (av := .one)) (lends_cons (lend_n (av := .one)) lends_nil))))))))))) (lends_cons (lend_n (av := .i ((pts.getD (pointI pts (nodeA secs s e)).toNat dP).stem))) (lends_cons (lend_n (av := .i (nodeA secs s e))) lends_nil))) ?_)
      refine opG rfl (aop_move (av := .q eEn (oneE secs ((pts.getD (pointI pts (nodeA secs s e)).toNat dP).stem) (nodeA secs s e))) (.inr rfl) rfl rfl rfl ?_)
      refine op0 ?_
      refine rs_ (upd none_ 4 (.q eEn (oneE secs ((pts.getD (pointI pts (nodeA secs s e)).toNat dP).stem) (nodeA secs s e)))) (updO (updO (updO noOb 51 (.live ⟨[.i s, .i e], 51, 1⟩)) 53 (.live ⟨[.i 0, .i 0, .i 0, .i 0], 58, 1⟩)) 53 (.live ⟨[.i ((pts.getD (pointI pts (nodeA secs s e)).toNat dP).node), .i ((pts.getD (pointI pts (nodeA secs s e)).toNat dP).stem), .i ((pts.getD (pointI pts (nodeA secs s e)).toNat dP).left), .i ((pts.getD (pointI pts (nodeA secs s e)).toNat dP).right)], 58, 1⟩)) (lu rfl ln) rfl ?_
      refine awp_ret ?_
      exact fret (av := .ro ((oneE secs ((pts.getD (pointI pts (nodeA secs s e)).toNat dP).stem) (nodeA secs s e)).length) (enc eEn (oneE secs ((pts.getD (pointI pts (nodeA secs s e)).toNat dP).stem) (nodeA secs s e)))) rfl rfl (by rw [around_leg hn hi hq (.inr (by simpa using hc6))])
     ·skip
      have hf14 := (beq_eq_false_iff_ne).1 hc6
      refine awp_skip ?_
      refine seqR ?_
      refine opG rfl (aop_move (av := .v (.slice none 0 0)) (.inr rfl) rfl rfl rfl ?_)
      refine op0 ?_
      refine awp_imp _ (imp_frozen rfl (fun _ h => h) (lee_lend 4 (.ro 0 []) .nil lee_lend0)) ?_
      refine awp_ret ?_
      exact fret (av := .ro 0 []) rfl rfl (by rw [around_off hn hi hq (fun h => h.elim (fun h => (beq_eq_false_iff_ne.1 hc4) h) (fun h => (beq_eq_false_iff_ne.1 hc6) h))]; rfl)
theorem g_stands (right : List Bool) (i : Int) (hl : right.length ≤ 4294967296) (h0 : 0 ≤ i) : Fn Try.prog 46 [.ro right.length (enc eB right), .v (.int .i64 i)] (.v (.bool (hasB right i))) := by
 refine fnE_of_body (N := 15) Try.func46 rfl rfl (resOf1 rfl) (by simp) (fun w0 X hL_ => ?_)
 refine seqR ?_
 refine opG rfl (aop_move (av := .b false) (.inr rfl) rfl rfl rfl ?_)
 refine op0 ?_
 refine seqR ?_
 refine opG rfl (aop_move (av := .i i) (.inl rfl) rfl rfl rfl ?_)
 refine opG rfl (aop_move (av := .q eB right) (.inl rfl) rfl rfl rfl ?_)
 refine opG rfl (aop_len rfl rfl rfl rfl ut27 (len_ro rfl) ?_)
 refine opG rfl (aop_binI (u := (.bool (decide (i < (right.length : Int))))) rfl rfl rfl rfl rfl trivial rfl ?_)
 refine opG rfl (aop_move (av := .b (decide (i < (right.length : Int)))) (.inl rfl) rfl rfl rfl ?_)
 refine aops_grp 5 14 (.b ((decide (i < (right.length : Int))) && (right.getD i.toNat false))) ?_ ?_
 ·refine (Bool.eq_false_or_eq_true (decide (i < (right.length : Int)))).elim (fun hg1 => ?_) (fun hg1 => ?_)
  ·skip
   have hf2 := of_decide_eq_true hg1
   refine opY rfl rfl rfl (by show AV.v (.bool (decide (i < (right.length : Int)))) = _; rw [hg1]) (aop_move (av := .q eB right) (.inl rfl) rfl rfl rfl ?_)
   refine opY rfl rfl rfl (by show AV.v (.bool (decide (i < (right.length : Int)))) = _; rw [hg1]) (aop_move (av := .i i) (.inl rfl) rfl rfl rfl ?_)
   refine opY rfl rfl rfl (by show AV.v (.bool (decide (i < (right.length : Int)))) = _; rw [hg1]) (aop_ixI false rfl rfl rfl ut27 sz4 rfl rfl (fun _ => rfl) rfl (by omega) (by first | omega | (simp; done) | decide | (simp at *; omega)) ?_)
   refine opY rfl rfl rfl (by show AV.v (.bool (decide (i < (right.length : Int)))) = _; rw [hg1]) (aop_ld (av := .b (right.getD i.toNat false)) rfl rfl rfl ag4 rfl rfl ?_)
   refine opG rfl (aop_pick (b := (decide (i < (right.length : Int)))) (av := .b (right.getD i.toNat false)) rfl rfl rfl rfl ((congrArg (fun b_ => cond b_ _ _) hg1).trans rfl) ?_)
   refine op0 ?_
   exact imp_env (lee_both 14 _ _ (by rw [hg1] <;> rfl) (lee_out 13 _ rfl (lee_out 12 _ rfl (lee_out 11 _ rfl (lee_out 10 _ rfl (lee_same _))))))
  ·skip
   have hf3 := of_decide_eq_false hg1
   refine opN rfl rfl rfl rfl (by show yv (.bool (decide (i < (right.length : Int)))) ≠ _; rw [hg1]; intro h; cases h) rfl rfl ?_
   refine opN rfl rfl rfl rfl (by show yv (.bool (decide (i < (right.length : Int)))) ≠ _; rw [hg1]; intro h; cases h) rfl rfl ?_
   refine opN rfl rfl rfl rfl (by show yv (.bool (decide (i < (right.length : Int)))) ≠ _; rw [hg1]; intro h; cases h) rfl rfl ?_
   refine opN rfl rfl rfl rfl (by show yv (.bool (decide (i < (right.length : Int)))) ≠ _; rw [hg1]; intro h; cases h) rfl rfl ?_
   refine opG rfl (aop_pick (b := (decide (i < (right.length : Int)))) (av := .b false) rfl rfl rfl rfl ((congrArg (fun b_ => cond b_ _ _) hg1).trans rfl) ?_)
   refine op0 ?_
   exact imp_env (lee_both 14 _ _ (by rw [hg1] <;> rfl) (lee_out 13 _ rfl (lee_out 12 _ rfl (lee_out 11 _ rfl (lee_out 10 _ rfl (lee_same _))))))
 refine opG rfl (aop_move (av := .b ((decide (i < (right.length : Int))) && (right.getD i.toNat false))) (.inr rfl) rfl rfl rfl ?_)
 refine op0 ?_
 refine rs_ (upd none_ 4 (.b ((decide (i < (right.length : Int))) && (right.getD i.toNat false)))) noOb (lu rfl ln) rfl ?_
 refine awp_ret ?_
 exact fret (av := .v (.bool ((decide (i < (right.length : Int))) && (right.getD i.toNat false)))) rfl rfl (by rw [hasB_nn h0])
theorem g_Next (secs : List Sec) (pts : List Pnt) (right : List Bool) (s e : Int) (hs : secs.length ≤ 65536) (hp : pts.length ≤ 65536) (hr : right.length ≤ 4294967296) : Fn Try.prog 36 [.rp [.one, .ro secs.length (enc eSec secs), .one, .ro pts.length (enc ePnt pts), .one, .one, .one, .one, .one, .one], .agg [.v (.int .i64 s), .v (.int .i64 e)], .ro right.length (enc eB right)] (.tup [.agg [.v (.int .i64 ((nextV secs pts right s e).sec)), .v (.int .i64 ((nextV secs pts right s e).en))], .v (.bool (nextB secs pts right s e))]) := by
 have hal := aroundL_len secs pts s e
 refine fnC_of_body (N := 73) Try.func36 rfl rfl (by simp) (fun w0 X hL_ => ?_)
 refine seqR ?_
 refine opG rfl (aop_box 51 rfl rfl rfl rfl rfl rfl rfl ?_)
 refine opG rfl (aop_alloc 52 rfl rfl rfl rfl ze51 rfl ?_)
 refine opG rfl (aop_move (av := .b false) (.inr rfl) rfl rfl rfl ?_)
 refine op0 ?_
 refine seqR ?_
 refine opG rfl (aop_move (av := .rp [.one, .q eSec secs, .one, .q ePnt pts, .one, .one, .one, .one, .one, .one]) (.inl rfl) rfl rfl rfl ?_)
 refine opG rfl (aop_ldB (cells' := [.i s, .i e]) rfl rfl rfl ag51 sz51 rfl rfl rfl rfl ?_)
 refine opG rfl (call_ (g_Around secs pts s e (by first | omega | (simp; done) | decide | (simp at *; omega)) (by first | omega | (simp; done) | decide | (simp at *; omega))) rfl rfl rfl rfl rfl bd43 rfl ?_)
 refine opG rfl (aop_move (av := .q eEn (aroundL secs pts s e)) (.inr rfl) rfl rfl rfl ?_)
 refine op0 ?_
 refine rs_ (upd (upd (upd (upd (upd (upd none_ 0 (.rp [.one, .q eSec secs, .one, .q ePnt pts, .one, .one, .one, .one, .one, .one])) 2 (.q eB right)) 4 (.pt 51 0)) 6 (.pt 52 0)) 7 (.b false)) 8 (.q eEn (aroundL secs pts s e))) (updO (updO noOb 51 (.live ⟨[.i s, .i e], 51, 1⟩)) 52 (.live ⟨[.i 0, .i 0], 51, 1⟩)) (lu rfl (lu rfl (lu rfl (lu rfl (lu rfl (lu rfl ln)))))) rfl ?_
 refine awp_seq ?_
 refine seqR ?_
 refine opG rfl (aop_move (av := .q eEn (aroundL secs pts s e)) (.inl rfl) rfl rfl rfl ?_)
 refine opG rfl (aop_len rfl rfl rfl rfl ut69 (len_ro rfl) ?_)
 refine opG rfl (aop_binI (u := (.bool (((aroundL secs pts s e).length : Int) == 0))) rfl rfl rfl rfl rfl trivial rfl ?_)
 refine op0 ?_
 refine awp_cond (((aroundL secs pts s e).length : Int) == 0) rfl rfl (fun hc0 => ?_) (fun hc0 => ?_)
 ·skip
  have hf1 := (beq_iff_eq).1 hc0
  have h0 : (aroundL secs pts s e).length = 0 := by simpa using hc0
  refine seqR ?_
  refine opG rfl (aop_build rfl rfl rfl pl51 rfl ?_)
  refine opG rfl (aop_store rfl rfl rfl sz51 rfl rfl rfl rfl rfl (Nat.le_of_ble_eq_true rfl) rfl rfl ?_)
  refine opG rfl (aop_move (av := .b false) (.inr rfl) rfl rfl rfl ?_)
  refine op0 ?_
  refine rs_ (upd (upd (upd (upd (upd (upd none_ 0 (.rp [.one, .q eSec secs, .one, .q ePnt pts, .one, .one, .one, .one, .one, .one])) 2 (.q eB right)) 4 (.pt 51 0)) 6 (.pt 52 0)) 7 (.b false)) 8 (.q eEn (aroundL secs pts s e))) (updO (updO (updO noOb 51 (.live ⟨[.i s, .i e], 51, 1⟩)) 52 (.live ⟨[.i 0, .i 0], 51, 1⟩)) 52 (.live ⟨[.i 0, .i 0], 51, 1⟩)) (lu rfl (lu rfl (lu rfl (lu rfl (lu rfl (lu rfl ln)))))) rfl ?_
  refine awp_imp _ ((frz_ [52] [(52, ⟨[.i 0, .i 0], 51, 1⟩)] rfl (fun _ h => h) ⟨keep_cells (cs := [.i 0, .i 0]) (by simp) rfl rfl (frzs_cons (.inl rfl) (frzs_cons (.inl rfl) frzs_nil)), trivial⟩ (fz_same 7 (.b false) rfl (fz_same 6 (.pt 52 0) rfl fz_none)))) ?_
  refine awp_ret ?_
  exact fretC2 (p := 6) (q := 7) rfl rfl ag51 sz51 rfl rfl (Nat.le_of_ble_eq_true rfl) rfl rfl rfl (by have h_ := nextV_no (right := right) (next_none h0); rw [h_.1, h_.2] <;> rfl)
 ·skip
  have hf2 := (beq_eq_false_iff_ne).1 hc0
  have h0 : ¬ (aroundL secs pts s e).length = 0 := by simpa using hc0
  refine awp_skip ?_
  refine seqR ?_
  refine opG rfl (aop_move (av := .rp [.one, .q eSec secs, .one, .q ePnt pts, .one, .one, .one, .one, .one, .one]) (.inl rfl) rfl rfl rfl ?_)
  refine opG rfl (aop_ldB (cells' := [.i s, .i e]) rfl rfl rfl ag51 sz51 rfl rfl rfl rfl ?_)
  refine opG rfl (callW_ (g_node secs s e (by first | omega | (simp; done) | decide | (simp at *; omega))) rfl rfl rfl rfl rfl bd44 (lends_cons (lend_rpw (lends_cons (lend_n (av := .one)) (lends_cons (lend_n (av := .q eSec secs)) (lends_cons (lend_n (av := .one)) (lends_cons (.one _ rfl) (lends_cons (lend_n (av := .one)) (lends_cons (lend_n (av := .one)) (lends_cons (lend_n (av := .one)) (lends_cons (lend_n (av := .one)) (lends_cons (lend_n (av := .one)) (lends_cons (lend_n (av := .one)) lends_nil))))))))))) (lends_cons (lend_n (av := .agg [.i s, .i e])) lends_nil)) ?_)
  refine opG rfl (aop_move (av := .tup [.i (nodeA secs s e), .b (!noNode secs s e)]) (.inl rfl) rfl rfl rfl ?_)
  refine opG rfl (aop_extract rfl rfl rfl rfl rfl ?_)
  refine opG rfl (aop_extract rfl rfl rfl rfl rfl ?_)
  refine opG rfl (aop_move (av := .i (nodeA secs s e)) (.inr rfl) rfl rfl rfl ?_)
  refine opG rfl (aop_move (av := .b (!noNode secs s e)) (.inr rfl) rfl rfl rfl ?_)
  refine op0 ?_
  refine rs_ (upd (upd (upd (upd (upd (upd (upd none_ 0 (.rp [.one, .q eSec secs, .one, .q ePnt pts, .one, .one, .one, .one, .one, .one])) 2 (.q eB right)) 4 (.pt 51 0)) 6 (.pt 52 0)) 7 (.b false)) 8 (.q eEn (aroundL secs pts s e))) 9 (.i (nodeA secs s e))) (updO (updO noOb 51 (.live ⟨[.i s, .i e], 51, 1⟩)) 52 (.live ⟨[.i 0, .i 0], 51, 1⟩)) (lu rfl (lu rfl (lu rfl (lu rfl (lu rfl (lu rfl (lu rfl ln))))))) rfl ?_
  refine seqR ?_
  refine opG rfl (aop_move (av := .rp [.one, .q eSec secs, .one, .q ePnt pts, .one, .one, .one, .one, .one, .one]) (.inl rfl) rfl rfl rfl ?_)
  refine opG rfl (aop_move (av := .i (nodeA secs s e)) (.inl rfl) rfl rfl rfl ?_)
  refine opG rfl (callW_ (g_Point pts (nodeA secs s e) (by first | omega | (simp; done) | decide | (simp at *; omega))) rfl rfl rfl rfl rfl bd45 (lends_cons (lend_rpw (lends_cons (lend_n (av := .one)) (lends_cons (.one _ rfl) (lends_cons (lend_n (av := .one)) (lends_cons (lend_n (av := .q ePnt pts)) (lends_cons (lend_n (av := .one)) (lends_cons (lend_n (av := .one)) (lends_cons (lend_n (av := .one)) (lends_cons (lend_n (av := .one)) (lends_cons (lend_n (av := .one)) (lends_cons (lend_n (av := .one)) lends_nil))))))))))) (lends_cons (lend_n (av := .i (nodeA secs s e))) lends_nil)) ?_)
  refine opG rfl (aop_move (av := .i (pointI pts (nodeA secs s e))) (.inr rfl) rfl rfl rfl ?_)
  refine op0 ?_
  refine rs_ (upd (upd (upd (upd (upd (upd (upd none_ 0 (.rp [.one, .q eSec secs, .one, .q ePnt pts, .one, .one, .one, .one, .one, .one])) 2 (.q eB right)) 4 (.pt 51 0)) 6 (.pt 52 0)) 7 (.b false)) 8 (.q eEn (aroundL secs pts s e))) 11 (.i (pointI pts (nodeA secs s e)))) (updO (updO noOb 51 (.live ⟨[.i s, .i e], 51, 1⟩)) 52 (.live ⟨[.i 0, .i 0], 51, 1⟩)) (lu rfl (lu rfl (lu rfl (lu rfl (lu rfl (lu rfl (lu rfl ln))))))) rfl ?_
  refine awp_seq ?_
  refine seqR ?_
  refine opG rfl (aop_move (av := .i (pointI pts (nodeA secs s e))) (.inl rfl) rfl rfl rfl ?_)
  refine opG rfl (aop_binI (u := (.bool (decide ((pointI pts (nodeA secs s e)) < 0)))) rfl rfl rfl rfl rfl trivial rfl ?_)
  refine op0 ?_
  refine awp_cond (decide ((pointI pts (nodeA secs s e)) < 0)) rfl rfl (fun hc1 => ?_) (fun hc1 => ?_)
  ·skip
   have hf3 := of_decide_eq_true hc1
   have hi : pointI pts (nodeA secs s e) < 0 := by omega
   refine seqR ?_
   refine opG rfl (aop_move (av := .q eEn (aroundL secs pts s e)) (.inl rfl) rfl rfl rfl ?_)
   refine opG rfl (aop_ixE (k := 0) dE rfl rfl rfl ut69 sz51 rfl rfl (fun _ => rfl) rfl (by first | omega | (simp; done) | decide | (simp at *; omega)) ?_)
   refine opG rfl (aop_ldB (cells' := [.i (((aroundL secs pts s e).getD 0 dE).sec), .i (((aroundL secs pts s e).getD 0 dE).en)]) rfl rfl rfl ag51 sz51 rfl rfl rfl rfl ?_)
   refine opG rfl (aop_store rfl rfl rfl sz51 rfl rfl rfl rfl rfl (Nat.le_of_ble_eq_true rfl) rfl rfl ?_)
   refine opG rfl (aop_move (av := .b true) (.inr rfl) rfl rfl rfl ?_)
   refine op0 ?_
   refine rs_ (upd (upd (upd (upd (upd (upd (upd none_ 0 (.rp [.one, .q eSec secs, .one, .q ePnt pts, .one, .one, .one, .one, .one, .one])) 2 (.q eB right)) 4 (.pt 51 0)) 6 (.pt 52 0)) 7 (.b true)) 8 (.q eEn (aroundL secs pts s e))) 11 (.i (pointI pts (nodeA secs s e)))) (updO (updO (updO noOb 51 (.live ⟨[.i s, .i e], 51, 1⟩)) 52 (.live ⟨[.i 0, .i 0], 51, 1⟩)) 52 (.live ⟨[.i (((aroundL secs pts s e).getD 0 dE).sec), .i (((aroundL secs pts s e).getD 0 dE).en)], 51, 1⟩)) (lu rfl (lu rfl (lu rfl (lu rfl (lu rfl (lu rfl (lu rfl ln))))))) rfl ?_
   refine awp_imp _ ((frz_ [52] [(52, ⟨[.i (((aroundL secs pts s e).getD 0 dE).sec), .i (((aroundL secs pts s e).getD 0 dE).en)], 51, 1⟩)] rfl (fun _ h => h) ⟨keep_cells (cs := [.i (((aroundL secs pts s e).getD 0 dE).sec), .i (((aroundL secs pts s e).getD 0 dE).en)]) (by simp) rfl rfl (frzs_cons (.inl rfl) (frzs_cons (.inl rfl) frzs_nil)), trivial⟩ (fz_same 7 (.b true) rfl (fz_same 6 (.pt 52 0) rfl fz_none)))) ?_
   refine awp_ret ?_
   exact fretC2 (p := 6) (q := 7) rfl rfl ag51 sz51 rfl rfl (Nat.le_of_ble_eq_true rfl) rfl rfl rfl (by have h_ := nextV_of (right := right) (next_plain h0 hi); rw [h_.1, h_.2] <;> rfl)
  ·skip
   have hf4 := of_decide_eq_false hc1
   have hi : ¬ pointI pts (nodeA secs s e) < 0 := by omega
   have hr_ := pointI_range pts (nodeA secs s e)
   refine awp_skip ?_
   refine seqR ?_
   refine opG rfl (aop_move (av := .rp [.one, .q eSec secs, .one, .q ePnt pts, .one, .one, .one, .one, .one, .one]) (.inl rfl) rfl rfl rfl ?_)
   refine opG rfl (aop_nilCheck rfl rfl rfl rfl rfl ?_)
   refine opG rfl (aop_fieldAddr (av := .rp [.one, .q eSec secs, .one, .q ePnt pts, .one, .one, .one, .one, .one, .one]) (av' := .rp [.one, .q eSec secs, .one, .q ePnt pts, .one, .one, .one, .one, .one, .one]) rfl rfl rfl ft67_0 sz37 rfl rfl rfl ?_)
   refine opG rfl (aop_fieldAddr (av := .rp [.one, .q eSec secs, .one, .q ePnt pts, .one, .one, .one, .one, .one, .one]) (av' := .rp [.q ePnt pts, .one, .one, .one, .one, .one, .one]) rfl rfl rfl ft37_3 sz35 rfl rfl rfl ?_)
   refine opG rfl (aop_ld (av := .q ePnt pts) rfl rfl rfl ag35 rfl rfl ?_)
   refine opG rfl (aop_move (av := .i (pointI pts (nodeA secs s e))) (.inl rfl) rfl rfl rfl ?_)
   refine opG rfl (aop_ixI dP rfl rfl rfl ut35 sz58 rfl rfl (fun _ => rfl) rfl (by omega) (by first | omega | (simp; done) | decide | (simp at *; omega)) ?_)
   refine opG rfl (aop_ldB (cells' := [.i ((pts.getD (pointI pts (nodeA secs s e)).toNat dP).node), .i ((pts.getD (pointI pts (nodeA secs s e)).toNat dP).stem), .i ((pts.getD (pointI pts (nodeA secs s e)).toNat dP).left), .i ((pts.getD (pointI pts (nodeA secs s e)).toNat dP).right)]) rfl rfl rfl ag58 sz58 rfl rfl rfl rfl ?_)
   refine opG rfl (aop_alloc 53 rfl rfl rfl rfl ze58 rfl ?_)
   refine opG rfl (aop_store rfl rfl rfl sz58 rfl rfl rfl rfl rfl (Nat.le_of_ble_eq_true rfl) rfl rfl ?_)
   refine op0 ?_
   refine rs_ (upd (upd (upd (upd (upd (upd (upd none_ 2 (.q eB right)) 4 (.pt 51 0)) 6 (.pt 52 0)) 7 (.b false)) 8 (.q eEn (aroundL secs pts s e))) 11 (.i (pointI pts (nodeA secs s e)))) 12 (.pt 53 0)) (updO (updO (updO (updO noOb 51 (.live ⟨[.i s, .i e], 51, 1⟩)) 52 (.live ⟨[.i 0, .i 0], 51, 1⟩)) 53 (.live ⟨[.i 0, .i 0, .i 0, .i 0], 58, 1⟩)) 53 (.live ⟨[.i ((pts.getD (pointI pts (nodeA secs s e)).toNat dP).node), .i ((pts.getD (pointI pts (nodeA secs s e)).toNat dP).stem), .i ((pts.getD (pointI pts (nodeA secs s e)).toNat dP).left), .i ((pts.getD (pointI pts (nodeA secs s e)).toNat dP).right)], 58, 1⟩)) (lu rfl (lu rfl (lu rfl (lu rfl (lu rfl (lu rfl (lu rfl ln))))))) rfl ?_
   refine seqR ?_
   refine opG rfl (aop_fieldAddr (av := .pt 53 0) (av' := .pt 53 2) rfl rfl rfl ft58_2 sz3 rfl rfl rfl ?_)
   refine opG rfl (aop_ld (av := .i ((pts.getD (pointI pts (nodeA secs s e)).toNat dP).left)) rfl rfl rfl ag3 rfl rfl ?_)
   refine opG rfl (aop_alloc 54 rfl rfl rfl rfl ze3 rfl ?_)
   refine opG rfl (aop_store rfl rfl rfl sz3 rfl rfl rfl rfl rfl (Nat.le_of_ble_eq_true rfl) rfl rfl ?_)
   refine op0 ?_
   refine rs_ (upd (upd (upd (upd (upd (upd (upd (upd none_ 2 (.q eB right)) 4 (.pt 51 0)) 6 (.pt 52 0)) 7 (.b false)) 8 (.q eEn (aroundL secs pts s e))) 11 (.i (pointI pts (nodeA secs s e)))) 12 (.pt 53 0)) 13 (.pt 54 0)) (updO (updO (updO (updO (updO (updO noOb 51 (.live ⟨[.i s, .i e], 51, 1⟩)) 52 (.live ⟨[.i 0, .i 0], 51, 1⟩)) 53 (.live ⟨[.i 0, .i 0, .i 0, .i 0], 58, 1⟩)) 53 (.live ⟨[.i ((pts.getD (pointI pts (nodeA secs s e)).toNat dP).node), .i ((pts.getD (pointI pts (nodeA secs s e)).toNat dP).stem), .i ((pts.getD (pointI pts (nodeA secs s e)).toNat dP).left), .i ((pts.getD (pointI pts (nodeA secs s e)).toNat dP).right)], 58, 1⟩)) 54 (.live ⟨[.i 0], 3, 1⟩)) 54 (.live ⟨[.i ((pts.getD (pointI pts (nodeA secs s e)).toNat dP).left)], 3, 1⟩)) (lu rfl (lu rfl (lu rfl (lu rfl (lu rfl (lu rfl (lu rfl (lu rfl ln)))))))) rfl ?_
   refine awp_seq ?_
   refine seqR ?_
   refine opG rfl (aop_move (av := .q eB right) (.inl rfl) rfl rfl rfl ?_)
   refine opG rfl (aop_move (av := .i (pointI pts (nodeA secs s e))) (.inl rfl) rfl rfl rfl ?_)
   refine opG rfl (call_ (g_stands right (pointI pts (nodeA secs s e)) (by first | omega | (simp; done) | decide | (simp at *; omega)) (by first | omega | (simp; done) | decide | (simp at *; omega))) rfl rfl rfl rfl rfl bd46 rfl ?_)
   refine op0 ?_
   refine cutG ⟨(upd (upd (upd (upd (upd (upd none_ 4 (.pt 1 0)) 6 (.pt 2 0)) 7 (.b false)) 8 (.q eEn (aroundL secs pts s e))) 12 (.pt 3 0)) 13 (.pt 4 0)), (updO (updO (updO (updO noOb 1 (.live ⟨[.i s, .i e], 51, 1⟩)) 2 (.live ⟨[.i 0, .i 0], 51, 1⟩)) 3 (.live ⟨[.i ((pts.getD (pointI pts (nodeA secs s e)).toNat dP).node), .i ((pts.getD (pointI pts (nodeA secs s e)).toNat dP).stem), .i ((pts.getD (pointI pts (nodeA secs s e)).toNat dP).left), .i ((pts.getD (pointI pts (nodeA secs s e)).toNat dP).right)], 58, 1⟩)) 4 (.live ⟨[.i (legI pts right (pointI pts (nodeA secs s e)))], 3, 1⟩))⟩ (fun s h => h) ?_ ?_
   ·skip
    refine awp_cond (hasB right (pointI pts (nodeA secs s e))) rfl rfl (fun hc2 => ?_) (fun hc2 => ?_)
    ·skip
     have hl2 : (legI pts right (pointI pts (nodeA secs s e))) = (pts.getD (pointI pts (nodeA secs s e)).toNat dP).right := by unfold legI; rw [if_pos hc2]
     refine regR ?_
     refine opG rfl (aop_fieldAddr (av := .pt 53 0) (av' := .pt 53 3) rfl rfl rfl ft58_3 sz3 rfl rfl rfl ?_)
     refine opG rfl (aop_ld (av := .i ((pts.getD (pointI pts (nodeA secs s e)).toNat dP).right)) rfl rfl rfl ag3 rfl rfl ?_)
     refine opG rfl (aop_store rfl rfl rfl sz3 rfl rfl rfl rfl rfl (Nat.le_of_ble_eq_true rfl) rfl rfl ?_)
     refine op0 ?_
     show Imp _ _ _
     exact imp_ler [(51, 1), (52, 2), (53, 3), (54, 4)] (lerL [(51, 1), (52, 2), (53, 3), (54, 4)] [((51, 1), .live ⟨[.i s, .i e], 51, 1⟩), ((52, 2), .live ⟨[.i 0, .i 0], 51, 1⟩), ((53, 3), .live ⟨[.i ((pts.getD (pointI pts (nodeA secs s e)).toNat dP).node), .i ((pts.getD (pointI pts (nodeA secs s e)).toNat dP).stem), .i ((pts.getD (pointI pts (nodeA secs s e)).toNat dP).left), .i ((pts.getD (pointI pts (nodeA secs s e)).toNat dP).right)], 58, 1⟩), ((54, 4), .live ⟨[.i (legI pts right (pointI pts (nodeA secs s e)))], 3, 1⟩)] rfl (by decide) (by decide) ⟨row_no (o := ⟨[.i s, .i e], 51, 1⟩) rfl rfl, row_no (o := ⟨[.i 0, .i 0], 51, 1⟩) rfl rfl, row_no (o := ⟨[.i ((pts.getD (pointI pts (nodeA secs s e)).toNat dP).node), .i ((pts.getD (pointI pts (nodeA secs s e)).toNat dP).stem), .i ((pts.getD (pointI pts (nodeA secs s e)).toNat dP).left), .i ((pts.getD (pointI pts (nodeA secs s e)).toNat dP).right)], 58, 1⟩) rfl rfl, row_no (o := ⟨[.i ((pts.getD (pointI pts (nodeA secs s e)).toNat dP).right)], 3, 1⟩) rfl (by exact congrArg (fun n_ : Int => LObj.mk [.i n_] 3 1) hl2), trivial⟩ (sr_map 13 (.pt 4 0) (by first | exact Ok.sl _ _ _ (by first | decide | simp) | exact Ok.pt _ _ (by first | decide | simp)) rfl (sr_map 12 (.pt 3 0) (by first | exact Ok.sl _ _ _ (by first | decide | simp) | exact Ok.pt _ _ (by first | decide | simp)) rfl (sr_same 8 (.q eEn (aroundL secs pts s e)) rfl NoI.out (sr_same 7 (.b false) rfl NoI.out (sr_map 6 (.pt 2 0) (by first | exact Ok.sl _ _ _ (by first | decide | simp) | exact Ok.pt _ _ (by first | decide | simp)) rfl (sr_map 4 (.pt 1 0) (by first | exact Ok.sl _ _ _ (by first | decide | simp) | exact Ok.pt _ _ (by first | decide | simp)) rfl sr_none))))))) (keep_of rfl)
    ·skip
     have hl2 : (legI pts right (pointI pts (nodeA secs s e))) = (pts.getD (pointI pts (nodeA secs s e)).toNat dP).left := by unfold legI; rw [if_neg (by simp [hc2])]
     refine awp_skip ?_
     show Imp _ _ _
     exact imp_ler [(51, 1), (52, 2), (53, 3), (54, 4)] (lerL [(51, 1), (52, 2), (53, 3), (54, 4)] [((51, 1), .live ⟨[.i s, .i e], 51, 1⟩), ((52, 2), .live ⟨[.i 0, .i 0], 51, 1⟩), ((53, 3), .live ⟨[.i ((pts.getD (pointI pts (nodeA secs s e)).toNat dP).node), .i ((pts.getD (pointI pts (nodeA secs s e)).toNat dP).stem), .i ((pts.getD (pointI pts (nodeA secs s e)).toNat dP).left), .i ((pts.getD (pointI pts (nodeA secs s e)).toNat dP).right)], 58, 1⟩), ((54, 4), .live ⟨[.i (legI pts right (pointI pts (nodeA secs s e)))], 3, 1⟩)] rfl (by decide) (by decide) ⟨row_no (o := ⟨[.i s, .i e], 51, 1⟩) rfl rfl, row_no (o := ⟨[.i 0, .i 0], 51, 1⟩) rfl rfl, row_no (o := ⟨[.i ((pts.getD (pointI pts (nodeA secs s e)).toNat dP).node), .i ((pts.getD (pointI pts (nodeA secs s e)).toNat dP).stem), .i ((pts.getD (pointI pts (nodeA secs s e)).toNat dP).left), .i ((pts.getD (pointI pts (nodeA secs s e)).toNat dP).right)], 58, 1⟩) rfl rfl, row_no (o := ⟨[.i ((pts.getD (pointI pts (nodeA secs s e)).toNat dP).left)], 3, 1⟩) rfl (by exact congrArg (fun n_ : Int => LObj.mk [.i n_] 3 1) hl2), trivial⟩ (sr_map 13 (.pt 4 0) (by first | exact Ok.sl _ _ _ (by first | decide | simp) | exact Ok.pt _ _ (by first | decide | simp)) rfl (sr_map 12 (.pt 3 0) (by first | exact Ok.sl _ _ _ (by first | decide | simp) | exact Ok.pt _ _ (by first | decide | simp)) rfl (sr_same 8 (.q eEn (aroundL secs pts s e)) rfl NoI.out (sr_same 7 (.b false) rfl NoI.out (sr_map 6 (.pt 2 0) (by first | exact Ok.sl _ _ _ (by first | decide | simp) | exact Ok.pt _ _ (by first | decide | simp)) rfl (sr_map 4 (.pt 1 0) (by first | exact Ok.sl _ _ _ (by first | decide | simp) | exact Ok.pt _ _ (by first | decide | simp)) rfl sr_none))))))) (keep_of rfl)
   refine awp_seq ?_
   refine seqR ?_
   refine opG rfl (aop_fieldAddr (av := .pt 1 0) (av' := .pt 1 0) rfl rfl rfl ft51_0 sz3 rfl rfl rfl ?_)
   refine opG rfl (aop_ld (av := .i s) rfl rfl rfl ag3 rfl rfl ?_)
   refine op0 ?_
   refine awp_block ?_
   refine seqR ?_
   refine opG rfl (aop_fieldAddr (av := .pt 3 0) (av' := .pt 3 1) rfl rfl rfl ft58_1 sz3 rfl rfl rfl ?_)
   refine opG rfl (aop_ld (av := .i ((pts.getD (pointI pts (nodeA secs s e)).toNat dP).stem)) rfl rfl rfl ag3 rfl rfl ?_)
   refine opG rfl (aop_binI (u := (.bool (s == ((pts.getD (pointI pts (nodeA secs s e)).toNat dP).stem)))) rfl rfl rfl rfl rfl trivial rfl ?_)
   refine opG rfl (aop_move (av := .b (s == ((pts.getD (pointI pts (nodeA secs s e)).toNat dP).stem))) (.inr rfl) rfl rfl rfl ?_)
   refine op0 ?_
   refine rs_ (upd (upd (upd (upd (upd (upd none_ 6 (.pt 2 0)) 7 (.b false)) 8 (.q eEn (aroundL secs pts s e))) 13 (.pt 4 0)) 52 (.i s)) 53 (.b (s == ((pts.getD (pointI pts (nodeA secs s e)).toNat dP).stem)))) (updO (updO (updO (updO noOb 1 (.live ⟨[.i s, .i e], 51, 1⟩)) 2 (.live ⟨[.i 0, .i 0], 51, 1⟩)) 3 (.live ⟨[.i ((pts.getD (pointI pts (nodeA secs s e)).toNat dP).node), .i ((pts.getD (pointI pts (nodeA secs s e)).toNat dP).stem), .i ((pts.getD (pointI pts (nodeA secs s e)).toNat dP).left), .i ((pts.getD (pointI pts (nodeA secs s e)).toNat dP).right)], 58, 1⟩)) 4 (.live ⟨[.i (legI pts right (pointI pts (nodeA secs s e)))], 3, 1⟩)) (lu rfl (lu rfl (lu rfl (lu rfl (lu rfl (lu rfl ln)))))) rfl ?_
   refine awp_cond (s == ((pts.getD (pointI pts (nodeA secs s e)).toNat dP).stem)) rfl rfl (fun hc3 => ?_) (fun hc3 => ?_)
   ·skip
    have hf5 := (beq_iff_eq).1 hc3
    have hs_ : s = (pts.getD (pointI pts (nodeA secs s e)).toNat dP).stem := by simpa using hc3
    have hir := idxB_range (fun x : En => decide (x.sec = (legI pts right (pointI pts (nodeA secs s e))))) dE (aroundL secs pts s e)
    refine seqR ?_
    refine opG rfl (aop_move (av := .q eEn (aroundL secs pts s e)) (.inl rfl) rfl rfl rfl ?_)
    refine opG rfl (aop_makeFunc (caps := [.tmp 13]) rfl rfl rfl rfl ?_)
    refine opG rfl (callL_ (ixE_s (aroundL secs pts s e) (legI pts right (pointI pts (nodeA secs s e))) (by first | omega | (simp; done) | decide | (simp at *; omega))) rfl rfl rfl rfl rfl bd47 (lends_cons (lend_n (av := .q eEn (aroundL secs pts s e))) (lends_cons (lend_fn (lends_cons (lend_pt rfl (lends_cons (lend_n (av := .i (legI pts right (pointI pts (nodeA secs s e))))) lends_nil)) lends_nil)) lends_nil)) ?_)
    refine opG rfl (aop_move (av := .i (idxB (fun x : En => decide (x.sec = (legI pts right (pointI pts (nodeA secs s e))))) (aroundL secs pts s e))) (.inr rfl) rfl rfl rfl ?_)
    refine op0 ?_
    refine rs_ (upd (upd (upd (upd none_ 6 (.pt 2 0)) 7 (.b false)) 8 (.q eEn (aroundL secs pts s e))) 14 (.i (idxB (fun x : En => decide (x.sec = (legI pts right (pointI pts (nodeA secs s e))))) (aroundL secs pts s e)))) (updO (updO (updO (updO noOb 1 (.live ⟨[.i s, .i e], 51, 1⟩)) 2 (.live ⟨[.i 0, .i 0], 51, 1⟩)) 3 (.live ⟨[.i ((pts.getD (pointI pts (nodeA secs s e)).toNat dP).node), .i ((pts.getD (pointI pts (nodeA secs s e)).toNat dP).stem), .i ((pts.getD (pointI pts (nodeA secs s e)).toNat dP).left), .i ((pts.getD (pointI pts (nodeA secs s e)).toNat dP).right)], 58, 1⟩)) 4 (.live ⟨[.i (legI pts right (pointI pts (nodeA secs s e)))], 3, 1⟩)) (lu rfl (lu rfl (lu rfl (lu rfl ln)))) rfl ?_
    refine seqR ?_
    refine opG rfl (aop_move (av := .i (idxB (fun x : En => decide (x.sec = (legI pts right (pointI pts (nodeA secs s e))))) (aroundL secs pts s e))) (.inl rfl) rfl rfl rfl ?_)
    refine opG rfl (aop_binI (u := (.bool (decide ((idxB (fun x : En => decide (x.sec = (legI pts right (pointI pts (nodeA secs s e))))) (aroundL secs pts s e)) ≥ 0)))) rfl rfl rfl rfl rfl trivial rfl ?_)
    refine op0 ?_
    refine awp_cond (decide ((idxB (fun x : En => decide (x.sec = (legI pts right (pointI pts (nodeA secs s e))))) (aroundL secs pts s e)) ≥ 0)) rfl rfl (fun hc4 => ?_) (fun hc4 => ?_)
    ·skip
     have hf6 := of_decide_eq_true hc4
     refine seqR ?_
     refine opG rfl (aop_move (av := .q eEn (aroundL secs pts s e)) (.inl rfl) rfl rfl rfl ?_)
     refine opG rfl (aop_move (av := .i (idxB (fun x : En => decide (x.sec = (legI pts right (pointI pts (nodeA secs s e))))) (aroundL secs pts s e))) (.inl rfl) rfl rfl rfl ?_)
     refine opG rfl (aop_ixI dE rfl rfl rfl ut69 sz51 rfl rfl (fun _ => rfl) rfl (by omega) (by first | omega | (simp; done) | decide | (simp at *; omega)) ?_)
     refine opG rfl (aop_ldB (cells' := [.i (((aroundL secs pts s e).getD (idxB (fun x : En => decide (x.sec = (legI pts right (pointI pts (nodeA secs s e))))) (aroundL secs pts s e)).toNat dE).sec), .i (((aroundL secs pts s e).getD (idxB (fun x : En => decide (x.sec = (legI pts right (pointI pts (nodeA secs s e))))) (aroundL secs pts s e)).toNat dE).en)]) rfl rfl rfl ag51 sz51 rfl rfl rfl rfl ?_)
     refine opG rfl (aop_store rfl rfl rfl sz51 rfl rfl rfl rfl rfl (Nat.le_of_ble_eq_true rfl) rfl rfl ?_)
     refine opG rfl (aop_move (av := .b true) (.inr rfl) rfl rfl rfl ?_)
     refine op0 ?_
     refine rs_ (upd (upd none_ 6 (.pt 2 0)) 7 (.b true)) (updO (updO (updO (updO (updO noOb 1 (.live ⟨[.i s, .i e], 51, 1⟩)) 2 (.live ⟨[.i 0, .i 0], 51, 1⟩)) 3 (.live ⟨[.i ((pts.getD (pointI pts (nodeA secs s e)).toNat dP).node), .i ((pts.getD (pointI pts (nodeA secs s e)).toNat dP).stem), .i ((pts.getD (pointI pts (nodeA secs s e)).toNat dP).left), .i ((pts.getD (pointI pts (nodeA secs s e)).toNat dP).right)], 58, 1⟩)) 4 (.live ⟨[.i (legI pts right (pointI pts (nodeA secs s e)))], 3, 1⟩)) 2 (.live ⟨[.i (((aroundL secs pts s e).getD (idxB (fun x : En => decide (x.sec = (legI pts right (pointI pts (nodeA secs s e))))) (aroundL secs pts s e)).toNat dE).sec), .i (((aroundL secs pts s e).getD (idxB (fun x : En => decide (x.sec = (legI pts right (pointI pts (nodeA secs s e))))) (aroundL secs pts s e)).toNat dE).en)], 51, 1⟩)) (lu rfl (lu rfl ln)) rfl ?_
     refine awp_imp _ ((frz_ [2] [(2, ⟨[.i (((aroundL secs pts s e).getD (idxB (fun x : En => decide (x.sec = (legI pts right (pointI pts (nodeA secs s e))))) (aroundL secs pts s e)).toNat dE).sec), .i (((aroundL secs pts s e).getD (idxB (fun x : En => decide (x.sec = (legI pts right (pointI pts (nodeA secs s e))))) (aroundL secs pts s e)).toNat dE).en)], 51, 1⟩)] rfl (fun _ h => h) ⟨keep_cells (cs := [.i (((aroundL secs pts s e).getD (idxB (fun x : En => decide (x.sec = (legI pts right (pointI pts (nodeA secs s e))))) (aroundL secs pts s e)).toNat dE).sec), .i (((aroundL secs pts s e).getD (idxB (fun x : En => decide (x.sec = (legI pts right (pointI pts (nodeA secs s e))))) (aroundL secs pts s e)).toNat dE).en)]) (by simp) rfl rfl (frzs_cons (.inl rfl) (frzs_cons (.inl rfl) frzs_nil)), trivial⟩ (fz_same 7 (.b true) rfl (fz_same 6 (.pt 2 0) rfl fz_none)))) ?_
     refine awp_ret ?_
     exact fretC2 (p := 6) (q := 7) rfl rfl ag51 sz51 rfl rfl (Nat.le_of_ble_eq_true rfl) rfl rfl rfl (by have h_ := nextV_of (right := right) ((next_stem h0 hi hs_ rfl rfl).trans (if_neg (by omega))); rw [h_.1, h_.2] <;> rfl)
    ·skip
     have hf7 := of_decide_eq_false hc4
     refine awp_skip ?_
     refine seqR ?_
     refine opG rfl (aop_build rfl rfl rfl pl51 rfl ?_)
     refine opG rfl (aop_store rfl rfl rfl sz51 rfl rfl rfl rfl rfl (Nat.le_of_ble_eq_true rfl) rfl rfl ?_)
     refine opG rfl (aop_move (av := .b false) (.inr rfl) rfl rfl rfl ?_)
     refine op0 ?_
     refine rs_ (upd (upd none_ 6 (.pt 2 0)) 7 (.b false)) (updO (updO (updO (updO (updO noOb 1 (.live ⟨[.i s, .i e], 51, 1⟩)) 2 (.live ⟨[.i 0, .i 0], 51, 1⟩)) 3 (.live ⟨[.i ((pts.getD (pointI pts (nodeA secs s e)).toNat dP).node), .i ((pts.getD (pointI pts (nodeA secs s e)).toNat dP).stem), .i ((pts.getD (pointI pts (nodeA secs s e)).toNat dP).left), .i ((pts.getD (pointI pts (nodeA secs s e)).toNat dP).right)], 58, 1⟩)) 4 (.live ⟨[.i (legI pts right (pointI pts (nodeA secs s e)))], 3, 1⟩)) 2 (.live ⟨[.i 0, .i 0], 51, 1⟩)) (lu rfl (lu rfl ln)) rfl ?_
     refine awp_imp _ ((frz_ [2] [(2, ⟨[.i 0, .i 0], 51, 1⟩)] rfl (fun _ h => h) ⟨keep_cells (cs := [.i 0, .i 0]) (by simp) rfl rfl (frzs_cons (.inl rfl) (frzs_cons (.inl rfl) frzs_nil)), trivial⟩ (fz_same 7 (.b false) rfl (fz_same 6 (.pt 2 0) rfl fz_none)))) ?_
     refine awp_ret ?_
     exact fretC2 (p := 6) (q := 7) rfl rfl ag51 sz51 rfl rfl (Nat.le_of_ble_eq_true rfl) rfl rfl rfl (by have h_ := nextV_no (right := right) ((next_stem h0 hi hs_ rfl rfl).trans (if_pos (by omega))); rw [h_.1, h_.2] <;> rfl)
   ·skip
    have hf8 := (beq_eq_false_iff_ne).1 hc3
    have hs_ : ¬ s = (pts.getD (pointI pts (nodeA secs s e)).toNat dP).stem := by simpa using hc3
    refine seqR ?_
    refine opG rfl (aop_ld (av := .i (legI pts right (pointI pts (nodeA secs s e)))) rfl rfl rfl ag3 rfl rfl ?_)
    refine opG rfl (aop_binI (u := (.bool (s == (legI pts right (pointI pts (nodeA secs s e)))))) rfl rfl rfl rfl rfl trivial rfl ?_)
    refine opG rfl (aop_move (av := .b (s == (legI pts right (pointI pts (nodeA secs s e))))) (.inr rfl) rfl rfl rfl ?_)
    refine op0 ?_
    refine awp_cond (s == (legI pts right (pointI pts (nodeA secs s e)))) rfl rfl (fun hc5 => ?_) (fun hc5 => ?_)
    ·skip
     have hf9 := (beq_iff_eq).1 hc5
     refine seqR ?_
     refine opG rfl (aop_move (av := .q eEn (aroundL secs pts s e)) (.inl rfl) rfl rfl rfl ?_)
     refine opG rfl (aop_ixE (k := 0) dE rfl rfl rfl ut69 sz51 rfl rfl (fun _ => rfl) rfl (by first | omega | (simp; done) | decide | (simp at *; omega)) ?_)
     refine opG rfl (aop_ldB (cells' := [.i (((aroundL secs pts s e).getD 0 dE).sec), .i (((aroundL secs pts s e).getD 0 dE).en)]) rfl rfl rfl ag51 sz51 rfl rfl rfl rfl ?_)
     refine opG rfl (aop_store rfl rfl rfl sz51 rfl rfl rfl rfl rfl (Nat.le_of_ble_eq_true rfl) rfl rfl ?_)
     refine opG rfl (aop_move (av := .b true) (.inr rfl) rfl rfl rfl ?_)
     refine op0 ?_
     refine rs_ (upd (upd none_ 6 (.pt 2 0)) 7 (.b true)) (updO (updO (updO (updO (updO noOb 1 (.live ⟨[.i s, .i e], 51, 1⟩)) 2 (.live ⟨[.i 0, .i 0], 51, 1⟩)) 3 (.live ⟨[.i ((pts.getD (pointI pts (nodeA secs s e)).toNat dP).node), .i ((pts.getD (pointI pts (nodeA secs s e)).toNat dP).stem), .i ((pts.getD (pointI pts (nodeA secs s e)).toNat dP).left), .i ((pts.getD (pointI pts (nodeA secs s e)).toNat dP).right)], 58, 1⟩)) 4 (.live ⟨[.i (legI pts right (pointI pts (nodeA secs s e)))], 3, 1⟩)) 2 (.live ⟨[.i (((aroundL secs pts s e).getD 0 dE).sec), .i (((aroundL secs pts s e).getD 0 dE).en)], 51, 1⟩)) (lu rfl (lu rfl ln)) rfl ?_
     refine awp_imp _ ((frz_ [2] [(2, ⟨[.i (((aroundL secs pts s e).getD 0 dE).sec), .i (((aroundL secs pts s e).getD 0 dE).en)], 51, 1⟩)] rfl (fun _ h => h) ⟨keep_cells (cs := [.i (((aroundL secs pts s e).getD 0 dE).sec), .i (((aroundL secs pts s e).getD 0 dE).en)]) (by simp) rfl rfl (frzs_cons (.inl rfl) (frzs_cons (.inl rfl) frzs_nil)), trivial⟩ (fz_same 7 (.b true) rfl (fz_same 6 (.pt 2 0) rfl fz_none)))) ?_
     refine awp_ret ?_
     exact fretC2 (p := 6) (q := 7) rfl rfl ag51 sz51 rfl rfl (Nat.le_of_ble_eq_true rfl) rfl rfl rfl (by have h_ := nextV_of (right := right) (next_leg h0 hi hs_ (by simpa using hc5)); rw [h_.1, h_.2] <;> rfl)
    ·skip
     have hf10 := (beq_eq_false_iff_ne).1 hc5
     refine awp_skip ?_
     refine seqR ?_
     refine opG rfl (aop_build rfl rfl rfl pl51 rfl ?_)
     refine opG rfl (aop_store rfl rfl rfl sz51 rfl rfl rfl rfl rfl (Nat.le_of_ble_eq_true rfl) rfl rfl ?_)
     refine opG rfl (aop_move (av := .b false) (.inr rfl) rfl rfl rfl ?_)
     refine op0 ?_
     refine rs_ (upd (upd none_ 6 (.pt 2 0)) 7 (.b false)) (updO (updO (updO (updO (updO noOb 1 (.live ⟨[.i s, .i e], 51, 1⟩)) 2 (.live ⟨[.i 0, .i 0], 51, 1⟩)) 3 (.live ⟨[.i ((pts.getD (pointI pts (nodeA secs s e)).toNat dP).node), .i ((pts.getD (pointI pts (nodeA secs s e)).toNat dP).stem), .i ((pts.getD (pointI pts (nodeA secs s e)).toNat dP).left), .i ((pts.getD (pointI pts (nodeA secs s e)).toNat dP).right)], 58, 1⟩)) 4 (.live ⟨[.i (legI pts right (pointI pts (nodeA secs s e)))], 3, 1⟩)) 2 (.live ⟨[.i 0, .i 0], 51, 1⟩)) (lu rfl (lu rfl ln)) rfl ?_
     refine awp_imp _ ((frz_ [2] [(2, ⟨[.i 0, .i 0], 51, 1⟩)] rfl (fun _ h => h) ⟨keep_cells (cs := [.i 0, .i 0]) (by simp) rfl rfl (frzs_cons (.inl rfl) (frzs_cons (.inl rfl) frzs_nil)), trivial⟩ (fz_same 7 (.b false) rfl (fz_same 6 (.pt 2 0) rfl fz_none)))) ?_
     refine awp_ret ?_
     exact fretC2 (p := 6) (q := 7) rfl rfl ag51 sz51 rfl rfl (Nat.le_of_ble_eq_true rfl) rfl rfl rfl (by have h_ := nextV_no (right := right) (next_off h0 hi hs_ (by simpa using hc5)); rw [h_.1, h_.2] <;> rfl)
end Go.Lo
