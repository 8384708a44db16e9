/- Walks of Go functions in the logic of values. -/
import Derived.Test.YtpgbplgljfjhnaaFnHTy
import Derived.Test.YtpgbplgljfjhnaaDef
import Derived.Test.YtpgbplgljfjhnaaLay
import Derived.Test.YtpgbplgljfjhnaaGr
import Derived.Test.YtpgbplgljfjhnaaCh
import Derived.Test.YtpgbplgljfjhnaaIns
import Derived.Test.YtpgbplgljfjhnaaDr
import Derived.Test.YtpgbplgljfjhnaaFnA
import Derived.Test.YtpgbplgljfjhnaaFnC
import Derived.Test.YtpgbplgljfjhnaaFnM
import Derived.Test.YtpgbplgljfjhnaaFnF
import Derived.Test.YtpgbplgljfjhnaaFnG
set_option linter.unusedVariables false
set_option linter.unusedSimpArgs false
set_option maxRecDepth 10000
set_option maxHeartbeats 16000000
namespace Go.Lo
open Go.Proofs
theorem ixI (l : List Int) (v : Int) (hl : l.length ≤ 4294967296) : Fn Try.prog 42 [.ro l.length (enc eI l), .v (.int .i64 v)] (.v (.int .i64 (idxB (fun x => decide (v = x)) l))) := by
 refine fnE_of_body (N := 19) Try.func42 rfl rfl (resOf1 rfl) (by simp) (fun w0 X hL_ => ?_)
 refine seqR ?_
 refine opG rfl (aop_move (av := .i 0) (.inr rfl) rfl rfl rfl ?_)
 refine op0 ?_
 refine awp_seq ?_
 refine seqR ?_
 refine opG rfl (aop_move (av := .q eI l) (.inl rfl) rfl rfl rfl ?_)
 refine opG rfl (aop_len rfl rfl rfl rfl ut38 (len_ro rfl) ?_)
 refine opG rfl (aop_move (av := .i 0) (.inl rfl) rfl rfl rfl ?_)
 refine op0 ?_
 refine rs_ (upd (upd (upd (upd (upd none_ 0 (.q eI l)) 1 (.i v)) 4 (.i 0)) 7 (.i (l.length : Int))) 8 (.i 0)) noOb (lu rfl (lu rfl (lu rfl (lu rfl (lu rfl ln))))) rfl ?_
 refine awp_block ?_
 refine awp_countI (fun k => ⟨(upd (upd (upd (upd (upd none_ 0 (.q eI l)) 1 (.i v)) 4 (.i 0)) 7 (.i (l.length : Int))) 8 (.i (k : Int))), noOb⟩) (fun k => (l.take k).any (fun x => decide (v = x)) = false) (l.length) ?_ (by simp) (fun k hk_k hinv => ?_)
 ·skip
  exact imp_ler [] (ler0 (sS rfl (sS rfl (sS rfl (sS rfl (sS rfl sr_none)))))) (keep_of rfl)
 refine seqR ?_
 refine opG rfl (aop_binI (u := (.bool (decide ((k : Int) < (l.length : Int))))) rfl rfl rfl rfl rfl trivial rfl ?_)
 refine op0 ?_
 refine awp_seq ?_
 refine awp_cond (decide ((k : Int) < (l.length : Int))) rfl rfl (fun hc0 => ?_) (fun hc0 => ?_)
 ·skip
  have hf1 := of_decide_eq_true hc0
  refine awp_skip ?_
  refine awp_seq ?_
  refine awp_block ?_
  refine seqR ?_
  refine opG rfl (aop_move (av := .i (k : Int)) (.inl rfl) rfl rfl rfl ?_)
  refine opG rfl (aop_move (av := .i (k : Int)) (.inr rfl) rfl rfl rfl ?_)
  refine op0 ?_
  refine seqR ?_
  refine opG rfl (aop_move (av := .i v) (.inl rfl) rfl rfl rfl ?_)
  refine opG rfl (aop_move (av := .q eI l) (.inl rfl) rfl rfl rfl ?_)
  refine opG rfl (aop_move (av := .i (k : Int)) (.inl rfl) rfl rfl rfl ?_)
  refine opG rfl (aop_ixE 0 rfl rfl rfl ut38 sz3 rfl rfl (fun _ => rfl) rfl (by first | omega | (simp; done) | decide | (simp at *; omega)) ?_)
  refine opG rfl (aop_ld (av := .i (l.getD k 0)) rfl rfl rfl ag3 rfl rfl ?_)
  refine opG rfl (aop_binI (u := (.bool (v == (l.getD k 0)))) rfl rfl rfl rfl rfl trivial rfl ?_)
  refine op0 ?_
  refine rs_ (upd (upd (upd (upd (upd (upd (upd none_ 0 (.q eI l)) 1 (.i v)) 4 (.i 0)) 5 (.i (k : Int))) 7 (.i (l.length : Int))) 8 (.i (k : Int))) 16 (.b (v == (l.getD k 0)))) noOb (lu rfl (lu rfl (lu rfl (lu rfl (lu rfl (lu rfl (lu rfl ln))))))) rfl ?_
  refine awp_cond (v == (l.getD k 0)) rfl rfl (fun hc1 => ?_) (fun hc1 => ?_)
  ·skip
   have hf2 := (beq_iff_eq).1 hc1
   refine seqR ?_
   refine opG rfl (aop_move (av := .i (k : Int)) (.inl rfl) rfl rfl rfl ?_)
   refine opG rfl (aop_move (av := .i (k : Int)) (.inr rfl) rfl rfl rfl ?_)
   refine op0 ?_
   refine awp_ret ?_
   exact fret (av := .v (.int .i64 (k : Int))) rfl rfl (by rw [idxB_stop (f := fun x => decide (v = x)) 0 (by omega) hinv (by simpa using hc1)] <;> rfl)
  ·skip
   have hf3 := (beq_eq_false_iff_ne).1 hc1
   refine awp_skip ?_
   refine regR ?_
   refine opG rfl (aop_binI (u := (.int .i64 ((k + 1 : Nat) : Int))) rfl rfl rfl rfl rfl trivial (addN (by omega)) ?_)
   refine opG rfl (aop_move (av := .i ((k + 1 : Nat) : Int)) (.inl rfl) rfl rfl rfl ?_)
   refine op0 ?_
   show _ ∧ _
   refine ⟨by omega, (any_step 0 (by omega) hinv (by simpa using hc1)), ?_⟩
   exact imp_ler [] (ler0 (sS rfl (sS rfl (sS rfl (sS rfl (sS rfl sr_none)))))) (keep_of rfl)
 ·skip
  have hf4 := of_decide_eq_false hc0
  refine awp_exit ?_
  refine seqR ?_
  refine opG rfl (aop_move (av := .i (-1)) (.inr rfl) rfl rfl rfl ?_)
  refine op0 ?_
  refine awp_ret ?_
  exact fret (av := .v (.int .i64 (-1))) rfl rfl (by rw [idxB_end (f := fun x => decide (v = x)) (by omega) hinv] <;> rfl)
theorem coI (l : List Int) (v : Int) (hl : l.length ≤ 4294967296) : Fn Try.prog 34 [.ro l.length (enc eI l), .v (.int .i64 v)] (.v (.bool (decide (v ∈ l)))) := by
 refine fnE_of_body (N := 9) Try.func34 rfl rfl (resOf1 rfl) (by simp) (fun w0 X hL_ => ?_)
 refine seqR ?_
 refine opG rfl (aop_move (av := .b false) (.inr rfl) rfl rfl rfl ?_)
 refine op0 ?_
 refine seqR ?_
 refine opG rfl (aop_move (av := .q eI l) (.inl rfl) rfl rfl rfl ?_)
 refine opG rfl (aop_move (av := .i v) (.inl rfl) rfl rfl rfl ?_)
 refine opG rfl (call_ (ixI l v (by first | omega | (simp; done) | decide | (simp at *; omega))) rfl rfl rfl rfl rfl bd42 rfl ?_)
 refine opG rfl (aop_binI (u := (.bool (decide ((idxB (fun x => decide (v = x)) l) ≥ 0)))) rfl rfl rfl rfl rfl trivial rfl ?_)
 refine opG rfl (aop_move (av := .b (decide ((idxB (fun x => decide (v = x)) l) ≥ 0))) (.inr rfl) rfl rfl rfl ?_)
 refine op0 ?_
 refine rs_ (upd none_ 4 (.b (decide ((idxB (fun x => decide (v = x)) l) ≥ 0)))) noOb (lu rfl ln) rfl ?_
 refine awp_ret ?_
 exact fret (av := .v (.bool (decide ((idxB (fun x => decide (v = x)) l) ≥ 0)))) rfl rfl (by rw [idxB_mem2])
theorem r05_Next (secs : List Sec) (pts : List Pnt) (right : List Bool) (s e : Int) (hs : secs.length ≤ 65536) (hp : pts.length ≤ 65536) (hr : right.length ≤ 4294967296) : Fn Try.prog 16 [.agg [.one, .ro secs.length (enc eSec secs), .one, .ro pts.length (enc ePnt pts), .one, .one, .one, .one, .one, .one], .agg [.v (.int .i64 s), .v (.int .i64 e)], .ro right.length (enc eB right)] (.tup [.agg [.v (.int .i64 ((nextV secs pts right s e).sec)), .v (.int .i64 ((nextV secs pts right s e).en))], .v (.bool (nextB secs pts right s e))]) := by
 have hal := aroundL_len secs pts s e
 refine fnC_of_body (N := 92) Try.func16 rfl rfl (by simp) (fun w0 X hL_ => ?_)
 refine seqR ?_
 refine opG rfl (aop_box 51 rfl rfl rfl rfl rfl rfl rfl ?_)
 refine opG rfl (aop_box 52 rfl rfl rfl rfl rfl rfl rfl ?_)
 refine opG rfl (aop_alloc 53 rfl rfl rfl rfl ze51 rfl ?_)
 refine opG rfl (aop_move (av := .b false) (.inr rfl) rfl rfl rfl ?_)
 refine op0 ?_
 refine rs_ (upd (upd (upd (upd (upd none_ 2 (.q eB right)) 3 (.pt 51 0)) 4 (.pt 52 0)) 6 (.pt 53 0)) 7 (.b false)) (updO (updO (updO noOb 51 (.live ⟨[.one, .q eSec secs, .one, .q ePnt pts, .one, .one, .one, .one, .one, .one], 37, 1⟩)) 52 (.live ⟨[.i s, .i e], 51, 1⟩)) 53 (.live ⟨[.i 0, .i 0], 51, 1⟩)) (lu rfl (lu rfl (lu rfl (lu rfl (lu rfl ln))))) rfl ?_
 refine seqR ?_
 refine opG rfl (aop_ldB (cells' := [.one, .q eSec secs, .one, .q ePnt pts, .one, .one, .one, .one, .one, .one]) rfl rfl rfl ag37 sz37 rfl rfl rfl rfl ?_)
 refine opG rfl (aop_ldB (cells' := [.i s, .i e]) rfl rfl rfl ag51 sz51 rfl rfl rfl rfl ?_)
 refine opG rfl (call_ (r05_Around secs pts s e (by first | omega | (simp; done) | decide | (simp at *; omega)) (by first | omega | (simp; done) | decide | (simp at *; omega))) rfl rfl rfl rfl rfl bd29 rfl ?_)
 refine opG rfl (aop_move (av := .q eEn (aroundL secs pts s e)) (.inr rfl) rfl rfl rfl ?_)
 refine op0 ?_
 refine rs_ (upd (upd (upd (upd (upd (upd none_ 2 (.q eB right)) 3 (.pt 51 0)) 4 (.pt 52 0)) 6 (.pt 53 0)) 7 (.b false)) 8 (.q eEn (aroundL secs pts s e))) (updO (updO (updO noOb 51 (.live ⟨[.one, .q eSec secs, .one, .q ePnt pts, .one, .one, .one, .one, .one, .one], 37, 1⟩)) 52 (.live ⟨[.i s, .i e], 51, 1⟩)) 53 (.live ⟨[.i 0, .i 0], 51, 1⟩)) (lu rfl (lu rfl (lu rfl (lu rfl (lu rfl (lu rfl ln)))))) rfl ?_
 refine awp_seq ?_
 refine seqR ?_
 refine opG rfl (aop_move (av := .q eEn (aroundL secs pts s e)) (.inl rfl) rfl rfl rfl ?_)
 refine opG rfl (aop_len rfl rfl rfl rfl ut69 (len_ro rfl) ?_)
 refine opG rfl (aop_binI (u := (.bool (((aroundL secs pts s e).length : Int) == 0))) rfl rfl rfl rfl rfl trivial rfl ?_)
 refine op0 ?_
 refine awp_cond (((aroundL secs pts s e).length : Int) == 0) rfl rfl (fun hc0 => ?_) (fun hc0 => ?_)
 ·skip
  have hf1 := (beq_iff_eq).1 hc0
  have h0 : (aroundL secs pts s e).length = 0 := by simpa using hc0
  refine seqR ?_
  refine opG rfl (aop_build rfl rfl rfl pl51 rfl ?_)
  refine opG rfl (aop_store rfl rfl rfl sz51 rfl rfl rfl rfl rfl (Nat.le_of_ble_eq_true rfl) rfl rfl ?_)
  refine opG rfl (aop_move (av := .b false) (.inr rfl) rfl rfl rfl ?_)
  refine op0 ?_
  refine rs_ (upd (upd (upd (upd (upd (upd none_ 2 (.q eB right)) 3 (.pt 51 0)) 4 (.pt 52 0)) 6 (.pt 53 0)) 7 (.b false)) 8 (.q eEn (aroundL secs pts s e))) (updO (updO (updO (updO noOb 51 (.live ⟨[.one, .q eSec secs, .one, .q ePnt pts, .one, .one, .one, .one, .one, .one], 37, 1⟩)) 52 (.live ⟨[.i s, .i e], 51, 1⟩)) 53 (.live ⟨[.i 0, .i 0], 51, 1⟩)) 53 (.live ⟨[.i 0, .i 0], 51, 1⟩)) (lu rfl (lu rfl (lu rfl (lu rfl (lu rfl (lu rfl ln)))))) rfl ?_
  refine awp_imp _ ((frz_ [53] [(53, ⟨[.i 0, .i 0], 51, 1⟩)] rfl (fun _ h => h) ⟨keep_cells (cs := [.i 0, .i 0]) (by simp) rfl rfl (frzs_cons (.inl rfl) (frzs_cons (.inl rfl) frzs_nil)), trivial⟩ (fz_same 7 (.b false) rfl (fz_same 6 (.pt 53 0) rfl fz_none)))) ?_
  refine awp_ret ?_
  exact fretC2 (p := 6) (q := 7) rfl rfl ag51 sz51 rfl rfl (Nat.le_of_ble_eq_true rfl) rfl rfl rfl (by have h_ := nextV_no (right := right) (next_none h0); rw [h_.1, h_.2] <;> rfl)
 ·skip
  have hf2 := (beq_eq_false_iff_ne).1 hc0
  have h0 : ¬ (aroundL secs pts s e).length = 0 := by simpa using hc0
  refine awp_skip ?_
  refine seqR ?_
  refine opG rfl (aop_ldB (cells' := [.one, .q eSec secs, .one, .q ePnt pts, .one, .one, .one, .one, .one, .one]) rfl rfl rfl ag37 sz37 rfl rfl rfl rfl ?_)
  refine opG rfl (aop_ldB (cells' := [.i s, .i e]) rfl rfl rfl ag51 sz51 rfl rfl rfl rfl ?_)
  refine opG rfl (callW_ (r05_node secs s e (by first | omega | (simp; done) | decide | (simp at *; omega))) rfl rfl rfl rfl rfl bd30 (lends_cons (lend_agg (lends_cons (lend_n (av := .one)) (lends_cons (lend_n (av := .q eSec secs)) (lends_cons (lend_n (av := .one)) (lends_cons (.one _ rfl) (lends_cons (lend_n (av := .one)) (lends_cons (lend_n (av := .one)) (lends_cons (lend_n (av := .one)) (lends_cons (lend_n (av := .one)) (lends_cons (lend_n (av := .one)) (lends_cons (lend_n (av := .one)) lends_nil))))))))))) (lends_cons (lend_n (av := .agg [.i s, .i e])) lends_nil)) ?_)
  refine opG rfl (aop_move (av := .tup [.i (nodeA secs s e), .b (!noNode secs s e)]) (.inl rfl) rfl rfl rfl ?_)
  refine opG rfl (aop_extract rfl rfl rfl rfl rfl ?_)
  refine opG rfl (aop_extract rfl rfl rfl rfl rfl ?_)
  refine opG rfl (aop_move (av := .i (nodeA secs s e)) (.inr rfl) rfl rfl rfl ?_)
  refine opG rfl (aop_move (av := .b (!noNode secs s e)) (.inr rfl) rfl rfl rfl ?_)
  refine op0 ?_
  refine rs_ (upd (upd (upd (upd (upd (upd (upd none_ 2 (.q eB right)) 3 (.pt 51 0)) 4 (.pt 52 0)) 6 (.pt 53 0)) 7 (.b false)) 8 (.q eEn (aroundL secs pts s e))) 9 (.i (nodeA secs s e))) (updO (updO (updO noOb 51 (.live ⟨[.one, .q eSec secs, .one, .q ePnt pts, .one, .one, .one, .one, .one, .one], 37, 1⟩)) 52 (.live ⟨[.i s, .i e], 51, 1⟩)) 53 (.live ⟨[.i 0, .i 0], 51, 1⟩)) (lu rfl (lu rfl (lu rfl (lu rfl (lu rfl (lu rfl (lu rfl ln))))))) rfl ?_
  refine seqR ?_
  refine opG rfl (aop_ldB (cells' := [.one, .q eSec secs, .one, .q ePnt pts, .one, .one, .one, .one, .one, .one]) rfl rfl rfl ag37 sz37 rfl rfl rfl rfl ?_)
  refine opG rfl (aop_move (av := .i (nodeA secs s e)) (.inl rfl) rfl rfl rfl ?_)
  refine opG rfl (callW_ (r05_Point pts (nodeA secs s e) (by first | omega | (simp; done) | decide | (simp at *; omega))) rfl rfl rfl rfl rfl bd31 (lends_cons (lend_agg (lends_cons (lend_n (av := .one)) (lends_cons (.one _ rfl) (lends_cons (lend_n (av := .one)) (lends_cons (lend_n (av := .q ePnt pts)) (lends_cons (lend_n (av := .one)) (lends_cons (lend_n (av := .one)) (lends_cons (lend_n (av := .one)) (lends_cons (lend_n (av := .one)) (lends_cons (lend_n (av := .one)) (lends_cons (lend_n (av := .one)) lends_nil))))))))))) (lends_cons (lend_n (av := .i (nodeA secs s e))) lends_nil)) ?_)
  refine opG rfl (aop_move (av := .i (pointI pts (nodeA secs s e))) (.inr rfl) rfl rfl rfl ?_)
  refine op0 ?_
  refine rs_ (upd (upd (upd (upd (upd (upd (upd none_ 2 (.q eB right)) 3 (.pt 51 0)) 4 (.pt 52 0)) 6 (.pt 53 0)) 7 (.b false)) 8 (.q eEn (aroundL secs pts s e))) 11 (.i (pointI pts (nodeA secs s e)))) (updO (updO (updO noOb 51 (.live ⟨[.one, .q eSec secs, .one, .q ePnt pts, .one, .one, .one, .one, .one, .one], 37, 1⟩)) 52 (.live ⟨[.i s, .i e], 51, 1⟩)) 53 (.live ⟨[.i 0, .i 0], 51, 1⟩)) (lu rfl (lu rfl (lu rfl (lu rfl (lu rfl (lu rfl (lu rfl ln))))))) rfl ?_
  refine awp_seq ?_
  refine seqR ?_
  refine opG rfl (aop_move (av := .i (pointI pts (nodeA secs s e))) (.inl rfl) rfl rfl rfl ?_)
  refine opG rfl (aop_binI (u := (.bool (decide ((pointI pts (nodeA secs s e)) < 0)))) rfl rfl rfl rfl rfl trivial rfl ?_)
  refine op0 ?_
  refine awp_cond (decide ((pointI pts (nodeA secs s e)) < 0)) rfl rfl (fun hc1 => ?_) (fun hc1 => ?_)
  ·skip
   have hf3 := of_decide_eq_true hc1
   have hi : pointI pts (nodeA secs s e) < 0 := by omega
   refine seqR ?_
   refine opG rfl (aop_move (av := .q eEn (aroundL secs pts s e)) (.inl rfl) rfl rfl rfl ?_)
   refine opG rfl (aop_ixE (k := 0) dE rfl rfl rfl ut69 sz51 rfl rfl (fun _ => rfl) rfl (by first | omega | (simp; done) | decide | (simp at *; omega)) ?_)
   refine opG rfl (aop_ldB (cells' := [.i (((aroundL secs pts s e).getD 0 dE).sec), .i (((aroundL secs pts s e).getD 0 dE).en)]) rfl rfl rfl ag51 sz51 rfl rfl rfl rfl ?_)
   refine opG rfl (aop_store rfl rfl rfl sz51 rfl rfl rfl rfl rfl (Nat.le_of_ble_eq_true rfl) rfl rfl ?_)
   refine opG rfl (aop_move (av := .b true) (.inr rfl) rfl rfl rfl ?_)
   refine op0 ?_
   refine rs_ (upd (upd (upd (upd (upd (upd (upd none_ 2 (.q eB right)) 3 (.pt 51 0)) 4 (.pt 52 0)) 6 (.pt 53 0)) 7 (.b true)) 8 (.q eEn (aroundL secs pts s e))) 11 (.i (pointI pts (nodeA secs s e)))) (updO (updO (updO (updO noOb 51 (.live ⟨[.one, .q eSec secs, .one, .q ePnt pts, .one, .one, .one, .one, .one, .one], 37, 1⟩)) 52 (.live ⟨[.i s, .i e], 51, 1⟩)) 53 (.live ⟨[.i 0, .i 0], 51, 1⟩)) 53 (.live ⟨[.i (((aroundL secs pts s e).getD 0 dE).sec), .i (((aroundL secs pts s e).getD 0 dE).en)], 51, 1⟩)) (lu rfl (lu rfl (lu rfl (lu rfl (lu rfl (lu rfl (lu rfl ln))))))) rfl ?_
   refine awp_imp _ ((frz_ [53] [(53, ⟨[.i (((aroundL secs pts s e).getD 0 dE).sec), .i (((aroundL secs pts s e).getD 0 dE).en)], 51, 1⟩)] rfl (fun _ h => h) ⟨keep_cells (cs := [.i (((aroundL secs pts s e).getD 0 dE).sec), .i (((aroundL secs pts s e).getD 0 dE).en)]) (by simp) rfl rfl (frzs_cons (.inl rfl) (frzs_cons (.inl rfl) frzs_nil)), trivial⟩ (fz_same 7 (.b true) rfl (fz_same 6 (.pt 53 0) rfl fz_none)))) ?_
   refine awp_ret ?_
   exact fretC2 (p := 6) (q := 7) rfl rfl ag51 sz51 rfl rfl (Nat.le_of_ble_eq_true rfl) rfl rfl rfl (by have h_ := nextV_of (right := right) (next_plain h0 hi); rw [h_.1, h_.2] <;> rfl)
  ·skip
   have hf4 := of_decide_eq_false hc1
   have hi : ¬ pointI pts (nodeA secs s e) < 0 := by omega
   have hr_ := pointI_range pts (nodeA secs s e)
   refine awp_skip ?_
   refine seqR ?_
   refine opG rfl (aop_fieldAddr (av := .pt 51 0) (av' := .pt 51 3) rfl rfl rfl ft37_3 sz35 rfl rfl rfl ?_)
   refine opG rfl (aop_ld (av := .q ePnt pts) rfl rfl rfl ag35 rfl rfl ?_)
   refine opG rfl (aop_move (av := .i (pointI pts (nodeA secs s e))) (.inl rfl) rfl rfl rfl ?_)
   refine opG rfl (aop_ixI dP rfl rfl rfl ut35 sz58 rfl rfl (fun _ => rfl) rfl (by omega) (by first | omega | (simp; done) | decide | (simp at *; omega)) ?_)
   refine opG rfl (aop_fieldAddr (av := .rp (([.i ((pts.getD (pointI pts (nodeA secs s e)).toNat dP).node), .i ((pts.getD (pointI pts (nodeA secs s e)).toNat dP).stem), .i ((pts.getD (pointI pts (nodeA secs s e)).toNat dP).left), .i ((pts.getD (pointI pts (nodeA secs s e)).toNat dP).right)] : List AV) ++ ((enc ePnt pts).drop (((pointI pts (nodeA secs s e)).toNat + 1) * 4)))) (av' := .rp (([.i ((pts.getD (pointI pts (nodeA secs s e)).toNat dP).left), .i ((pts.getD (pointI pts (nodeA secs s e)).toNat dP).right)] : List AV) ++ ((enc ePnt pts).drop (((pointI pts (nodeA secs s e)).toNat + 1) * 4)))) rfl rfl rfl ft58_2 sz3 rfl rfl rfl ?_)
   refine opG rfl (aop_ld (av := .i ((pts.getD (pointI pts (nodeA secs s e)).toNat dP).left)) rfl rfl rfl ag3 rfl rfl ?_)
   refine opG rfl (aop_move (av := .i ((pts.getD (pointI pts (nodeA secs s e)).toNat dP).left)) (.inr rfl) rfl rfl rfl ?_)
   refine op0 ?_
   refine rs_ (upd (upd (upd (upd (upd (upd (upd (upd none_ 2 (.q eB right)) 3 (.pt 51 0)) 4 (.pt 52 0)) 6 (.pt 53 0)) 7 (.b false)) 8 (.q eEn (aroundL secs pts s e))) 11 (.i (pointI pts (nodeA secs s e)))) 12 (.i ((pts.getD (pointI pts (nodeA secs s e)).toNat dP).left))) (updO (updO (updO noOb 51 (.live ⟨[.one, .q eSec secs, .one, .q ePnt pts, .one, .one, .one, .one, .one, .one], 37, 1⟩)) 52 (.live ⟨[.i s, .i e], 51, 1⟩)) 53 (.live ⟨[.i 0, .i 0], 51, 1⟩)) (lu rfl (lu rfl (lu rfl (lu rfl (lu rfl (lu rfl (lu rfl (lu rfl ln)))))))) rfl ?_
   refine awp_seq ?_
   refine seqR ?_
   refine opG rfl (aop_move (av := .i (pointI pts (nodeA secs s e))) (.inl rfl) rfl rfl rfl ?_)
   refine opG rfl (aop_move (av := .q eB right) (.inl rfl) rfl rfl rfl ?_)
   refine opG rfl (aop_len rfl rfl rfl rfl ut27 (len_ro rfl) ?_)
   refine opG rfl (aop_binI (u := (.bool (decide ((pointI pts (nodeA secs s e)) < (right.length : Int))))) rfl rfl rfl rfl rfl trivial rfl ?_)
   refine opG rfl (aop_move (av := .b (decide ((pointI pts (nodeA secs s e)) < (right.length : Int)))) (.inl rfl) rfl rfl rfl ?_)
   refine aops_grp 5 50 (.b ((decide ((pointI pts (nodeA secs s e)) < (right.length : Int))) && (right.getD (pointI pts (nodeA secs s e)).toNat false))) ?_ ?_
   ·refine (Bool.eq_false_or_eq_true (decide ((pointI pts (nodeA secs s e)) < (right.length : Int)))).elim (fun hg5 => ?_) (fun hg5 => ?_)
    ·skip
     have hf6 := of_decide_eq_true hg5
     refine opY rfl rfl rfl (by show AV.v (.bool (decide ((pointI pts (nodeA secs s e)) < (right.length : Int)))) = _; rw [hg5]) (aop_move (av := .q eB right) (.inl rfl) rfl rfl rfl ?_)
     refine opY rfl rfl rfl (by show AV.v (.bool (decide ((pointI pts (nodeA secs s e)) < (right.length : Int)))) = _; rw [hg5]) (aop_move (av := .i (pointI pts (nodeA secs s e))) (.inl rfl) rfl rfl rfl ?_)
     refine opY rfl rfl rfl (by show AV.v (.bool (decide ((pointI pts (nodeA secs s e)) < (right.length : Int)))) = _; rw [hg5]) (aop_ixI false rfl rfl rfl ut27 sz4 rfl rfl (fun _ => rfl) rfl (by omega) (by first | omega | (simp; done) | decide | (simp at *; omega)) ?_)
     refine opY rfl rfl rfl (by show AV.v (.bool (decide ((pointI pts (nodeA secs s e)) < (right.length : Int)))) = _; rw [hg5]) (aop_ld (av := .b (right.getD (pointI pts (nodeA secs s e)).toNat false)) rfl rfl rfl ag4 rfl rfl ?_)
     refine opG rfl (aop_pick (b := (decide ((pointI pts (nodeA secs s e)) < (right.length : Int)))) (av := .b (right.getD (pointI pts (nodeA secs s e)).toNat false)) rfl rfl rfl rfl ((congrArg (fun b_ => cond b_ _ _) hg5).trans rfl) ?_)
     refine op0 ?_
     exact imp_env (lee_both 50 _ _ (by rw [hg5] <;> rfl) (lee_out 49 _ rfl (lee_out 48 _ rfl (lee_out 47 _ rfl (lee_out 46 _ rfl (lee_same _))))))
    ·skip
     have hf7 := of_decide_eq_false hg5
     refine opN rfl rfl rfl rfl (by show yv (.bool (decide ((pointI pts (nodeA secs s e)) < (right.length : Int)))) ≠ _; rw [hg5]; intro h; cases h) rfl rfl ?_
     refine opN rfl rfl rfl rfl (by show yv (.bool (decide ((pointI pts (nodeA secs s e)) < (right.length : Int)))) ≠ _; rw [hg5]; intro h; cases h) rfl rfl ?_
     refine opN rfl rfl rfl rfl (by show yv (.bool (decide ((pointI pts (nodeA secs s e)) < (right.length : Int)))) ≠ _; rw [hg5]; intro h; cases h) rfl rfl ?_
     refine opN rfl rfl rfl rfl (by show yv (.bool (decide ((pointI pts (nodeA secs s e)) < (right.length : Int)))) ≠ _; rw [hg5]; intro h; cases h) rfl rfl ?_
     refine opG rfl (aop_pick (b := (decide ((pointI pts (nodeA secs s e)) < (right.length : Int)))) (av := .b false) rfl rfl rfl rfl ((congrArg (fun b_ => cond b_ _ _) hg5).trans rfl) ?_)
     refine op0 ?_
     exact imp_env (lee_both 50 _ _ (by rw [hg5] <;> rfl) (lee_out 49 _ rfl (lee_out 48 _ rfl (lee_out 47 _ rfl (lee_out 46 _ rfl (lee_same _))))))
   refine op0 ?_
   refine rs_ (upd (upd (upd (upd (upd (upd (upd (upd none_ 3 (.pt 51 0)) 4 (.pt 52 0)) 6 (.pt 53 0)) 7 (.b false)) 8 (.q eEn (aroundL secs pts s e))) 11 (.i (pointI pts (nodeA secs s e)))) 12 (.i ((pts.getD (pointI pts (nodeA secs s e)).toNat dP).left))) 50 (.b ((decide ((pointI pts (nodeA secs s e)) < (right.length : Int))) && (right.getD (pointI pts (nodeA secs s e)).toNat false)))) (updO (updO (updO noOb 51 (.live ⟨[.one, .q eSec secs, .one, .q ePnt pts, .one, .one, .one, .one, .one, .one], 37, 1⟩)) 52 (.live ⟨[.i s, .i e], 51, 1⟩)) 53 (.live ⟨[.i 0, .i 0], 51, 1⟩)) (lu rfl (lu rfl (lu rfl (lu rfl (lu rfl (lu rfl (lu rfl (lu rfl ln)))))))) rfl ?_
   refine cutG ⟨(upd (upd (upd (upd (upd (upd (upd none_ 3 (.pt 1 0)) 4 (.pt 2 0)) 6 (.pt 3 0)) 7 (.b false)) 8 (.q eEn (aroundL secs pts s e))) 11 (.i (pointI pts (nodeA secs s e)))) 12 (.i (legI pts right (pointI pts (nodeA secs s e))))), (updO (updO (updO noOb 1 (.live ⟨[.one, .q eSec secs, .one, .q ePnt pts, .one, .one, .one, .one, .one, .one], 37, 1⟩)) 2 (.live ⟨[.i s, .i e], 51, 1⟩)) 3 (.live ⟨[.i 0, .i 0], 51, 1⟩))⟩ (fun s h => h) ?_ ?_
   ·skip
    refine awp_cond ((decide ((pointI pts (nodeA secs s e)) < (right.length : Int))) && (right.getD (pointI pts (nodeA secs s e)).toNat false)) rfl rfl (fun hc2 => ?_) (fun hc2 => ?_)
    ·skip
     obtain ⟨hf8a, hf8b⟩ := and_t hc2
     have hf9 := of_decide_eq_true hf8a
     have hl2 : (pts.getD (pointI pts (nodeA secs s e)).toNat dP).right = (legI pts right (pointI pts (nodeA secs s e))) := by unfold legI; rw [if_pos (by rw [hasB_nn (by omega)]; exact hc2)]
     refine regR ?_
     refine opG rfl (aop_fieldAddr (av := .pt 51 0) (av' := .pt 51 3) rfl rfl rfl ft37_3 sz35 rfl rfl rfl ?_)
     refine opG rfl (aop_ld (av := .q ePnt pts) rfl rfl rfl ag35 rfl rfl ?_)
     refine opG rfl (aop_move (av := .i (pointI pts (nodeA secs s e))) (.inl rfl) rfl rfl rfl ?_)
     refine opG rfl (aop_ixI dP rfl rfl rfl ut35 sz58 rfl rfl (fun _ => rfl) rfl (by omega) (by first | omega | (simp; done) | decide | (simp at *; omega)) ?_)
     refine opG rfl (aop_fieldAddr (av := .rp (([.i ((pts.getD (pointI pts (nodeA secs s e)).toNat dP).node), .i ((pts.getD (pointI pts (nodeA secs s e)).toNat dP).stem), .i ((pts.getD (pointI pts (nodeA secs s e)).toNat dP).left), .i ((pts.getD (pointI pts (nodeA secs s e)).toNat dP).right)] : List AV) ++ ((enc ePnt pts).drop (((pointI pts (nodeA secs s e)).toNat + 1) * 4)))) (av' := .rp (([.i ((pts.getD (pointI pts (nodeA secs s e)).toNat dP).right)] : List AV) ++ ((enc ePnt pts).drop (((pointI pts (nodeA secs s e)).toNat + 1) * 4)))) rfl rfl rfl ft58_3 sz3 rfl rfl rfl ?_)
     refine opG rfl (aop_ld (av := .i ((pts.getD (pointI pts (nodeA secs s e)).toNat dP).right)) rfl rfl rfl ag3 rfl rfl ?_)
     refine opG rfl (aop_move (av := .i ((pts.getD (pointI pts (nodeA secs s e)).toNat dP).right)) (.inr rfl) rfl rfl rfl ?_)
     refine op0 ?_
     show Imp _ _ _
     exact imp_ler [(51, 1), (52, 2), (53, 3)] (lerL [(51, 1), (52, 2), (53, 3)] [((51, 1), .live ⟨[.one, .q eSec secs, .one, .q ePnt pts, .one, .one, .one, .one, .one, .one], 37, 1⟩), ((52, 2), .live ⟨[.i s, .i e], 51, 1⟩), ((53, 3), .live ⟨[.i 0, .i 0], 51, 1⟩)] rfl (by decide) (by decide) ⟨row_no (o := ⟨[.one, .q eSec secs, .one, .q ePnt pts, .one, .one, .one, .one, .one, .one], 37, 1⟩) rfl rfl, row_no (o := ⟨[.i s, .i e], 51, 1⟩) rfl rfl, row_no (o := ⟨[.i 0, .i 0], 51, 1⟩) rfl rfl, trivial⟩ (sr_same 12 (.i (legI pts right (pointI pts (nodeA secs s e)))) (by exact congrArg (fun n_ : Int => AV.v (.int .i64 n_)) hl2) NoI.out (sr_same 11 (.i (pointI pts (nodeA secs s e))) rfl NoI.out (sr_same 8 (.q eEn (aroundL secs pts s e)) rfl NoI.out (sr_same 7 (.b false) rfl NoI.out (sr_map 6 (.pt 3 0) (by first | exact Ok.sl _ _ _ (by first | decide | simp) | exact Ok.pt _ _ (by first | decide | simp)) rfl (sr_map 4 (.pt 2 0) (by first | exact Ok.sl _ _ _ (by first | decide | simp) | exact Ok.pt _ _ (by first | decide | simp)) rfl (sr_map 3 (.pt 1 0) (by first | exact Ok.sl _ _ _ (by first | decide | simp) | exact Ok.pt _ _ (by first | decide | simp)) rfl sr_none)))))))) (keep_of rfl)
    ·skip
     have hl2 : (pts.getD (pointI pts (nodeA secs s e)).toNat dP).left = (legI pts right (pointI pts (nodeA secs s e))) := by unfold legI; rw [if_neg (by rw [hasB_nn (by omega), hc2]; simp)]
     refine awp_skip ?_
     show Imp _ _ _
     exact imp_ler [(51, 1), (52, 2), (53, 3)] (lerL [(51, 1), (52, 2), (53, 3)] [((51, 1), .live ⟨[.one, .q eSec secs, .one, .q ePnt pts, .one, .one, .one, .one, .one, .one], 37, 1⟩), ((52, 2), .live ⟨[.i s, .i e], 51, 1⟩), ((53, 3), .live ⟨[.i 0, .i 0], 51, 1⟩)] rfl (by decide) (by decide) ⟨row_no (o := ⟨[.one, .q eSec secs, .one, .q ePnt pts, .one, .one, .one, .one, .one, .one], 37, 1⟩) rfl rfl, row_no (o := ⟨[.i s, .i e], 51, 1⟩) rfl rfl, row_no (o := ⟨[.i 0, .i 0], 51, 1⟩) rfl rfl, trivial⟩ (sr_same 12 (.i (legI pts right (pointI pts (nodeA secs s e)))) (by exact congrArg (fun n_ : Int => AV.v (.int .i64 n_)) hl2) NoI.out (sr_same 11 (.i (pointI pts (nodeA secs s e))) rfl NoI.out (sr_same 8 (.q eEn (aroundL secs pts s e)) rfl NoI.out (sr_same 7 (.b false) rfl NoI.out (sr_map 6 (.pt 3 0) (by first | exact Ok.sl _ _ _ (by first | decide | simp) | exact Ok.pt _ _ (by first | decide | simp)) rfl (sr_map 4 (.pt 2 0) (by first | exact Ok.sl _ _ _ (by first | decide | simp) | exact Ok.pt _ _ (by first | decide | simp)) rfl (sr_map 3 (.pt 1 0) (by first | exact Ok.sl _ _ _ (by first | decide | simp) | exact Ok.pt _ _ (by first | decide | simp)) rfl sr_none)))))))) (keep_of rfl)
   refine awp_seq ?_
   refine awp_seq ?_
   refine awp_draw (m := 9) [(65, .b (s != ((pts.getD (pointI pts (nodeA secs s e)).toNat dP).stem))), (64, .i ((pts.getD (pointI pts (nodeA secs s e)).toNat dP).stem)), (63, .rp (([.i ((pts.getD (pointI pts (nodeA secs s e)).toNat dP).stem), .i ((pts.getD (pointI pts (nodeA secs s e)).toNat dP).left), .i ((pts.getD (pointI pts (nodeA secs s e)).toNat dP).right)] : List AV) ++ ((enc ePnt pts).drop (((pointI pts (nodeA secs s e)).toNat + 1) * 4)))), (62, .rp (([.i ((pts.getD (pointI pts (nodeA secs s e)).toNat dP).node), .i ((pts.getD (pointI pts (nodeA secs s e)).toNat dP).stem), .i ((pts.getD (pointI pts (nodeA secs s e)).toNat dP).left), .i ((pts.getD (pointI pts (nodeA secs s e)).toNat dP).right)] : List AV) ++ ((enc ePnt pts).drop (((pointI pts (nodeA secs s e)).toNat + 1) * 4)))), (61, .i (pointI pts (nodeA secs s e))), (60, .q ePnt pts), (59, .pt 1 3), (58, .i s), (57, .pt 2 0)] mixed (by kernel_rfl) ?_ ?_
   ·refine ⟨?_, ?_, ?_, ?_, ?_, ?_, ?_, ?_, ?_, trivial⟩
    ·exact ⟨57, rfl, blt_lt rfl, fun st hob hE => aop_fieldAddr (av := .pt 2 0) (av' := .pt 2 0) rfl rfl rfl ft51_0 sz3 (hE 4 rfl) rfl rfl (by rw [hob]; rfl)⟩
    ·exact ⟨58, rfl, blt_lt rfl, fun st hob hE => aop_ld (av := .i s) rfl rfl rfl ag3 (hE 57 rfl) (by rw [hob]; rfl) (by rw [hob]; rfl)⟩
    ·exact ⟨59, rfl, blt_lt rfl, fun st hob hE => aop_fieldAddr (av := .pt 1 0) (av' := .pt 1 3) rfl rfl rfl ft37_3 sz35 (hE 3 rfl) rfl rfl (by rw [hob]; rfl)⟩
    ·exact ⟨60, rfl, blt_lt rfl, fun st hob hE => aop_ld (av := .q ePnt pts) rfl rfl rfl ag35 (hE 59 rfl) (by rw [hob]; rfl) (by rw [hob]; rfl)⟩
    ·exact ⟨61, rfl, blt_lt rfl, fun st hob hE => aop_move (av := .i (pointI pts (nodeA secs s e))) (.inl rfl) rfl rfl (hE 11 rfl) (by rw [hob]; rfl)⟩
    ·exact ⟨62, rfl, blt_lt rfl, fun st hob hE => aop_ixI dP rfl rfl rfl ut35 sz58 (hE 60 rfl) (hE 61 rfl) (fun _ => rfl) rfl (by omega) (by first | omega | (simp; done) | decide | (simp at *; omega)) (by rw [hob]; rfl)⟩
    ·exact ⟨63, rfl, blt_lt rfl, fun st hob hE => aop_fieldAddr (av := .rp (([.i ((pts.getD (pointI pts (nodeA secs s e)).toNat dP).node), .i ((pts.getD (pointI pts (nodeA secs s e)).toNat dP).stem), .i ((pts.getD (pointI pts (nodeA secs s e)).toNat dP).left), .i ((pts.getD (pointI pts (nodeA secs s e)).toNat dP).right)] : List AV) ++ ((enc ePnt pts).drop (((pointI pts (nodeA secs s e)).toNat + 1) * 4)))) (av' := .rp (([.i ((pts.getD (pointI pts (nodeA secs s e)).toNat dP).stem), .i ((pts.getD (pointI pts (nodeA secs s e)).toNat dP).left), .i ((pts.getD (pointI pts (nodeA secs s e)).toNat dP).right)] : List AV) ++ ((enc ePnt pts).drop (((pointI pts (nodeA secs s e)).toNat + 1) * 4)))) rfl rfl rfl ft58_1 sz3 (hE 62 rfl) rfl rfl (by rw [hob]; rfl)⟩
    ·exact ⟨64, rfl, blt_lt rfl, fun st hob hE => aop_ld (av := .i ((pts.getD (pointI pts (nodeA secs s e)).toNat dP).stem)) rfl rfl rfl ag3 (hE 63 rfl) rfl (by rw [hob]; rfl)⟩
    ·exact ⟨65, rfl, blt_lt rfl, fun st hob hE => aop_binI (u := (.bool (s != ((pts.getD (pointI pts (nodeA secs s e)).toNat dP).stem)))) rfl rfl rfl (hE 58 rfl) (hE 64 rfl) trivial rfl (by rw [hob]; rfl)⟩
   refine op0 ?_
   refine awp_cond (s != ((pts.getD (pointI pts (nodeA secs s e)).toNat dP).stem)) rfl rfl (fun hc3 => ?_) (fun hc3 => ?_)
   ·skip
    have hf10 := (bne_iff_ne).1 hc3
    have hs_ : ¬ s = (pts.getD (pointI pts (nodeA secs s e)).toNat dP).stem := by simpa using hc3
    refine awp_seq ?_
    refine seqR ?_
    refine opG rfl (aop_fieldAddr (av := .pt 2 0) (av' := .pt 2 0) rfl rfl rfl ft51_0 sz3 rfl rfl rfl ?_)
    refine opG rfl (aop_ld (av := .i s) rfl rfl rfl ag3 rfl rfl ?_)
    refine opG rfl (aop_move (av := .i (legI pts right (pointI pts (nodeA secs s e)))) (.inl rfl) rfl rfl rfl ?_)
    refine opG rfl (aop_binI (u := (.bool (s == (legI pts right (pointI pts (nodeA secs s e)))))) rfl rfl rfl rfl rfl trivial rfl ?_)
    refine op0 ?_
    refine rs_ (upd (upd (upd (upd (upd none_ 6 (.pt 3 0)) 7 (.b false)) 8 (.q eEn (aroundL secs pts s e))) 12 (.i (legI pts right (pointI pts (nodeA secs s e))))) 69 (.b (s == (legI pts right (pointI pts (nodeA secs s e)))))) (updO (updO (updO noOb 1 (.live ⟨[.one, .q eSec secs, .one, .q ePnt pts, .one, .one, .one, .one, .one, .one], 37, 1⟩)) 2 (.live ⟨[.i s, .i e], 51, 1⟩)) 3 (.live ⟨[.i 0, .i 0], 51, 1⟩)) (lu rfl (lu rfl (lu rfl (lu rfl (lu rfl ln))))) rfl ?_
    refine awp_cond (s == (legI pts right (pointI pts (nodeA secs s e)))) rfl rfl (fun hc4 => ?_) (fun hc4 => ?_)
    ·skip
     have hf11 := (beq_iff_eq).1 hc4
     refine seqR ?_
     refine opG rfl (aop_move (av := .q eEn (aroundL secs pts s e)) (.inl rfl) rfl rfl rfl ?_)
     refine opG rfl (aop_ixE (k := 0) dE rfl rfl rfl ut69 sz51 rfl rfl (fun _ => rfl) rfl (by first | omega | (simp; done) | decide | (simp at *; omega)) ?_)
     refine opG rfl (aop_ldB (cells' := [.i (((aroundL secs pts s e).getD 0 dE).sec), .i (((aroundL secs pts s e).getD 0 dE).en)]) rfl rfl rfl ag51 sz51 rfl rfl rfl rfl ?_)
     refine opG rfl (aop_store rfl rfl rfl sz51 rfl rfl rfl rfl rfl (Nat.le_of_ble_eq_true rfl) rfl rfl ?_)
     refine opG rfl (aop_move (av := .b true) (.inr rfl) rfl rfl rfl ?_)
     refine op0 ?_
     refine rs_ (upd (upd (upd (upd none_ 6 (.pt 3 0)) 7 (.b true)) 8 (.q eEn (aroundL secs pts s e))) 12 (.i (legI pts right (pointI pts (nodeA secs s e))))) (updO (updO (updO (updO noOb 1 (.live ⟨[.one, .q eSec secs, .one, .q ePnt pts, .one, .one, .one, .one, .one, .one], 37, 1⟩)) 2 (.live ⟨[.i s, .i e], 51, 1⟩)) 3 (.live ⟨[.i 0, .i 0], 51, 1⟩)) 3 (.live ⟨[.i (((aroundL secs pts s e).getD 0 dE).sec), .i (((aroundL secs pts s e).getD 0 dE).en)], 51, 1⟩)) (lu rfl (lu rfl (lu rfl (lu rfl ln)))) rfl ?_
     refine awp_imp _ ((frz_ [3] [(3, ⟨[.i (((aroundL secs pts s e).getD 0 dE).sec), .i (((aroundL secs pts s e).getD 0 dE).en)], 51, 1⟩)] rfl (fun _ h => h) ⟨keep_cells (cs := [.i (((aroundL secs pts s e).getD 0 dE).sec), .i (((aroundL secs pts s e).getD 0 dE).en)]) (by simp) rfl rfl (frzs_cons (.inl rfl) (frzs_cons (.inl rfl) frzs_nil)), trivial⟩ (fz_same 7 (.b true) rfl (fz_same 6 (.pt 3 0) rfl fz_none)))) ?_
     refine awp_ret ?_
     exact fretC2 (p := 6) (q := 7) rfl rfl ag51 sz51 rfl rfl (Nat.le_of_ble_eq_true rfl) rfl rfl rfl (by have h_ := nextV_of (right := right) (next_leg h0 hi hs_ (by simpa using hc4)); rw [h_.1, h_.2] <;> rfl)
    ·skip
     have hf12 := (beq_eq_false_iff_ne).1 hc4
     refine awp_skip ?_
     refine seqR ?_
     refine opG rfl (aop_build rfl rfl rfl pl51 rfl ?_)
     refine opG rfl (aop_store rfl rfl rfl sz51 rfl rfl rfl rfl rfl (Nat.le_of_ble_eq_true rfl) rfl rfl ?_)
     refine opG rfl (aop_move (av := .b false) (.inr rfl) rfl rfl rfl ?_)
     refine op0 ?_
     refine awp_imp _ ((frz_ [3] [(3, ⟨[.i 0, .i 0], 51, 1⟩)] rfl (fun _ h => h) ⟨keep_cells (cs := [.i 0, .i 0]) (by simp) rfl rfl (frzs_cons (.inl rfl) (frzs_cons (.inl rfl) frzs_nil)), trivial⟩ (fz_same 7 (.b false) rfl (fz_same 6 (.pt 3 0) rfl fz_none)))) ?_
     refine awp_ret ?_
     exact fretC2 (p := 6) (q := 7) rfl rfl ag51 sz51 rfl rfl (Nat.le_of_ble_eq_true rfl) rfl rfl rfl (by have h_ := nextV_no (right := right) (next_off h0 hi hs_ (by simpa using hc4)); rw [h_.1, h_.2] <;> rfl)
   ·skip
    have hf13 := (bne_eq_false_iff_eq).1 hc3
    have hs_ : s = (pts.getD (pointI pts (nodeA secs s e)).toNat dP).stem := by simpa using hc3
    refine awp_skip ?_
    refine awp_seq ?_
    refine seqR ?_
    refine opG rfl (aop_move (av := .i 0) (.inr rfl) rfl rfl rfl ?_)
    refine op0 ?_
    refine awp_block ?_
    refine awp_countI (fun k => ⟨(upd (upd (upd (upd (upd none_ 6 (.pt 1 0)) 7 (.b false)) 8 (.q eEn (aroundL secs pts s e))) 12 (.i (legI pts right (pointI pts (nodeA secs s e))))) 13 (.i (k : Int))), (updO noOb 1 (.live ⟨[.i 0, .i 0], 51, 1⟩))⟩) (fun k => ((aroundL secs pts s e).take k).any (fun x : En => decide (x.sec = (legI pts right (pointI pts (nodeA secs s e))))) = false) ((aroundL secs pts s e).length) ?_ (by simp) (fun k hk_k hinv => ?_)
    ·skip
     exact imp_ler [(3, 1)] (lerI 3 1 rfl rfl (sS rfl (sS rfl (sS rfl (sS rfl (sM rfl sr_none)))))) (keep_of rfl)
    refine awp_seq ?_
    refine seqR ?_
    refine opG rfl (aop_move (av := .i (k : Int)) (.inl rfl) rfl rfl rfl ?_)
    refine opG rfl (aop_move (av := .q eEn (aroundL secs pts s e)) (.inl rfl) rfl rfl rfl ?_)
    refine opG rfl (aop_len rfl rfl rfl rfl ut69 (len_ro rfl) ?_)
    refine opG rfl (aop_binI (u := (.bool (decide ((k : Int) < ((aroundL secs pts s e).length : Int))))) rfl rfl rfl rfl rfl trivial rfl ?_)
    refine op0 ?_
    refine rs_ (upd (upd (upd (upd (upd (upd none_ 6 (.pt 1 0)) 7 (.b false)) 8 (.q eEn (aroundL secs pts s e))) 12 (.i (legI pts right (pointI pts (nodeA secs s e))))) 13 (.i (k : Int))) 77 (.b (decide ((k : Int) < ((aroundL secs pts s e).length : Int))))) (updO noOb 1 (.live ⟨[.i 0, .i 0], 51, 1⟩)) (lu rfl (lu rfl (lu rfl (lu rfl (lu rfl (lu rfl ln)))))) rfl ?_
    refine awp_cond (decide ((k : Int) < ((aroundL secs pts s e).length : Int))) rfl rfl (fun hc5 => ?_) (fun hc5 => ?_)
    ·skip
     have hf14 := of_decide_eq_true hc5
     refine awp_skip ?_
     refine awp_seq ?_
     refine awp_block ?_
     refine seqR ?_
     refine opG rfl (aop_move (av := .q eEn (aroundL secs pts s e)) (.inl rfl) rfl rfl rfl ?_)
     refine opG rfl (aop_move (av := .i (k : Int)) (.inl rfl) rfl rfl rfl ?_)
     refine opG rfl (aop_ixE dE rfl rfl rfl ut69 sz51 rfl rfl (fun _ => rfl) rfl (by first | omega | (simp; done) | decide | (simp at *; omega)) ?_)
     refine opG rfl (aop_fieldAddr (av := .rp (([.i (((aroundL secs pts s e).getD k dE).sec), .i (((aroundL secs pts s e).getD k dE).en)] : List AV) ++ ((enc eEn (aroundL secs pts s e)).drop ((k + 1) * 2)))) (av' := .rp (([.i (((aroundL secs pts s e).getD k dE).sec), .i (((aroundL secs pts s e).getD k dE).en)] : List AV) ++ ((enc eEn (aroundL secs pts s e)).drop ((k + 1) * 2)))) rfl rfl rfl ft51_0 sz3 rfl rfl rfl ?_)
     refine opG rfl (aop_ld (av := .i (((aroundL secs pts s e).getD k dE).sec)) rfl rfl rfl ag3 rfl rfl ?_)
     refine opG rfl (aop_move (av := .i (legI pts right (pointI pts (nodeA secs s e)))) (.inl rfl) rfl rfl rfl ?_)
     refine opG rfl (aop_binI (u := (.bool ((((aroundL secs pts s e).getD k dE).sec) == (legI pts right (pointI pts (nodeA secs s e)))))) rfl rfl rfl rfl rfl trivial rfl ?_)
     refine op0 ?_
     refine rs_ (upd (upd (upd (upd (upd (upd none_ 6 (.pt 1 0)) 7 (.b false)) 8 (.q eEn (aroundL secs pts s e))) 12 (.i (legI pts right (pointI pts (nodeA secs s e))))) 13 (.i (k : Int))) 86 (.b ((((aroundL secs pts s e).getD k dE).sec) == (legI pts right (pointI pts (nodeA secs s e)))))) (updO noOb 1 (.live ⟨[.i 0, .i 0], 51, 1⟩)) (lu rfl (lu rfl (lu rfl (lu rfl (lu rfl (lu rfl ln)))))) rfl ?_
     refine awp_cond ((((aroundL secs pts s e).getD k dE).sec) == (legI pts right (pointI pts (nodeA secs s e)))) rfl rfl (fun hc6 => ?_) (fun hc6 => ?_)
     ·skip
      have hf15 := (beq_iff_eq).1 hc6
      refine seqR ?_
      refine opG rfl (aop_move (av := .q eEn (aroundL secs pts s e)) (.inl rfl) rfl rfl rfl ?_)
      refine opG rfl (aop_move (av := .i (k : Int)) (.inl rfl) rfl rfl rfl ?_)
      refine opG rfl (aop_ixE dE rfl rfl rfl ut69 sz51 rfl rfl (fun _ => rfl) rfl (by first | omega | (simp; done) | decide | (simp at *; omega)) ?_)
      refine opG rfl (aop_ldB (cells' := [.i (((aroundL secs pts s e).getD k dE).sec), .i (((aroundL secs pts s e).getD k dE).en)]) rfl rfl rfl ag51 sz51 rfl rfl rfl rfl ?_)
      refine opG rfl (aop_store rfl rfl rfl sz51 rfl rfl rfl rfl rfl (Nat.le_of_ble_eq_true rfl) rfl rfl ?_)
      refine opG rfl (aop_move (av := .b true) (.inr rfl) rfl rfl rfl ?_)
      refine op0 ?_
      refine rs_ (upd (upd (upd (upd (upd none_ 6 (.pt 1 0)) 7 (.b true)) 8 (.q eEn (aroundL secs pts s e))) 12 (.i (legI pts right (pointI pts (nodeA secs s e))))) 13 (.i (k : Int))) (updO (updO noOb 1 (.live ⟨[.i 0, .i 0], 51, 1⟩)) 1 (.live ⟨[.i (((aroundL secs pts s e).getD k dE).sec), .i (((aroundL secs pts s e).getD k dE).en)], 51, 1⟩)) (lu rfl (lu rfl (lu rfl (lu rfl (lu rfl ln))))) rfl ?_
      refine awp_imp _ ((frz_ [1] [(1, ⟨[.i (((aroundL secs pts s e).getD k dE).sec), .i (((aroundL secs pts s e).getD k dE).en)], 51, 1⟩)] rfl (fun _ h => h) ⟨keep_cells (cs := [.i (((aroundL secs pts s e).getD k dE).sec), .i (((aroundL secs pts s e).getD k dE).en)]) (by simp) rfl rfl (frzs_cons (.inl rfl) (frzs_cons (.inl rfl) frzs_nil)), trivial⟩ (fz_same 7 (.b true) rfl (fz_same 6 (.pt 1 0) rfl fz_none)))) ?_
      refine awp_ret ?_
      exact fretC2 (p := 6) (q := 7) rfl rfl ag51 sz51 rfl rfl (Nat.le_of_ble_eq_true rfl) rfl rfl rfl (by have h_ := nextV_of (right := right) ((next_stem h0 hi hs_ rfl (idxB_stop dE (by omega) hinv (by simpa using hc6)).symm).trans (if_neg (by omega))); rw [h_.1, h_.2] <;> rfl)
     ·skip
      have hf16 := (beq_eq_false_iff_ne).1 hc6
      refine awp_skip ?_
      refine regR ?_
      refine opG rfl (aop_move (av := .i (k : Int)) (.inl rfl) rfl rfl rfl ?_)
      refine opG rfl (aop_binI (u := (.int .i64 ((k + 1 : Nat) : Int))) rfl rfl rfl rfl rfl trivial (addN (by omega)) ?_)
      refine opG rfl (aop_move (av := .i ((k + 1 : Nat) : Int)) (.inr rfl) rfl rfl rfl ?_)
      refine op0 ?_
      show _ ∧ _
      refine ⟨by omega, (any_step dE (by omega) hinv (by simpa using hc6)), ?_⟩
      exact imp_ler [(1, 1)] (lerI 1 1 rfl rfl (sS rfl (sS rfl (sS rfl (sS rfl (sM rfl sr_none)))))) (keep_of rfl)
    ·skip
     have hf17 := of_decide_eq_false hc5
     refine awp_exit ?_
     refine seqR ?_
     refine opG rfl (aop_build rfl rfl rfl pl51 rfl ?_)
     refine opG rfl (aop_store rfl rfl rfl sz51 rfl rfl rfl rfl rfl (Nat.le_of_ble_eq_true rfl) rfl rfl ?_)
     refine opG rfl (aop_move (av := .b false) (.inr rfl) rfl rfl rfl ?_)
     refine op0 ?_
     refine awp_imp _ ((frz_ [1] [(1, ⟨[.i 0, .i 0], 51, 1⟩)] rfl (fun _ h => h) ⟨keep_cells (cs := [.i 0, .i 0]) (by simp) rfl rfl (frzs_cons (.inl rfl) (frzs_cons (.inl rfl) frzs_nil)), trivial⟩ (fz_same 7 (.b false) rfl (fz_same 6 (.pt 1 0) rfl fz_none)))) ?_
     refine awp_ret ?_
     exact fretC2 (p := 6) (q := 7) rfl rfl ag51 sz51 rfl rfl (Nat.le_of_ble_eq_true rfl) rfl rfl rfl (by have h_ := nextV_no (right := right) ((next_stem h0 hi hs_ rfl (idxB_end (by omega) hinv).symm).trans (if_pos (by decide))); rw [h_.1, h_.2] <;> rfl)
theorem cl_I (l : List Int) (hl : l.length ≤ 4294967296) : FnO Try.prog 35 [.ro l.length (enc eI l)] (.sl 0 0 l.length) [⟨(enc eI l), 3, 1⟩] := by
 refine fnE_of_body (N := 8) Try.func35 rfl rfl (resOf1 rfl) (by simp) (fun w0 X hL_ => ?_)
 refine seqR ?_
 refine opG rfl (aop_move (av := .v (.slice none 0 0)) (.inr rfl) rfl rfl rfl ?_)
 refine op0 ?_
 refine awp_seq ?_
 refine seqR ?_
 refine opG rfl (aop_move (av := .q eI l) (.inl rfl) rfl rfl rfl ?_)
 refine opG rfl (aop_slNil rfl rfl rfl ut38 rfl rfl (.inl rfl) (fun b4_ hb4_ => ?_))
 refine op0 ?_
 refine awp_cond b4_ rfl rfl (fun hc0 => ?_) (fun hc0 => ?_)
 ·skip
  have h0 : l.length = 0 := Decidable.byContradiction fun h => by have := hb4_ h; rw [hc0] at this; cases this
  refine seqR ?_
  refine opG rfl (aop_move (av := .v (.slice none 0 0)) (.inr rfl) rfl rfl rfl ?_)
  refine op0 ?_
  refine rs_ (upd (upd none_ 0 (.q eI l)) 2 (.v (.slice none 0 0))) noOb (lu rfl (lu rfl ln)) rfl ?_
  refine awp_imp _ (imp_adopt 2 51 3 1 rfl rfl) ?_
  refine awp_ret ?_
  exact fretO 51 rfl rfl rfl h0.symm (by rw [List.length_eq_zero_iff.1 h0]; rfl)
 ·skip
  refine awp_skip ?_
  refine seqR ?_
  refine opG rfl (aop_litO 52 rfl rfl rfl ut38 iz3 (by decide) (by decide) rfl rfl rfl rfl ?_)
  refine opG rfl (aop_move (av := .q eI l) (.inl rfl) rfl rfl rfl ?_)
  refine opG rfl (aop_appE (f := eI) (l := ([] : List Int)) (l2 := l) 53 rfl rfl rfl rfl ut38 in3 rfl (by decide) rfl rfl rfl rfl rfl rfl (fun _ => rfl) rfl rfl rfl (by first | omega | (simp; done) | decide | (simp at *; omega)) (by first | omega | (simp; done) | decide | (simp at *; omega)) rfl ?_)
  refine opG rfl (aop_move (av := .sl 53 0 ((([] : List Int) ++ l).length)) (.inr rfl) rfl rfl rfl ?_)
  refine op0 ?_
  refine rs_ (upd none_ 2 (.sl 53 0 ((([] : List Int) ++ l).length))) (updO (updO (updO noOb 52 (.live ⟨[], 3, 1⟩)) 52 .dead) 53 (.live ⟨(enc eI (([] : List Int) ++ l)), 3, 1⟩)) (lu rfl ln) rfl ?_
  refine awp_ret ?_
  exact fretO 53 rfl rfl rfl rfl rfl
def insRen : Go.Shelf.Ren := ⟨fun x => match x with | 21 => 37 | 27 => 49 | 28 => 50 | 35 => 59 | 39 => 61 | n => n, fun x => match x with | 3 => 3 | 4 => 4 | 22 => 38 | n => n, fun x => x⟩
set_option maxRecDepth 100000 in
theorem insLays : Go.Proofs.Lays2.n21 Try.prog insRen where
 mixed := by kernel_rfl
 f21 := by kernel_rfl
 f27 := by kernel_rfl
 f28 := by kernel_rfl
 f35 := by kernel_rfl
 f39 := by kernel_rfl
 t0 := by kernel_rfl
 a0 := fun w => run_isAgg (by kernel_rfl) w
 z0 := fun w => run_sizeOf (by kernel_rfl) w
 v0 := run_zero_ (by kernel_rfl)
 t3 := by kernel_rfl
 a3 := fun w => run_isAgg (by kernel_rfl) w
 z3 := fun w => run_sizeOf (by kernel_rfl) w
 v3 := run_zero_ (by kernel_rfl)
 t4 := by kernel_rfl
 a4 := fun w => run_isAgg (by kernel_rfl) w
 z4 := fun w => run_sizeOf (by kernel_rfl) w
 v4 := run_zero_ (by kernel_rfl)
 t22 := by kernel_rfl
 a22 := fun w => run_isAgg (by kernel_rfl) w
 z22 := fun w => run_sizeOf (by kernel_rfl) w
 v22 := run_zero_ (by kernel_rfl)
 i3 := by kernel_rfl
theorem insI (l : List Int) (x : Int) (h0 : 0 < l.length) (hl : l.length ≤ 1000000) : FnGO Try.prog 37 [⟨enc eI l, 3, 1⟩, ⟨[.v (.int .i64 x)], 3, 1⟩] [.sl 0 0 l.length, .v (.int .i64 0), .sl 1 0 1] (.sl 2 0 (x :: l).length) [.dead, .dead, .live ⟨enc eI (x :: l), 3, 1⟩] := insert_G insLays l x h0 hl
theorem c_reach (secs : List Sec) (pts : List Pnt) (right : List Bool) (trail : List Int) (now heard speed dir ahd : Int) (hs : secs.length ≤ 65536) (hp : pts.length ≤ 65536) (hr : right.length ≤ 4294967296) (ht : trail.length ≤ 1024) (hlen : ∀ x, x ∈ secs → 1 ≤ x.len ∧ x.len ≤ 65536) (hq : 0 ≤ now - heard ∧ now - heard ≤ 1000000) (hsp : 0 ≤ speed ∧ speed ≤ 1000000) (ha : 0 ≤ ahd ∧ ahd ≤ 1000000) (hn : 0 ≤ now ∧ now ≤ 1000000000) : Fn Try.prog 28 [.rp [.one, .ro secs.length (enc eSec secs), .one, .ro pts.length (enc ePnt pts), .one, .one, .one, .one, .one, .one], .agg [.one, .v (.int .i64 heard), .one, .v (.int .i64 dir), .v (.int .i64 ahd), .ro trail.length (enc eI trail)], .v (.int .i64 now), .v (.int .i64 speed), .ro right.length (enc eB right)] (.tup [.ro ((spanF secs pts right trail dir ((now - heard) * speed - ahd)).length) (enc eI (spanF secs pts right trail dir ((now - heard) * speed - ahd))), .agg [.v (.int .i64 (frontS secs pts right trail dir ((now - heard) * speed - ahd))), .v (.int .i64 (frontE secs pts right trail dir ((now - heard) * speed - ahd)))]]) := by
 obtain ⟨Q, hQ⟩ : ∃ Q, Q = (now - heard) * speed := ⟨_, rfl⟩
 have hQb := mulS hq hsp hQ
 obtain ⟨M, hM⟩ : ∃ M, M = ((now - heard) * speed - ahd) := ⟨_, rfl⟩
 have hM2 : M = Q - ahd := by rw [hM, hQ]
 rw [← hM]
 refine fnC_of_body (N := 77) Try.func28 rfl rfl (by simp) (fun w0 X hL_ => ?_)
 refine seqR ?_
 refine opG rfl (aop_box 51 rfl rfl rfl rfl rfl rfl rfl ?_)
 refine opG rfl (aop_move (av := .v (.slice none 0 0)) (.inr rfl) rfl rfl rfl ?_)
 refine opG rfl (aop_alloc 52 rfl rfl rfl rfl ze51 rfl ?_)
 refine op0 ?_
 refine awp_seq ?_
 refine seqR ?_
 refine opG rfl (aop_fieldAddr (av := .pt 51 0) (av' := .pt 51 5) rfl rfl rfl ft40_5 sz38 rfl rfl rfl ?_)
 refine opG rfl (aop_ld (av := .q eI trail) rfl rfl rfl ag38 rfl rfl ?_)
 refine opG rfl (aop_len rfl rfl rfl rfl ut38 (len_ro rfl) ?_)
 refine opG rfl (aop_binI (u := (.bool ((trail.length : Int) == 0))) rfl rfl rfl rfl rfl trivial rfl ?_)
 refine op0 ?_
 refine rs_ (upd (upd (upd (upd (upd (upd (upd (upd none_ 0 (.rp [.one, .q eSec secs, .one, .q ePnt pts, .one, .one, .one, .one, .one, .one])) 2 (.i now)) 3 (.i speed)) 4 (.q eB right)) 6 (.pt 51 0)) 10 (.v (.slice none 0 0))) 11 (.pt 52 0)) 20 (.b ((trail.length : Int) == 0))) (updO (updO noOb 51 (.live ⟨[.one, .i heard, .one, .i dir, .i ahd, .q eI trail], 40, 1⟩)) 52 (.live ⟨[.i 0, .i 0], 51, 1⟩)) (lu rfl (lu rfl (lu rfl (lu rfl (lu rfl (lu rfl (lu rfl (lu rfl ln)))))))) rfl ?_
 refine awp_cond ((trail.length : Int) == 0) rfl rfl (fun hc0 => ?_) (fun hc0 => ?_)
 ·skip
  have hf1 := (beq_iff_eq).1 hc0
  have h0t : trail.length = 0 := by simpa using hc0
  refine seqR ?_
  refine opG rfl (aop_build rfl rfl rfl pl51 rfl ?_)
  refine opG rfl (aop_move (av := .v (.slice none 0 0)) (.inr rfl) rfl rfl rfl ?_)
  refine opG rfl (aop_store rfl rfl rfl sz51 rfl rfl rfl rfl rfl (Nat.le_of_ble_eq_true rfl) rfl rfl ?_)
  refine op0 ?_
  refine awp_imp _ ((frz_ [52] [(52, ⟨[.i (-1), .i 0], 51, 1⟩)] rfl (fun _ h => h) ⟨keep_cells (cs := [.i (-1), .i 0]) (by simp) rfl rfl (frzs_cons (.inl rfl) (frzs_cons (.inl rfl) frzs_nil)), trivial⟩ (fz_same 11 (.pt 52 0) rfl (fz_lend 10 (.ro 0 []) .nil fz_none)))) ?_
  refine awp_ret ?_
  exact fretC3 (p := 11) (q := 10) rfl rfl ag51 sz51 rfl rfl (Nat.le_of_ble_eq_true rfl) rfl rfl rfl (by rw [(reach_none (secs := secs) (pts := pts) (right := right) (dir := dir) (m := M) h0t).1, (reach_none (secs := secs) (pts := pts) (right := right) (dir := dir) (m := M) h0t).2.1, (reach_none (secs := secs) (pts := pts) (right := right) (dir := dir) (m := M) h0t).2.2] <;> rfl)
 ·skip
  have hf2 := (beq_eq_false_iff_ne).1 hc0
  have h0t : ¬ trail.length = 0 := by simpa using hc0
  refine awp_skip ?_
  refine awp_seq ?_
  refine awp_drawZ (m := 12) (fun b => (updO (updO (updO (updO noOb 51 (.live ⟨[.one, .i heard, .one, .i dir, .i ahd, .q eI trail], 40, 1⟩)) 52 (.live ⟨[.i 0, .i 0], 51, 1⟩)) 53 (cond (b 2) (.live ⟨(enc eI trail), 3, 1⟩) .free)) 54 (cond (b 10) (.live ⟨[.i 0, .i 0], 51, 1⟩) .free))) (updO (updO (updO (updO noOb 51 (.live ⟨[.one, .i heard, .one, .i dir, .i ahd, .q eI trail], 40, 1⟩)) 52 (.live ⟨[.i 0, .i 0], 51, 1⟩)) 53 (.live ⟨(enc eI trail), 3, 1⟩)) 54 (.live ⟨[.i 0, .i 0], 51, 1⟩)) [2, 10] (funext fun id_ => by by_cases e0_ : id_ = 53 <;> by_cases e1_ : id_ = 54 <;> first | (subst e0_; rfl) | (subst e1_; rfl) | simp only [addO, updO, nbeq_ne e0_, nbeq_ne e1_, cond_false]) (fun b b' h => by simp only [h 2 (by decide), h 10 (by decide)]) (fun b h => by simp only [h 2 (by decide), h 10 (by decide), cond_true]) [(12, .sl 53 0 trail.length), (13, .pt 54 0), (31, .agg [.i (trail.getD 0 0), .i dir]), (30, .i dir), (29, .pt 51 3), (28, .i (trail.getD 0 0)), (27, .rp (([.i (trail.getD 0 0)] : List AV) ++ ((enc eI trail).drop ((0 + 1) * 1)))), (26, .q eI trail), (25, .pt 51 5), (24, .sl 53 0 trail.length), (23, .q eI trail), (22, .pt 51 5)] mixed (by kernel_rfl) ?_ ?_
  ·refine ⟨?_, ?_, ?_, ?_, ?_, ?_, ?_, ?_, ?_, ?_, ?_, ?_, trivial⟩
   ·exact sy_pure (by decide) (fun b => ⟨22, rfl, blt_lt rfl, fun st hob hE => aop_fieldAddr (av := .pt 51 0) (av' := .pt 51 5) rfl rfl rfl ft40_5 sz38 (hE 6 rfl) rfl rfl (by rw [hob]; rfl)⟩)
   ·exact sy_pure (by decide) (fun b => ⟨23, rfl, blt_lt rfl, fun st hob hE => aop_ld (av := .q eI trail) rfl rfl rfl ag38 (hE 22 rfl) (by rw [hob]; rfl) (by rw [hob]; rfl)⟩)
   ·exact sy_fx (by decide) ⟨rfl, (fun d_ h_ => by cases h_ <;> exact blt_lt rfl), fun b hb_ hdep_ hcl_ st hob hE => by obtain ⟨en_, ob_⟩ := st; have hob_ : ob_ = (updO (updO (updO (updO noOb 51 (.live ⟨[.one, .i heard, .one, .i dir, .i ahd, .q eI trail], 40, 1⟩)) 52 (.live ⟨[.i 0, .i 0], 51, 1⟩)) 53 .free) 54 (cond (b 10) (.live ⟨[.i 0, .i 0], 51, 1⟩) .free)) := Eq.trans hob (by simp only [hb_, cond_false, cond_true]); subst hob_; exact callO_ 53 (cl_I trail (by first | omega | (simp; done) | decide | (simp at *; omega))) rfl rfl rfl rfl rfl bd35 (by show Lends _ ([en_ 23] ++ _) _; rw [show en_ 23 = _ from hE 23 rfl]; exact (lends_cons (lend_n (av := .q eI trail)) lends_nil)) (.sl _ _ _ trivial) (news1 news0) (free1 rfl) rfl rfl ⟨rfl, fun id_ => by by_cases e0_ : id_ = 53 <;> by_cases e1_ : id_ = 54 <;> first | (subst e0_; rfl) | (subst e1_; rfl) | simp only [addO, updO, nbeq_ne e0_, nbeq_ne e1_, cond_false]⟩⟩
   ·exact sy_pure (by decide) (fun b => ⟨25, rfl, blt_lt rfl, fun st hob hE => aop_fieldAddr (av := .pt 51 0) (av' := .pt 51 5) rfl rfl rfl ft40_5 sz38 (hE 6 rfl) rfl rfl (by rw [hob]; rfl)⟩)
   ·exact sy_pure (by decide) (fun b => ⟨26, rfl, blt_lt rfl, fun st hob hE => aop_ld (av := .q eI trail) rfl rfl rfl ag38 (hE 25 rfl) (by rw [hob]; rfl) (by rw [hob]; rfl)⟩)
   ·exact sy_pure (by decide) (fun b => ⟨27, rfl, blt_lt rfl, fun st hob hE => aop_ixE (k := 0) 0 rfl rfl rfl ut38 sz3 (hE 26 rfl) rfl (fun _ => rfl) rfl (by first | omega | (simp; done) | decide | (simp at *; omega)) (by rw [hob]; rfl)⟩)
   ·exact sy_pure (by decide) (fun b => ⟨28, rfl, blt_lt rfl, fun st hob hE => aop_ld (av := .i (trail.getD 0 0)) rfl rfl rfl ag3 (hE 27 rfl) rfl (by rw [hob]; rfl)⟩)
   ·exact sy_pure (by decide) (fun b => ⟨29, rfl, blt_lt rfl, fun st hob hE => aop_fieldAddr (av := .pt 51 0) (av' := .pt 51 3) rfl rfl rfl ft40_3 sz3 (hE 6 rfl) rfl rfl (by rw [hob]; rfl)⟩)
   ·exact sy_pure (by decide) (fun b => ⟨30, rfl, blt_lt rfl, fun st hob hE => aop_ld (av := .i dir) rfl rfl rfl ag3 (hE 29 rfl) (by rw [hob]; rfl) (by rw [hob]; rfl)⟩)
   ·exact sy_pure (by decide) (fun b => ⟨31, rfl, blt_lt rfl, fun st hob hE => aop_build rfl rfl rfl pl51 (by simp only [partsA, List.map, evA, hE 28 rfl, hE 30 rfl]; rfl) (by rw [hob]; rfl)⟩)
   ·exact sy_fx (by decide) ⟨rfl, (fun d_ h_ => by cases h_ <;> exact blt_lt rfl), fun b hb_ hdep_ hcl_ st hob hE => by obtain ⟨en_, ob_⟩ := st; have hob_ : ob_ = (updO (updO (updO (updO noOb 51 (.live ⟨[.one, .i heard, .one, .i dir, .i ahd, .q eI trail], 40, 1⟩)) 52 (.live ⟨[.i 0, .i 0], 51, 1⟩)) 53 (cond (b 2) (.live ⟨(enc eI trail), 3, 1⟩) .free)) 54 .free) := Eq.trans hob (by simp only [hb_, cond_false, cond_true]); subst hob_; exact aop_alloc 54 rfl rfl rfl rfl ze51 rfl ⟨rfl, fun id_ => by by_cases e0_ : id_ = 53 <;> by_cases e1_ : id_ = 54 <;> first | (subst e0_; rfl) | (subst e1_; rfl) | simp only [addO, updO, nbeq_ne e0_, nbeq_ne e1_, cond_false]⟩⟩
   ·exact sy_pure (by decide) (fun b => ⟨12, rfl, blt_lt rfl, fun st hob hE => aop_move (av := .sl 53 0 trail.length) (.inr rfl) rfl rfl (hE 24 rfl) (by rw [hob]; rfl)⟩)
  refine opG rfl (aop_store rfl rfl rfl sz51 rfl rfl rfl rfl rfl (Nat.le_of_ble_eq_true rfl) rfl rfl ?_)
  refine op0 ?_
  refine awp_seq ?_
  refine seqR ?_
  refine opG rfl (aop_move (av := .i now) (.inl rfl) rfl rfl rfl ?_)
  refine opG rfl (aop_fieldAddr (av := .pt 51 0) (av' := .pt 51 1) rfl rfl rfl ft40_1 sz2 rfl rfl rfl ?_)
  refine opG rfl (aop_ld (av := .i heard) rfl rfl rfl ag2 rfl rfl ?_)
  refine opG rfl (aop_binI (u := (.int .i64 (now - heard))) rfl rfl rfl rfl rfl trivial (subI (by omega)) ?_)
  refine opG rfl (aop_move (av := .i speed) (.inl rfl) rfl rfl rfl ?_)
  refine opG rfl (aop_eqv (d := 37) (a := .i ((now - heard) * speed)) (b := .i Q) (aop_binI (u := (.int .i64 ((now - heard) * speed))) rfl rfl rfl rfl rfl trivial (mulI (by omega)) rfl) (by rw [hQ]) ?_)
  refine opG rfl (aop_fieldAddr (av := .pt 51 0) (av' := .pt 51 4) rfl rfl rfl ft40_4 sz3 rfl rfl rfl ?_)
  refine opG rfl (aop_ld (av := .i ahd) rfl rfl rfl ag3 rfl rfl ?_)
  refine opG rfl (aop_eqv (d := 40) (a := .i (Q - ahd)) (b := .i M) (aop_binI (u := (.int .i64 (Q - ahd))) rfl rfl rfl rfl rfl trivial (subI (by omega)) rfl) (by rw [hM2]) ?_)
  refine opG rfl (aop_move (av := .i M) (.inr rfl) rfl rfl rfl ?_)
  refine op0 ?_
  refine rs_ (upd (upd (upd (upd (upd (upd (upd none_ 0 (.rp [.one, .q eSec secs, .one, .q ePnt pts, .one, .one, .one, .one, .one, .one])) 4 (.q eB right)) 10 (.v (.slice none 0 0))) 11 (.pt 52 0)) 12 (.sl 53 0 trail.length)) 13 (.pt 54 0)) 14 (.i M)) (updO (updO (updO (updO (updO noOb 51 (.live ⟨[.one, .i heard, .one, .i dir, .i ahd, .q eI trail], 40, 1⟩)) 52 (.live ⟨[.i 0, .i 0], 51, 1⟩)) 53 (.live ⟨(enc eI trail), 3, 1⟩)) 54 (.live ⟨[.i 0, .i 0], 51, 1⟩)) 54 (.live ⟨[.i (trail.getD 0 0), .i dir], 51, 1⟩)) (lu rfl (lu rfl (lu rfl (lu rfl (lu rfl (lu rfl (lu rfl ln))))))) rfl ?_
  refine awp_block ?_
  refine awp_countI (fun k => ⟨(upd (upd (upd (upd (upd (upd (upd none_ 0 (.rp [.one, .q eSec secs, .one, .q ePnt pts, .one, .one, .one, .one, .one, .one])) 4 (.q eB right)) 10 (.v (.slice none 0 0))) 11 (.pt 3 0)) 12 (.sl 1 0 ((rsL trail (rsK secs pts right (rs0 trail dir M) k)).length))) 13 (.pt 2 0)) 14 (.i ((rsK secs pts right (rs0 trail dir M) k).m))), (updO (updO (updO noOb 1 (.live ⟨(enc eI (rsL trail (rsK secs pts right (rs0 trail dir M) k))), 3, 1⟩)) 2 (.live ⟨[.i ((rsK secs pts right (rs0 trail dir M) k).s), .i ((rsK secs pts right (rs0 trail dir M) k).e)], 51, 1⟩)) 3 (.live ⟨[.i 0, .i 0], 51, 1⟩))⟩) (fun k => rsRun secs pts right trail (M.toNat - k) (rsK secs pts right (rs0 trail dir M) k) = reachF secs pts right trail dir M ∧ (rsK secs pts right (rs0 trail dir M) k).m ≤ M - (k : Int) ∧ RsOk secs trail (rsK secs pts right (rs0 trail dir M) k)) (M.toNat) ?_ ⟨rfl, by show M ≤ _; omega, rsOk0 _ _ _ _ _⟩ (fun k hk_k hinv => ?_)
  ·skip
   exact imp_ler [(53, 1), (54, 2), (52, 3)] (lerL [(53, 1), (54, 2), (52, 3)] [((53, 1), .live ⟨(enc eI (rsL trail (rsK secs pts right (rs0 trail dir M) 0))), 3, 1⟩), ((54, 2), .live ⟨[.i ((rsK secs pts right (rs0 trail dir M) 0).s), .i ((rsK secs pts right (rs0 trail dir M) 0).e)], 51, 1⟩), ((52, 3), .live ⟨[.i 0, .i 0], 51, 1⟩)] rfl (by decide) (by decide) ⟨row_no (o := ⟨(enc eI trail), 3, 1⟩) rfl rfl, row_no (o := ⟨[.i (trail.getD 0 0), .i dir], 51, 1⟩) rfl rfl, row_no (o := ⟨[.i 0, .i 0], 51, 1⟩) rfl rfl, trivial⟩ (sr_same 14 (.i ((rsK secs pts right (rs0 trail dir M) 0).m)) rfl NoI.out (sr_map 13 (.pt 2 0) (by first | exact Ok.sl _ _ _ (by first | decide | simp) | exact Ok.pt _ _ (by first | decide | simp)) rfl (sr_map 12 (.sl 1 0 ((rsL trail (rsK secs pts right (rs0 trail dir M) 0)).length)) (by first | exact Ok.sl _ _ _ (by first | decide | simp) | exact Ok.pt _ _ (by first | decide | simp)) rfl (sr_map 11 (.pt 3 0) (by first | exact Ok.sl _ _ _ (by first | decide | simp) | exact Ok.pt _ _ (by first | decide | simp)) rfl (sr_same 10 (.v (.slice none 0 0)) rfl NoI.out (sr_same 4 (.q eB right) rfl NoI.out (sr_same 0 (.rp [.one, .q eSec secs, .one, .q ePnt pts, .one, .one, .one, .one, .one, .one]) rfl NoI.out sr_none)))))))) (keep_of rfl)
  have hrl := rsK_len (secs := secs) (pts := pts) (right := right) (rs0 trail dir M) rfl k
  have hll := rsL_len (trail := trail) (rsK secs pts right (rs0 trail dir M) k)
  have hkl := hinv.2.2.len
  have hm9 := hinv.2.1
  refine awp_seq ?_
  refine seqR ?_
  refine opG rfl (aop_move (av := .i ((rsK secs pts right (rs0 trail dir M) k).m)) (.inl rfl) rfl rfl rfl ?_)
  refine opG rfl (aop_binI (u := (.bool (decide (((rsK secs pts right (rs0 trail dir M) k).m) > 0)))) rfl rfl rfl rfl rfl trivial rfl ?_)
  refine op0 ?_
  refine awp_cond (decide (((rsK secs pts right (rs0 trail dir M) k).m) > 0)) rfl rfl (fun hc1 => ?_) (fun hc1 => ?_)
  ·skip
   have hf3 := of_decide_eq_true hc1
   refine awp_skip ?_
   refine awp_block ?_
   refine seqR ?_
   refine opG rfl (aop_move (av := .rp [.one, .q eSec secs, .one, .q ePnt pts, .one, .one, .one, .one, .one, .one]) (.inl rfl) rfl rfl rfl ?_)
   refine opG rfl (aop_ldB (cells' := [.i ((rsK secs pts right (rs0 trail dir M) k).s), .i ((rsK secs pts right (rs0 trail dir M) k).e)]) rfl rfl rfl ag51 sz51 rfl rfl rfl rfl ?_)
   refine opG rfl (aop_move (av := .q eB right) (.inl rfl) rfl rfl rfl ?_)
   refine opG rfl (call_ (g_Next secs pts right ((rsK secs pts right (rs0 trail dir M) k).s) ((rsK secs pts right (rs0 trail dir M) k).e) (by first | omega | (simp; done) | decide | (simp at *; omega)) (by first | omega | (simp; done) | decide | (simp at *; omega)) (by first | omega | (simp; done) | decide | (simp at *; omega))) rfl rfl rfl rfl rfl bd36 rfl ?_)
   refine opG rfl (aop_move (av := .tup [.agg [.i ((nextV secs pts right ((rsK secs pts right (rs0 trail dir M) k).s) ((rsK secs pts right (rs0 trail dir M) k).e)).sec), .i ((nextV secs pts right ((rsK secs pts right (rs0 trail dir M) k).s) ((rsK secs pts right (rs0 trail dir M) k).e)).en)], .b (nextB secs pts right ((rsK secs pts right (rs0 trail dir M) k).s) ((rsK secs pts right (rs0 trail dir M) k).e))]) (.inl rfl) rfl rfl rfl ?_)
   refine opG rfl (aop_extract rfl rfl rfl rfl rfl ?_)
   refine opG rfl (aop_extract rfl rfl rfl rfl rfl ?_)
   refine opG rfl (aop_alloc 55 rfl rfl rfl rfl ze51 rfl ?_)
   refine opG rfl (aop_store rfl rfl rfl sz51 rfl rfl rfl rfl rfl (Nat.le_of_ble_eq_true rfl) rfl rfl ?_)
   refine opG rfl (aop_move (av := .b (nextB secs pts right ((rsK secs pts right (rs0 trail dir M) k).s) ((rsK secs pts right (rs0 trail dir M) k).e))) (.inr rfl) rfl rfl rfl ?_)
   refine op0 ?_
   refine rs_ (upd (upd (upd (upd (upd (upd (upd (upd (upd none_ 0 (.rp [.one, .q eSec secs, .one, .q ePnt pts, .one, .one, .one, .one, .one, .one])) 4 (.q eB right)) 10 (.v (.slice none 0 0))) 11 (.pt 3 0)) 12 (.sl 1 0 ((rsL trail (rsK secs pts right (rs0 trail dir M) k)).length))) 13 (.pt 2 0)) 14 (.i ((rsK secs pts right (rs0 trail dir M) k).m))) 15 (.pt 55 0)) 16 (.b (nextB secs pts right ((rsK secs pts right (rs0 trail dir M) k).s) ((rsK secs pts right (rs0 trail dir M) k).e)))) (updO (updO (updO (updO (updO noOb 1 (.live ⟨(enc eI (rsL trail (rsK secs pts right (rs0 trail dir M) k))), 3, 1⟩)) 2 (.live ⟨[.i ((rsK secs pts right (rs0 trail dir M) k).s), .i ((rsK secs pts right (rs0 trail dir M) k).e)], 51, 1⟩)) 3 (.live ⟨[.i 0, .i 0], 51, 1⟩)) 55 (.live ⟨[.i 0, .i 0], 51, 1⟩)) 55 (.live ⟨[.i ((nextV secs pts right ((rsK secs pts right (rs0 trail dir M) k).s) ((rsK secs pts right (rs0 trail dir M) k).e)).sec), .i ((nextV secs pts right ((rsK secs pts right (rs0 trail dir M) k).s) ((rsK secs pts right (rs0 trail dir M) k).e)).en)], 51, 1⟩)) (lu rfl (lu rfl (lu rfl (lu rfl (lu rfl (lu rfl (lu rfl (lu rfl (lu rfl ln))))))))) rfl ?_
   refine awp_seq ?_
   refine seqR ?_
   refine opG rfl (aop_move (av := .b (nextB secs pts right ((rsK secs pts right (rs0 trail dir M) k).s) ((rsK secs pts right (rs0 trail dir M) k).e))) (.inl rfl) rfl rfl rfl ?_)
   refine opG rfl (aop_not rfl rfl rfl rfl ?_)
   refine opG rfl (aop_move (av := .b (!(nextB secs pts right ((rsK secs pts right (rs0 trail dir M) k).s) ((rsK secs pts right (rs0 trail dir M) k).e)))) (.inl rfl) rfl rfl rfl ?_)
   refine aops_grp 5 57 (.b ((!(nextB secs pts right ((rsK secs pts right (rs0 trail dir M) k).s) ((rsK secs pts right (rs0 trail dir M) k).e))) || (decide (((nextV secs pts right ((rsK secs pts right (rs0 trail dir M) k).s) ((rsK secs pts right (rs0 trail dir M) k).e)).sec) ∈ (rsL trail (rsK secs pts right (rs0 trail dir M) k)))))) ?_ ?_
   ·refine (Bool.eq_false_or_eq_true (!(nextB secs pts right ((rsK secs pts right (rs0 trail dir M) k).s) ((rsK secs pts right (rs0 trail dir M) k).e)))).elim (fun hg4 => ?_) (fun hg4 => ?_)
    ·skip
     have hf5 := not_t hg4
     refine opN rfl rfl rfl rfl (by show yv (.bool (!(nextB secs pts right ((rsK secs pts right (rs0 trail dir M) k).s) ((rsK secs pts right (rs0 trail dir M) k).e)))) ≠ _; rw [hg4]; intro h; cases h) rfl rfl ?_
     refine opN rfl rfl rfl rfl (by show yv (.bool (!(nextB secs pts right ((rsK secs pts right (rs0 trail dir M) k).s) ((rsK secs pts right (rs0 trail dir M) k).e)))) ≠ _; rw [hg4]; intro h; cases h) rfl rfl ?_
     refine opN rfl rfl rfl rfl (by show yv (.bool (!(nextB secs pts right ((rsK secs pts right (rs0 trail dir M) k).s) ((rsK secs pts right (rs0 trail dir M) k).e)))) ≠ _; rw [hg4]; intro h; cases h) rfl rfl ?_
     refine opN rfl rfl rfl rfl (by show yv (.bool (!(nextB secs pts right ((rsK secs pts right (rs0 trail dir M) k).s) ((rsK secs pts right (rs0 trail dir M) k).e)))) ≠ _; rw [hg4]; intro h; cases h) rfl rfl ?_
     refine opG rfl (aop_pick (b := (!(nextB secs pts right ((rsK secs pts right (rs0 trail dir M) k).s) ((rsK secs pts right (rs0 trail dir M) k).e)))) (av := .b true) rfl rfl rfl rfl ((congrArg (fun b_ => cond b_ _ _) hg4).trans rfl) ?_)
     refine op0 ?_
     exact imp_env (lee_both 57 _ _ (by rw [hg4] <;> rfl) (lee_out 56 _ rfl (lee_out 55 _ rfl (lee_out 54 _ rfl (lee_out 53 _ rfl (lee_same _))))))
    ·skip
     have hf6 := not_f hg4
     refine opY rfl rfl rfl (by show AV.v (.bool (!(nextB secs pts right ((rsK secs pts right (rs0 trail dir M) k).s) ((rsK secs pts right (rs0 trail dir M) k).e)))) = _; rw [hg4]) (aop_move (av := .sl 1 0 ((rsL trail (rsK secs pts right (rs0 trail dir M) k)).length)) (.inl rfl) rfl rfl rfl ?_)
     refine opY rfl rfl rfl (by show AV.v (.bool (!(nextB secs pts right ((rsK secs pts right (rs0 trail dir M) k).s) ((rsK secs pts right (rs0 trail dir M) k).e)))) = _; rw [hg4]) (aop_fieldAddr (av := .pt 55 0) (av' := .pt 55 0) rfl rfl rfl ft51_0 sz3 rfl rfl rfl ?_)
     refine opY rfl rfl rfl (by show AV.v (.bool (!(nextB secs pts right ((rsK secs pts right (rs0 trail dir M) k).s) ((rsK secs pts right (rs0 trail dir M) k).e)))) = _; rw [hg4]) (aop_ld (av := .i ((nextV secs pts right ((rsK secs pts right (rs0 trail dir M) k).s) ((rsK secs pts right (rs0 trail dir M) k).e)).sec)) rfl rfl rfl ag3 rfl rfl ?_)
     refine opY rfl rfl rfl (by show AV.v (.bool (!(nextB secs pts right ((rsK secs pts right (rs0 trail dir M) k).s) ((rsK secs pts right (rs0 trail dir M) k).e)))) = _; rw [hg4]) (callL_ (coI (rsL trail (rsK secs pts right (rs0 trail dir M) k)) ((nextV secs pts right ((rsK secs pts right (rs0 trail dir M) k).s) ((rsK secs pts right (rs0 trail dir M) k).e)).sec) (by first | omega | (simp; done) | decide | (simp at *; omega))) rfl rfl rfl rfl rfl bd34 (lends_cons (lend_s (id := 1) (n := (rsL trail (rsK secs pts right (rs0 trail dir M) k)).length) (o := ⟨(enc eI (rsL trail (rsK secs pts right (rs0 trail dir M) k))), 3, 1⟩) rfl (enc_len (fun _ => rfl) (by first | rfl | (simp; done)))) (lends_cons (lend_n (av := .i ((nextV secs pts right ((rsK secs pts right (rs0 trail dir M) k).s) ((rsK secs pts right (rs0 trail dir M) k).e)).sec))) lends_nil)) ?_)
     refine opG rfl (aop_pick (b := (!(nextB secs pts right ((rsK secs pts right (rs0 trail dir M) k).s) ((rsK secs pts right (rs0 trail dir M) k).e)))) (av := .b (decide (((nextV secs pts right ((rsK secs pts right (rs0 trail dir M) k).s) ((rsK secs pts right (rs0 trail dir M) k).e)).sec) ∈ (rsL trail (rsK secs pts right (rs0 trail dir M) k))))) rfl rfl rfl rfl ((congrArg (fun b_ => cond b_ _ _) hg4).trans rfl) ?_)
     refine op0 ?_
     exact imp_env (lee_both 57 _ _ (by rw [hg4] <;> rfl) (lee_out 56 _ rfl (lee_out 55 _ rfl (lee_out 54 _ rfl (lee_out 53 _ rfl (lee_same _))))))
   refine op0 ?_
   refine awp_cond ((!(nextB secs pts right ((rsK secs pts right (rs0 trail dir M) k).s) ((rsK secs pts right (rs0 trail dir M) k).e))) || (decide (((nextV secs pts right ((rsK secs pts right (rs0 trail dir M) k).s) ((rsK secs pts right (rs0 trail dir M) k).e)).sec) ∈ (rsL trail (rsK secs pts right (rs0 trail dir M) k))))) rfl rfl (fun hc2 => ?_) (fun hc2 => ?_)
   ·skip
    have hst : rsStop secs pts right trail (rsK secs pts right (rs0 trail dir M) k) = true := by simp only [Bool.or_eq_true, Bool.not_eq_true', decide_eq_true_eq] at hc2; rcases hc2 with h | h; exact rs_b h; exact (mem_rsL.1 h).elim rs_t rs_a
    refine awp_exit ?_
    refine awp_seq ?_
    refine awp_draw (m := 3) [(10, .sl 1 0 ((rsL trail (rsK secs pts right (rs0 trail dir M) k)).length)), (76, .agg [.i ((rsK secs pts right (rs0 trail dir M) k).s), .i ((rsK secs pts right (rs0 trail dir M) k).e)]), (75, .sl 1 0 ((rsL trail (rsK secs pts right (rs0 trail dir M) k)).length))] mixed (by kernel_rfl) ?_ ?_
    ·refine ⟨?_, ?_, ?_, trivial⟩
     ·exact ⟨75, rfl, blt_lt rfl, fun st hob hE => aop_move (av := .sl 1 0 ((rsL trail (rsK secs pts right (rs0 trail dir M) k)).length)) (.inl rfl) rfl rfl (hE 12 rfl) (by rw [hob]; rfl)⟩
     ·exact ⟨76, rfl, blt_lt rfl, fun st hob hE => aop_ldB (cells' := [.i ((rsK secs pts right (rs0 trail dir M) k).s), .i ((rsK secs pts right (rs0 trail dir M) k).e)]) rfl rfl rfl ag51 sz51 (hE 13 rfl) (by rw [hob]; rfl) rfl rfl (by rw [hob]; rfl)⟩
     ·exact ⟨10, rfl, blt_lt rfl, fun st hob hE => aop_move (av := .sl 1 0 ((rsL trail (rsK secs pts right (rs0 trail dir M) k)).length)) (.inr rfl) rfl rfl (hE 75 rfl) (by rw [hob]; rfl)⟩
    refine opG rfl (aop_store rfl rfl rfl sz51 rfl rfl rfl rfl rfl (Nat.le_of_ble_eq_true rfl) rfl rfl ?_)
    refine op0 ?_
    refine rs_ (upd (upd none_ 10 (.sl 1 0 ((rsL trail (rsK secs pts right (rs0 trail dir M) k)).length))) 11 (.pt 3 0)) (updO (updO (updO (updO (updO (updO noOb 1 (.live ⟨(enc eI (rsL trail (rsK secs pts right (rs0 trail dir M) k))), 3, 1⟩)) 2 (.live ⟨[.i ((rsK secs pts right (rs0 trail dir M) k).s), .i ((rsK secs pts right (rs0 trail dir M) k).e)], 51, 1⟩)) 3 (.live ⟨[.i 0, .i 0], 51, 1⟩)) 55 (.live ⟨[.i 0, .i 0], 51, 1⟩)) 55 (.live ⟨[.i ((nextV secs pts right ((rsK secs pts right (rs0 trail dir M) k).s) ((rsK secs pts right (rs0 trail dir M) k).e)).sec), .i ((nextV secs pts right ((rsK secs pts right (rs0 trail dir M) k).s) ((rsK secs pts right (rs0 trail dir M) k).e)).en)], 51, 1⟩)) 3 (.live ⟨[.i ((rsK secs pts right (rs0 trail dir M) k).s), .i ((rsK secs pts right (rs0 trail dir M) k).e)], 51, 1⟩)) (lu rfl (lu rfl ln)) rfl ?_
    refine awp_imp _ ((frz_ [3] [(3, ⟨[.i ((rsK secs pts right (rs0 trail dir M) k).s), .i ((rsK secs pts right (rs0 trail dir M) k).e)], 51, 1⟩)] rfl (fun _ h => h) ⟨keep_cells (cs := [.i ((rsK secs pts right (rs0 trail dir M) k).s), .i ((rsK secs pts right (rs0 trail dir M) k).e)]) (by simp) rfl rfl (frzs_cons (.inl rfl) (frzs_cons (.inl rfl) frzs_nil)), trivial⟩ (fz_same 11 (.pt 3 0) rfl (fz_lend 10 (.q eI (rsL trail (rsK secs pts right (rs0 trail dir M) k))) (lend_s (id := 1) (n := (rsL trail (rsK secs pts right (rs0 trail dir M) k)).length) (o := ⟨(enc eI (rsL trail (rsK secs pts right (rs0 trail dir M) k))), 3, 1⟩) rfl (enc_len (fun _ => rfl) (by first | rfl | (simp; done)))) fz_none)))) ?_
    refine awp_ret ?_
    exact fretC3 (p := 11) (q := 10) rfl rfl ag51 sz51 rfl rfl (Nat.le_of_ble_eq_true rfl) rfl rfl rfl (by rw [(reach_some (secs := secs) (pts := pts) (right := right) (dir := dir) (m := M) h0t).1, (reach_some (secs := secs) (pts := pts) (right := right) (dir := dir) (m := M) h0t).2.1, (reach_some (secs := secs) (pts := pts) (right := right) (dir := dir) (m := M) h0t).2.2, ← rs_done hinv.1 hst] <;> rfl)
   ·skip
    obtain ⟨hf7a, hf7b⟩ := or_f hc2
    have hf8 := not_f hf7a
    have hq2 : nextB secs pts right (rsK secs pts right (rs0 trail dir M) k).s (rsK secs pts right (rs0 trail dir M) k).e = true ∧ ¬ (nextV secs pts right (rsK secs pts right (rs0 trail dir M) k).s (rsK secs pts right (rs0 trail dir M) k).e).sec ∈ rsL trail (rsK secs pts right (rs0 trail dir M) k) := by simpa using hc2
    have hns : rsStop secs pts right trail (rsK secs pts right (rs0 trail dir M) k) = false := rs_no (by omega) hq2.1 (fun h => hq2.2 (mem_rsL.2 (.inl h))) (fun h => hq2.2 (mem_rsL.2 (.inr h)))
    have hnx := nextV_in hq2.1
    have hlx := lenI_in hlen hnx.1
    have hk9 : (k : Int) < M := by omega
    refine awp_skip ?_
    refine seqR ?_
    refine opG rfl (aop_move (av := .sl 1 0 ((rsL trail (rsK secs pts right (rs0 trail dir M) k)).length)) (.inl rfl) rfl rfl rfl ?_)
    refine opG rfl (aop_fieldAddr (av := .pt 55 0) (av' := .pt 55 0) rfl rfl rfl ft51_0 sz3 rfl rfl rfl ?_)
    refine opG rfl (aop_ld (av := .i ((nextV secs pts right ((rsK secs pts right (rs0 trail dir M) k).s) ((rsK secs pts right (rs0 trail dir M) k).e)).sec)) rfl rfl rfl ag3 rfl rfl ?_)
    refine opG rfl (aop_litO 56 rfl rfl rfl ut38 iz3 (by decide) (by decide) rfl rfl rfl rfl ?_)
    refine opG rfl (callG_ false [1, 56] [57] (insI (rsL trail (rsK secs pts right (rs0 trail dir M) k)) ((nextV secs pts right ((rsK secs pts right (rs0 trail dir M) k).s) ((rsK secs pts right (rs0 trail dir M) k).e)).sec) (by first | omega | (simp; done) | decide | (simp at *; omega)) (by first | omega | (simp; done) | decide | (simp at *; omega))) rfl rfl rfl rfl rfl bd37 (by decide) ⟨giv_no (o := ⟨(enc eI (rsL trail (rsK secs pts right (rs0 trail dir M) k))), 3, 1⟩) rfl rfl, giv_no (o := ⟨[.i ((nextV secs pts right ((rsK secs pts right (rs0 trail dir M) k).s) ((rsK secs pts right (rs0 trail dir M) k).e)).sec)], 3, 1⟩) rfl rfl, trivial⟩ ⟨(arg_own (.sl _ _ _ (by simp)) rfl), (arg_no (a := .i 0)), (arg_own (.sl _ _ _ (by simp)) rfl), trivial⟩ rfl ⟨rfl, trivial⟩ (fun h => by cases h) rfl (place_cons rfl (place_cons rfl (place_cons (ost_no (cs := (enc eI (((nextV secs pts right ((rsK secs pts right (rs0 trail dir M) k).s) ((rsK secs pts right (rs0 trail dir M) k).e)).sec) :: (rsL trail (rsK secs pts right (rs0 trail dir M) k)))))) place_nil))) ?_)
    refine opG rfl (aop_move (av := .sl 57 0 ((((nextV secs pts right ((rsK secs pts right (rs0 trail dir M) k).s) ((rsK secs pts right (rs0 trail dir M) k).e)).sec) :: (rsL trail (rsK secs pts right (rs0 trail dir M) k))).length)) (.inr rfl) rfl rfl rfl ?_)
    refine op0 ?_
    refine rs_ (upd (upd (upd (upd (upd (upd (upd (upd (upd none_ 0 (.rp [.one, .q eSec secs, .one, .q ePnt pts, .one, .one, .one, .one, .one, .one])) 4 (.q eB right)) 10 (.v (.slice none 0 0))) 11 (.pt 3 0)) 12 (.sl 57 0 ((((nextV secs pts right ((rsK secs pts right (rs0 trail dir M) k).s) ((rsK secs pts right (rs0 trail dir M) k).e)).sec) :: (rsL trail (rsK secs pts right (rs0 trail dir M) k))).length))) 13 (.pt 2 0)) 14 (.i ((rsK secs pts right (rs0 trail dir M) k).m))) 15 (.pt 55 0)) 16 (.b (nextB secs pts right ((rsK secs pts right (rs0 trail dir M) k).s) ((rsK secs pts right (rs0 trail dir M) k).e)))) (updO (updO (updO (updO (updO (updO (updO (updO (updO noOb 1 (.live ⟨(enc eI (rsL trail (rsK secs pts right (rs0 trail dir M) k))), 3, 1⟩)) 2 (.live ⟨[.i ((rsK secs pts right (rs0 trail dir M) k).s), .i ((rsK secs pts right (rs0 trail dir M) k).e)], 51, 1⟩)) 3 (.live ⟨[.i 0, .i 0], 51, 1⟩)) 55 (.live ⟨[.i 0, .i 0], 51, 1⟩)) 55 (.live ⟨[.i ((nextV secs pts right ((rsK secs pts right (rs0 trail dir M) k).s) ((rsK secs pts right (rs0 trail dir M) k).e)).sec), .i ((nextV secs pts right ((rsK secs pts right (rs0 trail dir M) k).s) ((rsK secs pts right (rs0 trail dir M) k).e)).en)], 51, 1⟩)) 56 (.live ⟨[.i ((nextV secs pts right ((rsK secs pts right (rs0 trail dir M) k).s) ((rsK secs pts right (rs0 trail dir M) k).e)).sec)], 3, 1⟩)) 1 .dead) 56 .dead) 57 (.live ⟨(enc eI (((nextV secs pts right ((rsK secs pts right (rs0 trail dir M) k).s) ((rsK secs pts right (rs0 trail dir M) k).e)).sec) :: (rsL trail (rsK secs pts right (rs0 trail dir M) k)))), 3, 1⟩)) (lu rfl (lu rfl (lu rfl (lu rfl (lu rfl (lu rfl (lu rfl (lu rfl (lu rfl ln))))))))) rfl ?_
    refine seqR ?_
    refine opG rfl (aop_fieldAddr (av := .pt 55 0) (av' := .pt 55 0) rfl rfl rfl ft51_0 sz3 rfl rfl rfl ?_)
    refine opG rfl (aop_ld (av := .i ((nextV secs pts right ((rsK secs pts right (rs0 trail dir M) k).s) ((rsK secs pts right (rs0 trail dir M) k).e)).sec)) rfl rfl rfl ag3 rfl rfl ?_)
    refine opG rfl (aop_fieldAddr (av := .pt 55 0) (av' := .pt 55 1) rfl rfl rfl ft51_1 sz3 rfl rfl rfl ?_)
    refine opG rfl (aop_ld (av := .i ((nextV secs pts right ((rsK secs pts right (rs0 trail dir M) k).s) ((rsK secs pts right (rs0 trail dir M) k).e)).en)) rfl rfl rfl ag3 rfl rfl ?_)
    refine opG rfl (aop_binI (u := (.int .i64 (1 - ((nextV secs pts right ((rsK secs pts right (rs0 trail dir M) k).s) ((rsK secs pts right (rs0 trail dir M) k).e)).en)))) rfl rfl rfl rfl rfl trivial (subI (by omega)) ?_)
    refine opG rfl (aop_build rfl rfl rfl pl51 rfl ?_)
    refine opG rfl (aop_store rfl rfl rfl sz51 rfl rfl rfl rfl rfl (Nat.le_of_ble_eq_true rfl) rfl rfl ?_)
    refine op0 ?_
    refine rs_ (upd (upd (upd (upd (upd (upd (upd (upd (upd none_ 0 (.rp [.one, .q eSec secs, .one, .q ePnt pts, .one, .one, .one, .one, .one, .one])) 4 (.q eB right)) 10 (.v (.slice none 0 0))) 11 (.pt 3 0)) 12 (.sl 57 0 ((((nextV secs pts right ((rsK secs pts right (rs0 trail dir M) k).s) ((rsK secs pts right (rs0 trail dir M) k).e)).sec) :: (rsL trail (rsK secs pts right (rs0 trail dir M) k))).length))) 13 (.pt 2 0)) 14 (.i ((rsK secs pts right (rs0 trail dir M) k).m))) 15 (.pt 55 0)) 16 (.b (nextB secs pts right ((rsK secs pts right (rs0 trail dir M) k).s) ((rsK secs pts right (rs0 trail dir M) k).e)))) (updO (updO (updO (updO (updO (updO (updO (updO (updO (updO noOb 1 (.live ⟨(enc eI (rsL trail (rsK secs pts right (rs0 trail dir M) k))), 3, 1⟩)) 2 (.live ⟨[.i ((rsK secs pts right (rs0 trail dir M) k).s), .i ((rsK secs pts right (rs0 trail dir M) k).e)], 51, 1⟩)) 3 (.live ⟨[.i 0, .i 0], 51, 1⟩)) 55 (.live ⟨[.i 0, .i 0], 51, 1⟩)) 55 (.live ⟨[.i ((nextV secs pts right ((rsK secs pts right (rs0 trail dir M) k).s) ((rsK secs pts right (rs0 trail dir M) k).e)).sec), .i ((nextV secs pts right ((rsK secs pts right (rs0 trail dir M) k).s) ((rsK secs pts right (rs0 trail dir M) k).e)).en)], 51, 1⟩)) 56 (.live ⟨[.i ((nextV secs pts right ((rsK secs pts right (rs0 trail dir M) k).s) ((rsK secs pts right (rs0 trail dir M) k).e)).sec)], 3, 1⟩)) 1 .dead) 56 .dead) 57 (.live ⟨(enc eI (((nextV secs pts right ((rsK secs pts right (rs0 trail dir M) k).s) ((rsK secs pts right (rs0 trail dir M) k).e)).sec) :: (rsL trail (rsK secs pts right (rs0 trail dir M) k)))), 3, 1⟩)) 2 (.live ⟨[.i ((nextV secs pts right ((rsK secs pts right (rs0 trail dir M) k).s) ((rsK secs pts right (rs0 trail dir M) k).e)).sec), .i (1 - ((nextV secs pts right ((rsK secs pts right (rs0 trail dir M) k).s) ((rsK secs pts right (rs0 trail dir M) k).e)).en))], 51, 1⟩)) (lu rfl (lu rfl (lu rfl (lu rfl (lu rfl (lu rfl (lu rfl (lu rfl (lu rfl ln))))))))) rfl ?_
    refine regR ?_
    refine opG rfl (aop_move (av := .i ((rsK secs pts right (rs0 trail dir M) k).m)) (.inl rfl) rfl rfl rfl ?_)
    refine opG rfl (aop_move (av := .rp [.one, .q eSec secs, .one, .q ePnt pts, .one, .one, .one, .one, .one, .one]) (.inl rfl) rfl rfl rfl ?_)
    refine opG rfl (aop_fieldAddr (av := .pt 55 0) (av' := .pt 55 0) rfl rfl rfl ft51_0 sz3 rfl rfl rfl ?_)
    refine opG rfl (aop_ld (av := .i ((nextV secs pts right ((rsK secs pts right (rs0 trail dir M) k).s) ((rsK secs pts right (rs0 trail dir M) k).e)).sec)) rfl rfl rfl ag3 rfl rfl ?_)
    refine opG rfl (callW_ (g_Len secs ((nextV secs pts right ((rsK secs pts right (rs0 trail dir M) k).s) ((rsK secs pts right (rs0 trail dir M) k).e)).sec) (by first | omega | (simp; done) | decide | (simp at *; omega))) rfl rfl rfl rfl rfl bd38 (lends_cons (lend_rpw (lends_cons (lend_n (av := .one)) (lends_cons (lend_n (av := .q eSec secs)) (lends_cons (lend_n (av := .one)) (lends_cons (.one _ rfl) (lends_cons (lend_n (av := .one)) (lends_cons (lend_n (av := .one)) (lends_cons (lend_n (av := .one)) (lends_cons (lend_n (av := .one)) (lends_cons (lend_n (av := .one)) (lends_cons (lend_n (av := .one)) lends_nil))))))))))) (lends_cons (lend_n (av := .i ((nextV secs pts right ((rsK secs pts right (rs0 trail dir M) k).s) ((rsK secs pts right (rs0 trail dir M) k).e)).sec))) lends_nil)) ?_)
    refine opG rfl (aop_binI (u := (.int .i64 (((rsK secs pts right (rs0 trail dir M) k).m) - (lenI secs ((nextV secs pts right ((rsK secs pts right (rs0 trail dir M) k).s) ((rsK secs pts right (rs0 trail dir M) k).e)).sec))))) rfl rfl rfl rfl rfl trivial (subI (by omega)) ?_)
    refine opG rfl (aop_move (av := .i (((rsK secs pts right (rs0 trail dir M) k).m) - (lenI secs ((nextV secs pts right ((rsK secs pts right (rs0 trail dir M) k).s) ((rsK secs pts right (rs0 trail dir M) k).e)).sec)))) (.inr rfl) rfl rfl rfl ?_)
    refine op0 ?_
    show _ ∧ _
    have hs_ := rsL_next (secs := secs) (pts := pts) (right := right) (trail := trail) (rsK secs pts right (rs0 trail dir M) k)
    refine ⟨by omega, ⟨rs_go hinv.1 hns (by omega), by show (rsK secs pts right (rs0 trail dir M) k).m - lenI secs (nextV secs pts right (rsK secs pts right (rs0 trail dir M) k).s (rsK secs pts right (rs0 trail dir M) k).e).sec ≤ _; omega, rsOkN hinv.2.2 hns⟩, ?_⟩
    exact imp_ler [(57, 1), (2, 2), (3, 3)] (lerL [(57, 1), (2, 2), (3, 3)] [((57, 1), .live ⟨(enc eI (rsL trail (rsK secs pts right (rs0 trail dir M) (k + 1)))), 3, 1⟩), ((2, 2), .live ⟨[.i ((rsK secs pts right (rs0 trail dir M) (k + 1)).s), .i ((rsK secs pts right (rs0 trail dir M) (k + 1)).e)], 51, 1⟩), ((3, 3), .live ⟨[.i 0, .i 0], 51, 1⟩)] rfl (by decide) (by decide) ⟨row_no (o := ⟨(enc eI (((nextV secs pts right ((rsK secs pts right (rs0 trail dir M) k).s) ((rsK secs pts right (rs0 trail dir M) k).e)).sec) :: (rsL trail (rsK secs pts right (rs0 trail dir M) k)))), 3, 1⟩) rfl (by exact congrArg (fun l_ => LObj.mk (enc eI l_) 3 1) hs_), row_no (o := ⟨[.i ((nextV secs pts right ((rsK secs pts right (rs0 trail dir M) k).s) ((rsK secs pts right (rs0 trail dir M) k).e)).sec), .i (1 - ((nextV secs pts right ((rsK secs pts right (rs0 trail dir M) k).s) ((rsK secs pts right (rs0 trail dir M) k).e)).en))], 51, 1⟩) rfl rfl, row_no (o := ⟨[.i 0, .i 0], 51, 1⟩) rfl rfl, trivial⟩ (sr_same 14 (.i ((rsK secs pts right (rs0 trail dir M) (k + 1)).m)) rfl NoI.out (sr_map 13 (.pt 2 0) (by first | exact Ok.sl _ _ _ (by first | decide | simp) | exact Ok.pt _ _ (by first | decide | simp)) rfl (sr_map 12 (.sl 1 0 ((rsL trail (rsK secs pts right (rs0 trail dir M) (k + 1))).length)) (by first | exact Ok.sl _ _ _ (by first | decide | simp) | exact Ok.pt _ _ (by first | decide | simp)) (by exact congrArg (AV.sl 1 0) (congrArg List.length hs_.symm)) (sr_map 11 (.pt 3 0) (by first | exact Ok.sl _ _ _ (by first | decide | simp) | exact Ok.pt _ _ (by first | decide | simp)) rfl (sr_same 10 (.v (.slice none 0 0)) rfl NoI.out (sr_same 4 (.q eB right) rfl NoI.out (sr_same 0 (.rp [.one, .q eSec secs, .one, .q ePnt pts, .one, .one, .one, .one, .one, .one]) rfl NoI.out sr_none)))))))) (keep_of rfl)
  ·skip
   have hf9 := of_decide_eq_false hc1
   have hst : rsStop secs pts right trail (rsK secs pts right (rs0 trail dir M) k) = true := rs_m (by omega)
   refine awp_exit ?_
   refine awp_seq ?_
   refine awp_draw (m := 3) [(10, .sl 1 0 ((rsL trail (rsK secs pts right (rs0 trail dir M) k)).length)), (76, .agg [.i ((rsK secs pts right (rs0 trail dir M) k).s), .i ((rsK secs pts right (rs0 trail dir M) k).e)]), (75, .sl 1 0 ((rsL trail (rsK secs pts right (rs0 trail dir M) k)).length))] mixed (by kernel_rfl) ?_ ?_
   ·refine ⟨?_, ?_, ?_, trivial⟩
    ·exact ⟨75, rfl, blt_lt rfl, fun st hob hE => aop_move (av := .sl 1 0 ((rsL trail (rsK secs pts right (rs0 trail dir M) k)).length)) (.inl rfl) rfl rfl (hE 12 rfl) (by rw [hob]; rfl)⟩
    ·exact ⟨76, rfl, blt_lt rfl, fun st hob hE => aop_ldB (cells' := [.i ((rsK secs pts right (rs0 trail dir M) k).s), .i ((rsK secs pts right (rs0 trail dir M) k).e)]) rfl rfl rfl ag51 sz51 (hE 13 rfl) (by rw [hob]; rfl) rfl rfl (by rw [hob]; rfl)⟩
    ·exact ⟨10, rfl, blt_lt rfl, fun st hob hE => aop_move (av := .sl 1 0 ((rsL trail (rsK secs pts right (rs0 trail dir M) k)).length)) (.inr rfl) rfl rfl (hE 75 rfl) (by rw [hob]; rfl)⟩
   refine opG rfl (aop_store rfl rfl rfl sz51 rfl rfl rfl rfl rfl (Nat.le_of_ble_eq_true rfl) rfl rfl ?_)
   refine op0 ?_
   refine awp_imp _ ((frz_ [3] [(3, ⟨[.i ((rsK secs pts right (rs0 trail dir M) k).s), .i ((rsK secs pts right (rs0 trail dir M) k).e)], 51, 1⟩)] rfl (fun _ h => h) ⟨keep_cells (cs := [.i ((rsK secs pts right (rs0 trail dir M) k).s), .i ((rsK secs pts right (rs0 trail dir M) k).e)]) (by simp) rfl rfl (frzs_cons (.inl rfl) (frzs_cons (.inl rfl) frzs_nil)), trivial⟩ (fz_same 11 (.pt 3 0) rfl (fz_lend 10 (.q eI (rsL trail (rsK secs pts right (rs0 trail dir M) k))) (lend_s (id := 1) (n := (rsL trail (rsK secs pts right (rs0 trail dir M) k)).length) (o := ⟨(enc eI (rsL trail (rsK secs pts right (rs0 trail dir M) k))), 3, 1⟩) rfl (enc_len (fun _ => rfl) (by first | rfl | (simp; done)))) fz_none)))) ?_
   refine awp_ret ?_
   exact fretC3 (p := 11) (q := 10) rfl rfl ag51 sz51 rfl rfl (Nat.le_of_ble_eq_true rfl) rfl rfl rfl (by rw [(reach_some (secs := secs) (pts := pts) (right := right) (dir := dir) (m := M) h0t).1, (reach_some (secs := secs) (pts := pts) (right := right) (dir := dir) (m := M) h0t).2.1, (reach_some (secs := secs) (pts := pts) (right := right) (dir := dir) (m := M) h0t).2.2, ← rs_done hinv.1 hst] <;> rfl)
theorem c_Span (secs : List Sec) (pts : List Pnt) (right : List Bool) (trail : List Int) (now heard speed dir ahd : Int) (hs : secs.length ≤ 65536) (hp : pts.length ≤ 65536) (hr : right.length ≤ 4294967296) (ht : trail.length ≤ 1024) (hlen : ∀ x, x ∈ secs → 1 ≤ x.len ∧ x.len ≤ 65536) (hq : 0 ≤ now - heard ∧ now - heard ≤ 1000000) (hsp : 0 ≤ speed ∧ speed ≤ 1000000) (ha : 0 ≤ ahd ∧ ahd ≤ 1000000) (hn : 0 ≤ now ∧ now ≤ 1000000000) : Fn Try.prog 13 [.rp [.one, .ro secs.length (enc eSec secs), .one, .ro pts.length (enc ePnt pts), .one, .one, .one, .one, .one, .one], .agg [.one, .v (.int .i64 heard), .one, .v (.int .i64 dir), .v (.int .i64 ahd), .ro trail.length (enc eI trail)], .v (.int .i64 now), .v (.int .i64 speed), .ro right.length (enc eB right)] (.ro ((spanF secs pts right trail dir ((now - heard) * speed - ahd)).length) (enc eI (spanF secs pts right trail dir ((now - heard) * speed - ahd)))) := by
 refine fnE_of_body (N := 23) Try.func13 rfl rfl (resOf1 rfl) (by simp) (fun w0 X hL_ => ?_)
 refine seqR ?_
 refine opG rfl (aop_box 51 rfl rfl rfl rfl rfl rfl rfl ?_)
 refine opG rfl (aop_move (av := .v (.slice none 0 0)) (.inr rfl) rfl rfl rfl ?_)
 refine op0 ?_
 refine seqR ?_
 refine opG rfl (aop_move (av := .rp [.one, .q eSec secs, .one, .q ePnt pts, .one, .one, .one, .one, .one, .one]) (.inl rfl) rfl rfl rfl ?_)
 refine opG rfl (aop_ldB (cells' := [.one, .i heard, .one, .i dir, .i ahd, .q eI trail]) rfl rfl rfl ag40 sz40 rfl rfl rfl rfl ?_)
 refine opG rfl (aop_move (av := .i now) (.inl rfl) rfl rfl rfl ?_)
 refine opG rfl (aop_move (av := .i speed) (.inl rfl) rfl rfl rfl ?_)
 refine opG rfl (aop_move (av := .q eB right) (.inl rfl) rfl rfl rfl ?_)
 refine opG rfl (call_ (c_reach secs pts right trail now heard speed dir ahd (by first | omega | (simp; done) | decide | (simp at *; omega)) (by first | omega | (simp; done) | decide | (simp at *; omega)) (by first | omega | (simp; done) | decide | (simp at *; omega)) (by first | omega | (simp; done) | decide | (simp at *; omega)) (by first | omega | (simp; done) | decide | (simp at *; omega)) (by first | omega | (simp; done) | decide | (simp at *; omega)) (by first | omega | (simp; done) | decide | (simp at *; omega)) (by first | omega | (simp; done) | decide | (simp at *; omega)) (by first | omega | (simp; done) | decide | (simp at *; omega))) rfl rfl rfl rfl rfl bd28 rfl ?_)
 refine opG rfl (aop_move (av := .tup [.q eI (spanF secs pts right trail dir ((now - heard) * speed - ahd)), .agg [.i (frontS secs pts right trail dir ((now - heard) * speed - ahd)), .i (frontE secs pts right trail dir ((now - heard) * speed - ahd))]]) (.inl rfl) rfl rfl rfl ?_)
 refine opG rfl (aop_extract rfl rfl rfl rfl rfl ?_)
 refine opG rfl (aop_extract rfl rfl rfl rfl rfl ?_)
 refine opG rfl (aop_alloc 52 rfl rfl rfl rfl ze51 rfl ?_)
 refine opG rfl (aop_move (av := .q eI (spanF secs pts right trail dir ((now - heard) * speed - ahd))) (.inr rfl) rfl rfl rfl ?_)
 refine opG rfl (aop_store rfl rfl rfl sz51 rfl rfl rfl rfl rfl (Nat.le_of_ble_eq_true rfl) rfl rfl ?_)
 refine op0 ?_
 refine rs_ (upd (upd none_ 10 (.v (.slice none 0 0))) 11 (.q eI (spanF secs pts right trail dir ((now - heard) * speed - ahd)))) (updO (updO (updO noOb 51 (.live ⟨[.one, .i heard, .one, .i dir, .i ahd, .q eI trail], 40, 1⟩)) 52 (.live ⟨[.i 0, .i 0], 51, 1⟩)) 52 (.live ⟨[.i (frontS secs pts right trail dir ((now - heard) * speed - ahd)), .i (frontE secs pts right trail dir ((now - heard) * speed - ahd))], 51, 1⟩)) (lu rfl (lu rfl ln)) rfl ?_
 refine seqR ?_
 refine opG rfl (aop_move (av := .q eI (spanF secs pts right trail dir ((now - heard) * speed - ahd))) (.inl rfl) rfl rfl rfl ?_)
 refine opG rfl (aop_move (av := .q eI (spanF secs pts right trail dir ((now - heard) * speed - ahd))) (.inr rfl) rfl rfl rfl ?_)
 refine op0 ?_
 refine awp_ret ?_
 exact fret (av := .ro ((spanF secs pts right trail dir ((now - heard) * speed - ahd)).length) (enc eI (spanF secs pts right trail dir ((now - heard) * speed - ahd)))) rfl rfl rfl
end Go.Lo
