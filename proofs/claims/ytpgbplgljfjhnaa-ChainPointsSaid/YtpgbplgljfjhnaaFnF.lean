/- Walks of Go functions in the logic of values. -/
import Derived.Test.YtpgbplgljfjhnaaFnFTy
import Derived.Test.YtpgbplgljfjhnaaDef
import Derived.Test.YtpgbplgljfjhnaaLay
import Derived.Test.YtpgbplgljfjhnaaFnA
import Derived.Test.YtpgbplgljfjhnaaFnC
import Derived.Test.YtpgbplgljfjhnaaFnM
set_option linter.unusedVariables false
set_option linter.unusedSimpArgs false
set_option maxRecDepth 10000
set_option maxHeartbeats 16000000
namespace Go.Lo
open Go.Proofs
theorem r04_Small (rs : List (List Int)) (hn : rs.length ≤ 9223372036854775807) : Fn Try.prog 25 [.agg [.one, .one, .one, .one, .one, .one, .one, .one, .ro rs.length (enc eUL rs)]] (.v (.bool (smallB rs))) := by
 refine fnE_of_body (N := 22) Try.func25 rfl rfl (resOf1 rfl) (by simp) (fun w0 X hL_ => ?_)
 refine seqR ?_
 refine opG rfl (aop_box 51 rfl rfl rfl rfl rfl rfl rfl ?_)
 refine opG rfl (aop_move (av := .b false) (.inr rfl) rfl rfl rfl ?_)
 refine op0 ?_
 refine awp_seq ?_
 refine seqR ?_
 refine opG rfl (aop_move (av := .i 0) (.inr rfl) rfl rfl rfl ?_)
 refine op0 ?_
 refine awp_block ?_
 refine awp_countI (fun k => ⟨(upd (upd (upd none_ 1 (.pt 1 0)) 2 (.b false)) 3 (.i (k : Int))), (updO noOb 1 (.live ⟨[.one, .one, .one, .one, .one, .one, .one, .one, .q eUL rs], 25, 1⟩))⟩) (fun k => (rs.take k).any (fun x => decide (x.length > 10)) = false) (rs.length) ?_ (by simp) (fun k hk_k hinv => ?_)
 ·skip
  exact imp_ler [(51, 1)] (lerI 51 1 (o := ⟨[.one, .one, .one, .one, .one, .one, .one, .one, .q eUL rs], 25, 1⟩) rfl rfl (sS rfl (sS rfl (sM rfl sr_none)))) (keep_of rfl)
 refine awp_seq ?_
 refine seqR ?_
 refine opG rfl (aop_move (av := .i (k : Int)) (.inl rfl) rfl rfl rfl ?_)
 refine opG rfl (aop_fieldAddr (av := .pt 1 0) (av' := .pt 1 8) rfl rfl rfl ft25_8 sz23 rfl rfl rfl ?_)
 refine opG rfl (aop_ld (av := .q eUL rs) rfl rfl rfl ag23 rfl rfl ?_)
 refine opG rfl (aop_len rfl rfl rfl rfl ut23 (len_ro rfl) ?_)
 refine opG rfl (aop_binI (u := (.bool (decide ((k : Int) < (rs.length : Int))))) rfl rfl rfl rfl rfl trivial rfl ?_)
 refine op0 ?_
 refine rs_ (upd (upd (upd (upd none_ 1 (.pt 1 0)) 2 (.b false)) 3 (.i (k : Int))) 8 (.b (decide ((k : Int) < (rs.length : Int))))) (updO noOb 1 (.live ⟨[.one, .one, .one, .one, .one, .one, .one, .one, .q eUL rs], 25, 1⟩)) (lu rfl (lu rfl (lu rfl (lu rfl ln)))) rfl ?_
 refine awp_cond (decide ((k : Int) < (rs.length : Int))) rfl rfl (fun hc0 => ?_) (fun hc0 => ?_)
 ·skip
  have hf1 := of_decide_eq_true hc0
  refine awp_skip ?_
  refine awp_seq ?_
  refine awp_block ?_
  refine seqR ?_
  refine opG rfl (aop_fieldAddr (av := .pt 1 0) (av' := .pt 1 8) rfl rfl rfl ft25_8 sz23 rfl rfl rfl ?_)
  refine opG rfl (aop_ld (av := .q eUL rs) rfl rfl rfl ag23 rfl rfl ?_)
  refine opG rfl (aop_move (av := .i (k : Int)) (.inl rfl) rfl rfl rfl ?_)
  refine opG rfl (aop_ixE [] rfl rfl rfl ut23 sz26 rfl rfl (fun _ => rfl) rfl (by first | omega | (simp; done) | decide | (simp at *; omega)) ?_)
  refine opG rfl (aop_ld (av := .q eU8 (rs.getD k [])) rfl rfl rfl ag26 rfl rfl ?_)
  refine opG rfl (aop_len rfl rfl rfl rfl ut26 (len_ro rfl) ?_)
  refine opG rfl (aop_binI (u := (.bool (decide (((rs.getD k []).length : Int) > 10)))) rfl rfl rfl rfl rfl trivial rfl ?_)
  refine op0 ?_
  refine rs_ (upd (upd (upd (upd none_ 1 (.pt 1 0)) 2 (.b false)) 3 (.i (k : Int))) 17 (.b (decide (((rs.getD k []).length : Int) > 10)))) (updO noOb 1 (.live ⟨[.one, .one, .one, .one, .one, .one, .one, .one, .q eUL rs], 25, 1⟩)) (lu rfl (lu rfl (lu rfl (lu rfl ln)))) rfl ?_
  refine awp_cond (decide (((rs.getD k []).length : Int) > 10)) rfl rfl (fun hc1 => ?_) (fun hc1 => ?_)
  ·skip
   have hf2 := of_decide_eq_true hc1
   refine seqR ?_
   refine opG rfl (aop_move (av := .b false) (.inr rfl) rfl rfl rfl ?_)
   refine op0 ?_
   refine awp_ret ?_
   exact fret (av := .v (.bool false)) rfl rfl (by rw [smallB_big (k := k) (by omega) (by simp at hc1 ⊢; omega)])
  ·skip
   have hf3 := of_decide_eq_false hc1
   refine awp_skip ?_
   refine regR ?_
   refine opG rfl (aop_move (av := .i (k : Int)) (.inl rfl) rfl rfl rfl ?_)
   refine opG rfl (aop_binI (u := (.int .i64 ((k + 1 : Nat) : Int))) rfl rfl rfl rfl rfl trivial (addN (by omega)) ?_)
   refine opG rfl (aop_move (av := .i ((k + 1 : Nat) : Int)) (.inr rfl) rfl rfl rfl ?_)
   refine op0 ?_
   show _ ∧ _
   refine ⟨by omega, (any_step [] (by omega) hinv (by simp at hc1 ⊢; omega)), ?_⟩
   exact imp_ler [(1, 1)] (lerI 1 1 rfl rfl (sS rfl (sS rfl (sM rfl sr_none)))) (keep_of rfl)
 ·skip
  have hf4 := of_decide_eq_false hc0
  refine awp_exit ?_
  refine seqR ?_
  refine opG rfl (aop_fieldAddr (av := .pt 1 0) (av' := .pt 1 8) rfl rfl rfl ft25_8 sz23 rfl rfl rfl ?_)
  refine opG rfl (aop_ld (av := .q eUL rs) rfl rfl rfl ag23 rfl rfl ?_)
  refine opG rfl (aop_len rfl rfl rfl rfl ut23 (len_ro rfl) ?_)
  refine opG rfl (aop_binI (u := (.bool (decide ((rs.length : Int) ≤ 20)))) rfl rfl rfl rfl rfl trivial rfl ?_)
  refine opG rfl (aop_move (av := .b (decide ((rs.length : Int) ≤ 20))) (.inr rfl) rfl rfl rfl ?_)
  refine op0 ?_
  refine rs_ (upd none_ 2 (.b (decide ((rs.length : Int) ≤ 20)))) (updO noOb 1 (.live ⟨[.one, .one, .one, .one, .one, .one, .one, .one, .q eUL rs], 25, 1⟩)) (lu rfl ln) rfl ?_
  refine awp_ret ?_
  exact fret (av := .v (.bool (decide ((rs.length : Int) ≤ 20)))) rfl rfl (by rw [smallB_end (k := k) (by omega) hinv]; simp; omega)
theorem r05_Full (form len speed mute wait cancel stay jn : Int) (rs : List (List Int)) (hf : 0 ≤ form ∧ form ≤ 255) (hl : 0 ≤ len ∧ len ≤ 255) (hs : 0 ≤ speed ∧ speed ≤ 255) (hm : 0 ≤ mute ∧ mute ≤ 65535) (hw : 0 ≤ wait ∧ wait ≤ 65535) (hc : 0 ≤ cancel ∧ cancel ≤ 255) (hy : 0 ≤ stay ∧ stay ≤ 255) (hj : 0 ≤ jn ∧ jn ≤ 255) (hn : rs.length ≤ 65536) (hx : ∀ x, x ∈ rs → x.length ≤ 65536 ∧ ∀ y, y ∈ x → 0 ≤ y ∧ y ≤ 255) : Fn Try.prog 26 [.agg [.v (.int .u8 form), .v (.int .u8 len), .v (.int .u8 speed), .v (.int .u16 mute), .v (.int .u16 wait), .v (.int .u8 cancel), .v (.int .u8 stay), .v (.int .u8 jn), .ro rs.length (enc eUL rs)]] (.agg [.one, .ro ((mkSecs form len).length) (enc eSec (mkSecs form len)), .ro ((mkParts form jn).length) (enc eIL (mkParts form jn)), .ro ((mkPts form).length) (enc ePnt (mkPts form)), .ro ((fullRoutes form len rs).length) (enc eIL (fullRoutes form len rs)), .v (.int .i64 (1 + speed % (2 * (10 * (1 + len % 20))))), .v (.int .i64 (1 + mute % 1000)), .v (.int .i64 (1 + wait % 1000)), .v (.int .i64 (1 + cancel)), .v (.int .i64 (stay % 4))]) := by
 have hel := mkEnds_len form
 have hsl := mkSecs_len form len
 have hpl := mkPts_len form
 refine fnC_of_body (N := 63) Try.func26 rfl rfl (by simp) (fun w0 X hL_ => ?_)
 refine seqR ?_
 refine opG rfl (aop_box 51 rfl rfl rfl rfl rfl rfl rfl ?_)
 refine opG rfl (aop_alloc 52 rfl rfl rfl rfl ze37 rfl ?_)
 refine op0 ?_
 refine seqR ?_
 refine opG rfl (aop_ldB (cells' := [.v (.int .u8 form), .v (.int .u8 len), .v (.int .u8 speed), .v (.int .u16 mute), .v (.int .u16 wait), .v (.int .u8 cancel), .v (.int .u8 stay), .v (.int .u8 jn), .q eUL rs]) rfl rfl rfl ag25 sz25 rfl rfl rfl rfl ?_)
 refine opG rfl (callW_ (r04_Make form len speed mute wait cancel stay jn (by first | omega | (simp; done) | decide | (simp at *; omega)) (by first | omega | (simp; done) | decide | (simp at *; omega)) (by first | omega | (simp; done) | decide | (simp at *; omega)) (by first | omega | (simp; done) | decide | (simp at *; omega)) (by first | omega | (simp; done) | decide | (simp at *; omega)) (by first | omega | (simp; done) | decide | (simp at *; omega)) (by first | omega | (simp; done) | decide | (simp at *; omega)) (by first | omega | (simp; done) | decide | (simp at *; omega))) rfl rfl rfl rfl rfl bd24 (lends_cons (lend_agg (lends_cons (lend_n (av := .v (.int .u8 form))) (lends_cons (lend_n (av := .v (.int .u8 len))) (lends_cons (lend_n (av := .v (.int .u8 speed))) (lends_cons (lend_n (av := .v (.int .u16 mute))) (lends_cons (lend_n (av := .v (.int .u16 wait))) (lends_cons (lend_n (av := .v (.int .u8 cancel))) (lends_cons (lend_n (av := .v (.int .u8 stay))) (lends_cons (lend_n (av := .v (.int .u8 jn))) (lends_cons (.one _ rfl) lends_nil)))))))))) lends_nil) ?_)
 refine opG rfl (aop_alloc 53 rfl rfl rfl rfl ze37 rfl ?_)
 refine opG rfl (aop_store rfl rfl rfl sz37 rfl rfl rfl rfl rfl (Nat.le_of_ble_eq_true rfl) rfl rfl ?_)
 refine op0 ?_
 refine rs_ (upd (upd (upd none_ 1 (.pt 51 0)) 2 (.pt 52 0)) 3 (.pt 53 0)) (updO (updO (updO (updO noOb 51 (.live ⟨[.v (.int .u8 form), .v (.int .u8 len), .v (.int .u8 speed), .v (.int .u16 mute), .v (.int .u16 wait), .v (.int .u8 cancel), .v (.int .u8 stay), .v (.int .u8 jn), .q eUL rs], 25, 1⟩)) 52 (.live ⟨[.v (.slice none 0 0), .v (.slice none 0 0), .v (.slice none 0 0), .v (.slice none 0 0), .v (.slice none 0 0), .i 0, .i 0, .i 0, .i 0, .i 0], 37, 1⟩)) 53 (.live ⟨[.v (.slice none 0 0), .v (.slice none 0 0), .v (.slice none 0 0), .v (.slice none 0 0), .v (.slice none 0 0), .i 0, .i 0, .i 0, .i 0, .i 0], 37, 1⟩)) 53 (.live ⟨[.one, .q eSec (mkSecs form len), .q eIL (mkParts form jn), .q ePnt (mkPts form), .v (.slice none 0 0), .i (1 + speed % (2 * (10 * (1 + len % 20)))), .i (1 + mute % 1000), .i (1 + wait % 1000), .i (1 + cancel), .i (stay % 4)], 37, 1⟩)) (lu rfl (lu rfl (lu rfl ln))) rfl ?_
 refine awp_seq ?_
 refine seqR ?_
 refine opG rfl (aop_move (av := .i 0) (.inr rfl) rfl rfl rfl ?_)
 refine op0 ?_
 refine awp_block ?_
 refine awp_countI (fun k => ⟨(upd (upd (upd (upd none_ 1 (.pt 2 0)) 2 (.pt 3 0)) 3 (.pt 1 0)) 4 (.i (k : Int))), (updO (updO (updO (updO noOb 1 (.live ⟨[.one, .q eSec (mkSecs form len), .q eIL (mkParts form jn), .q ePnt (mkPts form), .sl 4 0 ((routesK (mkSecs form len) (mkPts form) rs k).length), .i (1 + speed % (2 * (10 * (1 + len % 20)))), .i (1 + mute % 1000), .i (1 + wait % 1000), .i (1 + cancel), .i (stay % 4)], 37, 1⟩)) 2 (.live ⟨[.v (.int .u8 form), .v (.int .u8 len), .v (.int .u8 speed), .v (.int .u16 mute), .v (.int .u16 wait), .v (.int .u8 cancel), .v (.int .u8 stay), .v (.int .u8 jn), .q eUL rs], 25, 1⟩)) 3 (.live ⟨[.v (.slice none 0 0), .v (.slice none 0 0), .v (.slice none 0 0), .v (.slice none 0 0), .v (.slice none 0 0), .i 0, .i 0, .i 0, .i 0, .i 0], 37, 1⟩)) 4 (.live ⟨(enc eIL (routesK (mkSecs form len) (mkPts form) rs k)), 38, 1⟩))⟩) (fun k => True) (rs.length) ?_ trivial (fun k hk_k hinv => ?_)
 ·skip
  refine (imp_adoptC 53 4 54 38 1 rfl rfl rfl rfl).trans ?_
  exact imp_ler [(53, 1), (51, 2), (52, 3), (54, 4)] (lerL [(53, 1), (51, 2), (52, 3), (54, 4)] [((53, 1), .live ⟨[.one, .q eSec (mkSecs form len), .q eIL (mkParts form jn), .q ePnt (mkPts form), .sl 4 0 ((routesK (mkSecs form len) (mkPts form) rs 0).length), .i (1 + speed % (2 * (10 * (1 + len % 20)))), .i (1 + mute % 1000), .i (1 + wait % 1000), .i (1 + cancel), .i (stay % 4)], 37, 1⟩), ((51, 2), .live ⟨[.v (.int .u8 form), .v (.int .u8 len), .v (.int .u8 speed), .v (.int .u16 mute), .v (.int .u16 wait), .v (.int .u8 cancel), .v (.int .u8 stay), .v (.int .u8 jn), .q eUL rs], 25, 1⟩), ((52, 3), .live ⟨[.v (.slice none 0 0), .v (.slice none 0 0), .v (.slice none 0 0), .v (.slice none 0 0), .v (.slice none 0 0), .i 0, .i 0, .i 0, .i 0, .i 0], 37, 1⟩), ((54, 4), .live ⟨(enc eIL (routesK (mkSecs form len) (mkPts form) rs 0)), 38, 1⟩)] rfl (by decide) (by decide) ⟨row_map (o := ⟨[.one, .q eSec (mkSecs form len), .q eIL (mkParts form jn), .q ePnt (mkPts form), .sl 54 0 0, .i (1 + speed % (2 * (10 * (1 + len % 20)))), .i (1 + mute % 1000), .i (1 + wait % 1000), .i (1 + cancel), .i (stay % 4)], 37, 1⟩) rfl (om_ (lm_cons (am_no (a := .one)) (lm_cons (am_no (a := .q eSec (mkSecs form len))) (lm_cons (am_no (a := .q eIL (mkParts form jn))) (lm_cons (am_no (a := .q ePnt (mkPts form))) (lm_cons rfl (lm_cons (am_no (a := .i (1 + speed % (2 * (10 * (1 + len % 20)))))) (lm_cons (am_no (a := .i (1 + mute % 1000))) (lm_cons (am_no (a := .i (1 + wait % 1000))) (lm_cons (am_no (a := .i (1 + cancel))) (lm_cons (am_no (a := .i (stay % 4))) lm_nil))))))))))) (oks_cons (ok_no (a := .one)) (oks_cons (ok_no (a := .q eSec (mkSecs form len))) (oks_cons (ok_no (a := .q eIL (mkParts form jn))) (oks_cons (ok_no (a := .q ePnt (mkPts form))) (oks_cons (.sl _ _ _ (by simp)) (oks_cons (ok_no (a := .i (1 + speed % (2 * (10 * (1 + len % 20)))))) (oks_cons (ok_no (a := .i (1 + mute % 1000))) (oks_cons (ok_no (a := .i (1 + wait % 1000))) (oks_cons (ok_no (a := .i (1 + cancel))) (oks_cons (ok_no (a := .i (stay % 4))) oks_nil)))))))))), row_no (o := ⟨[.v (.int .u8 form), .v (.int .u8 len), .v (.int .u8 speed), .v (.int .u16 mute), .v (.int .u16 wait), .v (.int .u8 cancel), .v (.int .u8 stay), .v (.int .u8 jn), .q eUL rs], 25, 1⟩) rfl rfl, row_no (o := ⟨[.v (.slice none 0 0), .v (.slice none 0 0), .v (.slice none 0 0), .v (.slice none 0 0), .v (.slice none 0 0), .i 0, .i 0, .i 0, .i 0, .i 0], 37, 1⟩) rfl rfl, row_no (o := ⟨[], 38, 1⟩) rfl rfl, trivial⟩ (sr_same 4 (.i (0 : Int)) rfl NoI.out (sr_map 3 (.pt 1 0) (by first | exact Ok.sl _ _ _ (by first | decide | simp) | exact Ok.pt _ _ (by first | decide | simp)) rfl (sr_map 2 (.pt 3 0) (by first | exact Ok.sl _ _ _ (by first | decide | simp) | exact Ok.pt _ _ (by first | decide | simp)) rfl (sr_map 1 (.pt 2 0) (by first | exact Ok.sl _ _ _ (by first | decide | simp) | exact Ok.pt _ _ (by first | decide | simp)) rfl sr_none))))) (keep_of rfl)
 have hrk := routesK_len (mkSecs form len) (mkPts form) rs k
 refine awp_seq ?_
 refine seqR ?_
 refine opG rfl (aop_move (av := .i (k : Int)) (.inl rfl) rfl rfl rfl ?_)
 refine opG rfl (aop_fieldAddr (av := .pt 2 0) (av' := .pt 2 8) rfl rfl rfl ft25_8 sz23 rfl rfl rfl ?_)
 refine opG rfl (aop_ld (av := .q eUL rs) rfl rfl rfl ag23 rfl rfl ?_)
 refine opG rfl (aop_len rfl rfl rfl rfl ut23 (len_ro rfl) ?_)
 refine opG rfl (aop_binI (u := (.bool (decide ((k : Int) < (rs.length : Int))))) rfl rfl rfl rfl rfl trivial rfl ?_)
 refine opG rfl (aop_move (av := .b (decide ((k : Int) < (rs.length : Int)))) (.inl rfl) rfl rfl rfl ?_)
 refine aops_grp 5 19 (.b ((decide ((k : Int) < (rs.length : Int))) && (decide (((routesK (mkSecs form len) (mkPts form) rs k).length : Int) < 16)))) ?_ ?_
 ·refine (Bool.eq_false_or_eq_true (decide ((k : Int) < (rs.length : Int)))).elim (fun hg1 => ?_) (fun hg1 => ?_)
  ·skip
   have hf2 := of_decide_eq_true hg1
   refine opY rfl rfl rfl (by show AV.v (.bool (decide ((k : Int) < (rs.length : Int)))) = _; rw [hg1]) (aop_fieldAddr (av := .pt 1 0) (av' := .pt 1 4) rfl rfl rfl ft37_4 sz34 rfl rfl rfl ?_)
   refine opY rfl rfl rfl (by show AV.v (.bool (decide ((k : Int) < (rs.length : Int)))) = _; rw [hg1]) (aop_ld (av := .sl 4 0 ((routesK (mkSecs form len) (mkPts form) rs k).length)) rfl rfl rfl ag34 rfl rfl ?_)
   refine opY rfl rfl rfl (by show AV.v (.bool (decide ((k : Int) < (rs.length : Int)))) = _; rw [hg1]) (aop_len rfl rfl rfl rfl ut34 (len_sl rfl) ?_)
   refine opY rfl rfl rfl (by show AV.v (.bool (decide ((k : Int) < (rs.length : Int)))) = _; rw [hg1]) (aop_binI (u := (.bool (decide (((routesK (mkSecs form len) (mkPts form) rs k).length : Int) < 16)))) rfl rfl rfl rfl rfl trivial rfl ?_)
   refine opG rfl (aop_pick (b := (decide ((k : Int) < (rs.length : Int)))) (av := .b (decide (((routesK (mkSecs form len) (mkPts form) rs k).length : Int) < 16))) rfl rfl rfl rfl ((congrArg (fun b_ => cond b_ _ _) hg1).trans rfl) ?_)
   refine op0 ?_
   exact imp_env (lee_both 19 _ _ (by rw [hg1] <;> rfl) (lee_out 18 _ rfl (lee_out 17 _ rfl (lee_out 16 _ rfl (lee_out 15 _ rfl (lee_same _))))))
  ·skip
   have hf3 := of_decide_eq_false hg1
   refine opN rfl rfl rfl rfl (by show yv (.bool (decide ((k : Int) < (rs.length : Int)))) ≠ _; rw [hg1]; intro h; cases h) rfl rfl ?_
   refine opN rfl rfl rfl rfl (by show yv (.bool (decide ((k : Int) < (rs.length : Int)))) ≠ _; rw [hg1]; intro h; cases h) rfl rfl ?_
   refine opN rfl rfl rfl rfl (by show yv (.bool (decide ((k : Int) < (rs.length : Int)))) ≠ _; rw [hg1]; intro h; cases h) rfl rfl ?_
   refine opN rfl rfl rfl rfl (by show yv (.bool (decide ((k : Int) < (rs.length : Int)))) ≠ _; rw [hg1]; intro h; cases h) rfl rfl ?_
   refine opG rfl (aop_pick (b := (decide ((k : Int) < (rs.length : Int)))) (av := .b false) rfl rfl rfl rfl ((congrArg (fun b_ => cond b_ _ _) hg1).trans rfl) ?_)
   refine op0 ?_
   exact imp_env (lee_both 19 _ _ (by rw [hg1] <;> rfl) (lee_out 18 _ rfl (lee_out 17 _ rfl (lee_out 16 _ rfl (lee_out 15 _ rfl (lee_same _))))))
 refine op0 ?_
 refine rs_ (upd (upd (upd (upd (upd none_ 1 (.pt 2 0)) 2 (.pt 3 0)) 3 (.pt 1 0)) 4 (.i (k : Int))) 19 (.b ((decide ((k : Int) < (rs.length : Int))) && (decide (((routesK (mkSecs form len) (mkPts form) rs k).length : Int) < 16))))) (updO (updO (updO (updO noOb 1 (.live ⟨[.one, .q eSec (mkSecs form len), .q eIL (mkParts form jn), .q ePnt (mkPts form), .sl 4 0 ((routesK (mkSecs form len) (mkPts form) rs k).length), .i (1 + speed % (2 * (10 * (1 + len % 20)))), .i (1 + mute % 1000), .i (1 + wait % 1000), .i (1 + cancel), .i (stay % 4)], 37, 1⟩)) 2 (.live ⟨[.v (.int .u8 form), .v (.int .u8 len), .v (.int .u8 speed), .v (.int .u16 mute), .v (.int .u16 wait), .v (.int .u8 cancel), .v (.int .u8 stay), .v (.int .u8 jn), .q eUL rs], 25, 1⟩)) 3 (.live ⟨[.v (.slice none 0 0), .v (.slice none 0 0), .v (.slice none 0 0), .v (.slice none 0 0), .v (.slice none 0 0), .i 0, .i 0, .i 0, .i 0, .i 0], 37, 1⟩)) 4 (.live ⟨(enc eIL (routesK (mkSecs form len) (mkPts form) rs k)), 38, 1⟩)) (lu rfl (lu rfl (lu rfl (lu rfl (lu rfl ln))))) rfl ?_
 refine awp_cond ((decide ((k : Int) < (rs.length : Int))) && (decide (((routesK (mkSecs form len) (mkPts form) rs k).length : Int) < 16))) rfl rfl (fun hc0 => ?_) (fun hc0 => ?_)
 ·skip
  obtain ⟨hf4a, hf4b⟩ := and_t hc0
  have hf5 := of_decide_eq_true hf4a
  have hf6 := of_decide_eq_true hf4b
  have hkr : k < rs.length := by simp at hc0; omega
  have hr16 : (routesK (mkSecs form len) (mkPts form) rs k).length < 16 := by simp at hc0; omega
  have hxk := hx _ (getD_mem [] hkr)
  refine awp_skip ?_
  refine awp_seq ?_
  refine awp_block ?_
  refine seqR ?_
  refine opG rfl (aop_fieldAddr (av := .pt 2 0) (av' := .pt 2 8) rfl rfl rfl ft25_8 sz23 rfl rfl rfl ?_)
  refine opG rfl (aop_ld (av := .q eUL rs) rfl rfl rfl ag23 rfl rfl ?_)
  refine opG rfl (aop_move (av := .i (k : Int)) (.inl rfl) rfl rfl rfl ?_)
  refine opG rfl (aop_ixE [] rfl rfl rfl ut23 sz26 rfl rfl (fun _ => rfl) rfl (by first | omega | (simp; done) | decide | (simp at *; omega)) ?_)
  refine opG rfl (aop_ld (av := .q eU8 (rs.getD k [])) rfl rfl rfl ag26 rfl rfl ?_)
  refine opG rfl (aop_move (av := .q eU8 (rs.getD k [])) (.inr rfl) rfl rfl rfl ?_)
  refine op0 ?_
  refine rs_ (upd (upd (upd (upd (upd none_ 1 (.pt 2 0)) 2 (.pt 3 0)) 3 (.pt 1 0)) 4 (.i (k : Int))) 5 (.q eU8 (rs.getD k []))) (updO (updO (updO (updO noOb 1 (.live ⟨[.one, .q eSec (mkSecs form len), .q eIL (mkParts form jn), .q ePnt (mkPts form), .sl 4 0 ((routesK (mkSecs form len) (mkPts form) rs k).length), .i (1 + speed % (2 * (10 * (1 + len % 20)))), .i (1 + mute % 1000), .i (1 + wait % 1000), .i (1 + cancel), .i (stay % 4)], 37, 1⟩)) 2 (.live ⟨[.v (.int .u8 form), .v (.int .u8 len), .v (.int .u8 speed), .v (.int .u16 mute), .v (.int .u16 wait), .v (.int .u8 cancel), .v (.int .u8 stay), .v (.int .u8 jn), .q eUL rs], 25, 1⟩)) 3 (.live ⟨[.v (.slice none 0 0), .v (.slice none 0 0), .v (.slice none 0 0), .v (.slice none 0 0), .v (.slice none 0 0), .i 0, .i 0, .i 0, .i 0, .i 0], 37, 1⟩)) 4 (.live ⟨(enc eIL (routesK (mkSecs form len) (mkPts form) rs k)), 38, 1⟩)) (lu rfl (lu rfl (lu rfl (lu rfl (lu rfl ln))))) rfl ?_
  refine awp_seq ?_
  refine seqR ?_
  refine opG rfl (aop_move (av := .q eU8 (rs.getD k [])) (.inl rfl) rfl rfl rfl ?_)
  refine opG rfl (aop_len rfl rfl rfl rfl ut26 (len_ro rfl) ?_)
  refine opG rfl (aop_binI (u := (.bool (decide (((rs.getD k []).length : Int) < 2)))) rfl rfl rfl rfl rfl trivial rfl ?_)
  refine op0 ?_
  refine awp_cond (decide (((rs.getD k []).length : Int) < 2)) rfl rfl (fun hc1 => ?_) (fun hc1 => ?_)
  ·skip
   have hf7 := of_decide_eq_true hc1
   refine awp_exit ?_
   refine regR ?_
   refine opG rfl (aop_move (av := .i (k : Int)) (.inl rfl) rfl rfl rfl ?_)
   refine opG rfl (aop_binI (u := (.int .i64 ((k + 1 : Nat) : Int))) rfl rfl rfl rfl rfl trivial (addN (by omega)) ?_)
   refine opG rfl (aop_move (av := .i ((k + 1 : Nat) : Int)) (.inr rfl) rfl rfl rfl ?_)
   refine op0 ?_
   show _ ∧ _
   have hs_ := routesK_skip (secs := (mkSecs form len)) (pts := (mkPts form)) (rs := rs) (k := k) (.inl (by simp at hc1; omega))
   refine ⟨by omega, trivial, ?_⟩
   exact imp_ler [(1, 1), (2, 2), (3, 3), (4, 4)] (lerL [(1, 1), (2, 2), (3, 3), (4, 4)] [((1, 1), .live ⟨[.one, .q eSec (mkSecs form len), .q eIL (mkParts form jn), .q ePnt (mkPts form), .sl 4 0 ((routesK (mkSecs form len) (mkPts form) rs (k + 1)).length), .i (1 + speed % (2 * (10 * (1 + len % 20)))), .i (1 + mute % 1000), .i (1 + wait % 1000), .i (1 + cancel), .i (stay % 4)], 37, 1⟩), ((2, 2), .live ⟨[.v (.int .u8 form), .v (.int .u8 len), .v (.int .u8 speed), .v (.int .u16 mute), .v (.int .u16 wait), .v (.int .u8 cancel), .v (.int .u8 stay), .v (.int .u8 jn), .q eUL rs], 25, 1⟩), ((3, 3), .live ⟨[.v (.slice none 0 0), .v (.slice none 0 0), .v (.slice none 0 0), .v (.slice none 0 0), .v (.slice none 0 0), .i 0, .i 0, .i 0, .i 0, .i 0], 37, 1⟩), ((4, 4), .live ⟨(enc eIL (routesK (mkSecs form len) (mkPts form) rs (k + 1))), 38, 1⟩)] rfl (by decide) (by decide) ⟨row_map (o := ⟨[.one, .q eSec (mkSecs form len), .q eIL (mkParts form jn), .q ePnt (mkPts form), .sl 4 0 ((routesK (mkSecs form len) (mkPts form) rs k).length), .i (1 + speed % (2 * (10 * (1 + len % 20)))), .i (1 + mute % 1000), .i (1 + wait % 1000), .i (1 + cancel), .i (stay % 4)], 37, 1⟩) rfl (by rw [hs_]; exact (om_ (lm_cons (am_no (a := .one)) (lm_cons (am_no (a := .q eSec (mkSecs form len))) (lm_cons (am_no (a := .q eIL (mkParts form jn))) (lm_cons (am_no (a := .q ePnt (mkPts form))) (lm_cons rfl (lm_cons (am_no (a := .i (1 + speed % (2 * (10 * (1 + len % 20)))))) (lm_cons (am_no (a := .i (1 + mute % 1000))) (lm_cons (am_no (a := .i (1 + wait % 1000))) (lm_cons (am_no (a := .i (1 + cancel))) (lm_cons (am_no (a := .i (stay % 4))) lm_nil)))))))))))) (oks_cons (ok_no (a := .one)) (oks_cons (ok_no (a := .q eSec (mkSecs form len))) (oks_cons (ok_no (a := .q eIL (mkParts form jn))) (oks_cons (ok_no (a := .q ePnt (mkPts form))) (oks_cons (.sl _ _ _ (by simp)) (oks_cons (ok_no (a := .i (1 + speed % (2 * (10 * (1 + len % 20)))))) (oks_cons (ok_no (a := .i (1 + mute % 1000))) (oks_cons (ok_no (a := .i (1 + wait % 1000))) (oks_cons (ok_no (a := .i (1 + cancel))) (oks_cons (ok_no (a := .i (stay % 4))) oks_nil)))))))))), row_no (o := ⟨[.v (.int .u8 form), .v (.int .u8 len), .v (.int .u8 speed), .v (.int .u16 mute), .v (.int .u16 wait), .v (.int .u8 cancel), .v (.int .u8 stay), .v (.int .u8 jn), .q eUL rs], 25, 1⟩) rfl rfl, row_no (o := ⟨[.v (.slice none 0 0), .v (.slice none 0 0), .v (.slice none 0 0), .v (.slice none 0 0), .v (.slice none 0 0), .i 0, .i 0, .i 0, .i 0, .i 0], 37, 1⟩) rfl rfl, row_no (o := ⟨(enc eIL (routesK (mkSecs form len) (mkPts form) rs k)), 38, 1⟩) rfl (by exact congrArg (fun l_ => LObj.mk (enc eIL l_) 38 1) hs_), trivial⟩ (sr_same 4 (.i ((k + 1) : Int)) rfl NoI.out (sr_map 3 (.pt 1 0) (by first | exact Ok.sl _ _ _ (by first | decide | simp) | exact Ok.pt _ _ (by first | decide | simp)) rfl (sr_map 2 (.pt 3 0) (by first | exact Ok.sl _ _ _ (by first | decide | simp) | exact Ok.pt _ _ (by first | decide | simp)) rfl (sr_map 1 (.pt 2 0) (by first | exact Ok.sl _ _ _ (by first | decide | simp) | exact Ok.pt _ _ (by first | decide | simp)) rfl sr_none))))) (keep_of rfl)
  ·skip
   have hf8 := of_decide_eq_false hc1
   have hx2 : ¬ (rs.getD k []).length < 2 := by simp at hc1; omega
   have hx0 := hxk.2 _ (getD_mem (l := (rs.getD k [])) (k := 0) 0 (by omega))
   have hx1 := hxk.2 _ (getD_mem (l := (rs.getD k [])) (k := 1) 0 (by omega))
   have hxd : ∀ y, y ∈ (rs.getD k []).drop 2 → 0 ≤ y ∧ y ≤ 255 := fun y hy => hxk.2 y (List.mem_of_mem_drop hy)
   have hmd := modB (a := (rs.getD k []).getD 0 0) (b := ((mkSecs form len).length : Int)) (by omega)
   refine awp_skip ?_
   refine awp_seq ?_
   refine awp_draw (m := 23) [(52, .q eI (walkL (mkSecs form len) (mkPts form) (((rs.getD k []).getD 0 0) % ((mkSecs form len).length : Int)) (((rs.getD k []).getD 0 0) / 128) ((rs.getD k []).drop 2) (2 + (((rs.getD k []).getD 1 0) % 5)))), (51, .i (2 + (((rs.getD k []).getD 1 0) % 5))), (50, .i (((rs.getD k []).getD 1 0) % 5)), (49, .v (.int .u8 (((rs.getD k []).getD 1 0) % 5))), (48, .v (.int .u8 ((rs.getD k []).getD 1 0))), (47, .rp (([.v (.int .u8 ((rs.getD k []).getD 1 0))] : List AV) ++ ((enc eU8 (rs.getD k [])).drop ((1 + 1) * 1)))), (46, .q eU8 (rs.getD k [])), (45, .q eU8 ((rs.getD k []).drop 2)), (44, .q eU8 (rs.getD k [])), (43, .i (((rs.getD k []).getD 0 0) / 128)), (42, .v (.int .u8 (((rs.getD k []).getD 0 0) / 128))), (41, .v (.int .u8 ((rs.getD k []).getD 0 0))), (40, .rp (([.v (.int .u8 ((rs.getD k []).getD 0 0))] : List AV) ++ ((enc eU8 (rs.getD k [])).drop ((0 + 1) * 1)))), (39, .q eU8 (rs.getD k [])), (38, .i (((rs.getD k []).getD 0 0) % ((mkSecs form len).length : Int))), (37, .i ((mkSecs form len).length : Int)), (36, .q eSec (mkSecs form len)), (35, .pt 1 1), (34, .i ((rs.getD k []).getD 0 0)), (33, .v (.int .u8 ((rs.getD k []).getD 0 0))), (32, .rp (([.v (.int .u8 ((rs.getD k []).getD 0 0))] : List AV) ++ ((enc eU8 (rs.getD k [])).drop ((0 + 1) * 1)))), (31, .q eU8 (rs.getD k [])), (30, .agg [.one, .q eSec (mkSecs form len), .q eIL (mkParts form jn), .q ePnt (mkPts form), .sl 4 0 ((routesK (mkSecs form len) (mkPts form) rs k).length), .i (1 + speed % (2 * (10 * (1 + len % 20)))), .i (1 + mute % 1000), .i (1 + wait % 1000), .i (1 + cancel), .i (stay % 4)])] mixed (by kernel_rfl) ?_ ?_
   ·refine ⟨?_, ?_, ?_, ?_, ?_, ?_, ?_, ?_, ?_, ?_, ?_, ?_, ?_, ?_, ?_, ?_, ?_, ?_, ?_, ?_, ?_, ?_, ?_, trivial⟩
    ·exact ⟨30, rfl, blt_lt rfl, fun st hob hE => aop_ldB (cells' := [.one, .q eSec (mkSecs form len), .q eIL (mkParts form jn), .q ePnt (mkPts form), .sl 4 0 ((routesK (mkSecs form len) (mkPts form) rs k).length), .i (1 + speed % (2 * (10 * (1 + len % 20)))), .i (1 + mute % 1000), .i (1 + wait % 1000), .i (1 + cancel), .i (stay % 4)]) rfl rfl rfl ag37 sz37 (hE 3 rfl) (by rw [hob]; rfl) rfl rfl (by rw [hob]; rfl)⟩
    ·exact ⟨31, rfl, blt_lt rfl, fun st hob hE => aop_move (av := .q eU8 (rs.getD k [])) (.inl rfl) rfl rfl (hE 5 rfl) (by rw [hob]; rfl)⟩
    ·exact ⟨32, rfl, blt_lt rfl, fun st hob hE => aop_ixE (k := 0) 0 rfl rfl rfl ut26 sz5 (hE 31 rfl) rfl (fun _ => rfl) rfl (by first | omega | (simp; done) | decide | (simp at *; omega)) (by rw [hob]; rfl)⟩
    ·exact ⟨33, rfl, blt_lt rfl, fun st hob hE => aop_ld (av := .v (.int .u8 ((rs.getD k []).getD 0 0))) rfl rfl rfl ag5 (hE 32 rfl) rfl (by rw [hob]; rfl)⟩
    ·exact ⟨34, rfl, blt_lt rfl, fun st hob hE => aop_conv' rfl rfl rfl ut5 ut3 (hE 33 rfl) (IntWalk.i64_in _ (by omega)) (by rw [hob]; rfl)⟩
    ·exact ⟨35, rfl, blt_lt rfl, fun st hob hE => aop_fieldAddr (av := .pt 1 0) (av' := .pt 1 1) rfl rfl rfl ft37_1 sz33 (hE 3 rfl) rfl rfl (by rw [hob]; rfl)⟩
    ·exact ⟨36, rfl, blt_lt rfl, fun st hob hE => aop_ld (av := .q eSec (mkSecs form len)) rfl rfl rfl ag33 (hE 35 rfl) (by rw [hob]; rfl) (by rw [hob]; rfl)⟩
    ·exact ⟨37, rfl, blt_lt rfl, fun st hob hE => aop_len rfl rfl rfl rfl ut33 (len_ro (hE 36 rfl)) (by rw [hob]; rfl)⟩
    ·exact ⟨38, rfl, blt_lt rfl, fun st hob hE => aop_binI (u := (.int .i64 (((rs.getD k []).getD 0 0) % ((mkSecs form len).length : Int)))) rfl rfl rfl (hE 34 rfl) (hE 37 rfl) (by show _ ≠ _; omega) (remI (by omega)) (by rw [hob]; rfl)⟩
    ·exact ⟨39, rfl, blt_lt rfl, fun st hob hE => aop_move (av := .q eU8 (rs.getD k [])) (.inl rfl) rfl rfl (hE 5 rfl) (by rw [hob]; rfl)⟩
    ·exact ⟨40, rfl, blt_lt rfl, fun st hob hE => aop_ixE (k := 0) 0 rfl rfl rfl ut26 sz5 (hE 39 rfl) rfl (fun _ => rfl) rfl (by first | omega | (simp; done) | decide | (simp at *; omega)) (by rw [hob]; rfl)⟩
    ·exact ⟨41, rfl, blt_lt rfl, fun st hob hE => aop_ld (av := .v (.int .u8 ((rs.getD k []).getD 0 0))) rfl rfl rfl ag5 (hE 40 rfl) rfl (by rw [hob]; rfl)⟩
    ·exact ⟨42, rfl, blt_lt rfl, fun st hob hE => aop_binI (u := (.int .u8 (((rs.getD k []).getD 0 0) / 128))) rfl rfl rfl (hE 41 rfl) rfl (by show _ ≠ _; decide) (quoU8 (by omega)) (by rw [hob]; rfl)⟩
    ·exact ⟨43, rfl, blt_lt rfl, fun st hob hE => aop_conv' rfl rfl rfl ut5 ut3 (hE 42 rfl) (IntWalk.i64_in _ (by omega)) (by rw [hob]; rfl)⟩
    ·exact ⟨44, rfl, blt_lt rfl, fun st hob hE => aop_move (av := .q eU8 (rs.getD k [])) (.inl rfl) rfl rfl (hE 5 rfl) (by rw [hob]; rfl)⟩
    ·exact ⟨45, rfl, blt_lt rfl, fun st hob hE => aop_sliceRoN (l := 2) (hgh := ((rs.getD k []).length)) (cells' := enc eU8 ((rs.getD k []).drop 2)) (((rs.getD k []).drop 2)).length rfl rfl rfl ut26 sz5 (hE 44 rfl) ⟨_, rfl⟩ rfl (by first | omega | (simp; done) | decide | (simp at *; omega)) (by first | omega | (simp; done) | decide | (simp at *; omega)) (sliceE1 (f := eU8) (fun _ => rfl) _ _ _ rfl) (by simp) (by rw [hob]; rfl)⟩
    ·exact ⟨46, rfl, blt_lt rfl, fun st hob hE => aop_move (av := .q eU8 (rs.getD k [])) (.inl rfl) rfl rfl (hE 5 rfl) (by rw [hob]; rfl)⟩
    ·exact ⟨47, rfl, blt_lt rfl, fun st hob hE => aop_ixE (k := 1) 0 rfl rfl rfl ut26 sz5 (hE 46 rfl) rfl (fun _ => rfl) rfl (by first | omega | (simp; done) | decide | (simp at *; omega)) (by rw [hob]; rfl)⟩
    ·exact ⟨48, rfl, blt_lt rfl, fun st hob hE => aop_ld (av := .v (.int .u8 ((rs.getD k []).getD 1 0))) rfl rfl rfl ag5 (hE 47 rfl) rfl (by rw [hob]; rfl)⟩
    ·exact ⟨49, rfl, blt_lt rfl, fun st hob hE => aop_binI (u := (.int .u8 (((rs.getD k []).getD 1 0) % 5))) rfl rfl rfl (hE 48 rfl) rfl (by show _ ≠ _; decide) (remI (by omega)) (by rw [hob]; rfl)⟩
    ·exact ⟨50, rfl, blt_lt rfl, fun st hob hE => aop_conv' rfl rfl rfl ut5 ut3 (hE 49 rfl) (IntWalk.i64_in _ (by omega)) (by rw [hob]; rfl)⟩
    ·exact ⟨51, rfl, blt_lt rfl, fun st hob hE => aop_binI (u := (.int .i64 (2 + (((rs.getD k []).getD 1 0) % 5)))) rfl rfl rfl rfl (hE 50 rfl) trivial (addI (by omega)) (by rw [hob]; rfl)⟩
    ·exact ⟨52, rfl, blt_lt rfl, fun st hob hE => callW_ (r05_Walk (mkSecs form len) (mkPts form) _ _ ((rs.getD k []).drop 2) (2 + (rs.getD k []).getD 1 0 % 5) (by omega) (by omega) (by rw [List.length_drop]; omega) (by omega) hxd) rfl rfl rfl rfl rfl bd27 (by show Lends _ ([st.env 30, st.env 38, st.env 43, st.env 45, st.env 51] ++ _) _; rw [hE 30 rfl, hE 38 rfl, hE 43 rfl, hE 45 rfl, hE 51 rfl]; exact (lends_cons (lend_agg (lends_cons (lend_n (av := .one)) (lends_cons (lend_n (av := .q eSec (mkSecs form len))) (lends_cons (.one _ rfl) (lends_cons (lend_n (av := .q ePnt (mkPts form))) (lends_cons (.one _ rfl) (lends_cons (.one _ rfl) (lends_cons (.one _ rfl) (lends_cons (.one _ rfl) (lends_cons (.one _ rfl) (lends_cons (.one _ rfl) lends_nil))))))))))) (lends_cons (lend_n (av := .i (((rs.getD k []).getD 0 0) % ((mkSecs form len).length : Int)))) (lends_cons (lend_n (av := .i (((rs.getD k []).getD 0 0) / 128))) (lends_cons (lend_n (av := .q eU8 ((rs.getD k []).drop 2))) (lends_cons (lend_n (av := .i (2 + (((rs.getD k []).getD 1 0) % 5)))) lends_nil)))))) (by rw [hob]; rfl)⟩
   refine opG rfl (aop_move (av := .q eI (walkL (mkSecs form len) (mkPts form) (((rs.getD k []).getD 0 0) % ((mkSecs form len).length : Int)) (((rs.getD k []).getD 0 0) / 128) ((rs.getD k []).drop 2) (2 + (((rs.getD k []).getD 1 0) % 5)))) (.inr rfl) rfl rfl rfl ?_)
   refine op0 ?_
   refine rs_ (upd (upd (upd (upd (upd (upd none_ 1 (.pt 2 0)) 2 (.pt 3 0)) 3 (.pt 1 0)) 4 (.i (k : Int))) 5 (.q eU8 (rs.getD k []))) 6 (.q eI (walkL (mkSecs form len) (mkPts form) (((rs.getD k []).getD 0 0) % ((mkSecs form len).length : Int)) (((rs.getD k []).getD 0 0) / 128) ((rs.getD k []).drop 2) (2 + (((rs.getD k []).getD 1 0) % 5))))) (updO (updO (updO (updO noOb 1 (.live ⟨[.one, .q eSec (mkSecs form len), .q eIL (mkParts form jn), .q ePnt (mkPts form), .sl 4 0 ((routesK (mkSecs form len) (mkPts form) rs k).length), .i (1 + speed % (2 * (10 * (1 + len % 20)))), .i (1 + mute % 1000), .i (1 + wait % 1000), .i (1 + cancel), .i (stay % 4)], 37, 1⟩)) 2 (.live ⟨[.v (.int .u8 form), .v (.int .u8 len), .v (.int .u8 speed), .v (.int .u16 mute), .v (.int .u16 wait), .v (.int .u8 cancel), .v (.int .u8 stay), .v (.int .u8 jn), .q eUL rs], 25, 1⟩)) 3 (.live ⟨[.v (.slice none 0 0), .v (.slice none 0 0), .v (.slice none 0 0), .v (.slice none 0 0), .v (.slice none 0 0), .i 0, .i 0, .i 0, .i 0, .i 0], 37, 1⟩)) 4 (.live ⟨(enc eIL (routesK (mkSecs form len) (mkPts form) rs k)), 38, 1⟩)) (lu rfl (lu rfl (lu rfl (lu rfl (lu rfl (lu rfl ln)))))) rfl ?_
   refine seqR ?_
   refine opG rfl (aop_move (av := .q eI (walkL (mkSecs form len) (mkPts form) (((rs.getD k []).getD 0 0) % ((mkSecs form len).length : Int)) (((rs.getD k []).getD 0 0) / 128) ((rs.getD k []).drop 2) (2 + (((rs.getD k []).getD 1 0) % 5)))) (.inl rfl) rfl rfl rfl ?_)
   refine opG rfl (aop_len rfl rfl rfl rfl ut38 (len_ro rfl) ?_)
   refine opG rfl (aop_binI (u := (.bool (decide (((walkL (mkSecs form len) (mkPts form) (((rs.getD k []).getD 0 0) % ((mkSecs form len).length : Int)) (((rs.getD k []).getD 0 0) / 128) ((rs.getD k []).drop 2) (2 + (((rs.getD k []).getD 1 0) % 5))).length : Int) ≥ 2)))) rfl rfl rfl rfl rfl trivial rfl ?_)
   refine op0 ?_
   refine awp_cond (decide (((walkL (mkSecs form len) (mkPts form) (((rs.getD k []).getD 0 0) % ((mkSecs form len).length : Int)) (((rs.getD k []).getD 0 0) / 128) ((rs.getD k []).drop 2) (2 + (((rs.getD k []).getD 1 0) % 5))).length : Int) ≥ 2)) rfl rfl (fun hc2 => ?_) (fun hc2 => ?_)
   ·skip
    have hf9 := of_decide_eq_true hc2
    have hwl := walkL_len (mkSecs form len) (mkPts form) ((rs.getD k []).getD 0 0 % ((mkSecs form len).length : Int)) ((rs.getD k []).getD 0 0 / 128) ((rs.getD k []).drop 2) (2 + (rs.getD k []).getD 1 0 % 5)
    refine regR ?_
    refine opG rfl (aop_fieldAddr (av := .pt 1 0) (av' := .pt 1 4) rfl rfl rfl ft37_4 sz34 rfl rfl rfl ?_)
    refine opG rfl (aop_ld (av := .sl 4 0 ((routesK (mkSecs form len) (mkPts form) rs k).length)) rfl rfl rfl ag34 rfl rfl ?_)
    refine opG rfl (aop_move (av := .q eI (walkL (mkSecs form len) (mkPts form) (((rs.getD k []).getD 0 0) % ((mkSecs form len).length : Int)) (((rs.getD k []).getD 0 0) / 128) ((rs.getD k []).drop 2) (2 + (((rs.getD k []).getD 1 0) % 5)))) (.inl rfl) rfl rfl rfl ?_)
    refine opG rfl (aop_lit rfl rfl rfl ut34 iz38 (by decide) (by decide) rfl rfl ?_)
    refine opG rfl (aop_app1 (f := eIL) (l := routesK (mkSecs form len) (mkPts form) rs k) 55 (walkL (mkSecs form len) (mkPts form) (((rs.getD k []).getD 0 0) % ((mkSecs form len).length : Int)) (((rs.getD k []).getD 0 0) / 128) ((rs.getD k []).drop 2) (2 + (((rs.getD k []).getD 1 0) % 5)) : (List Int)) rfl rfl rfl rfl ut34 in38 rfl (by decide) rfl rfl rfl rfl rfl rfl (fun _ => rfl) rfl rfl (by first | omega | (simp; done) | decide | (simp at *; omega)) (by first | omega | (simp; done) | decide | (simp at *; omega)) rfl ?_)
    refine opG rfl (aop_fieldAddr (av := .pt 1 0) (av' := .pt 1 4) rfl rfl rfl ft37_4 sz34 rfl rfl rfl ?_)
    refine opG rfl (aop_store rfl rfl rfl sz34 rfl rfl rfl rfl rfl (Nat.le_of_ble_eq_true rfl) rfl rfl ?_)
    refine op0 ?_
    refine rs_ (upd (upd (upd (upd (upd (upd none_ 1 (.pt 2 0)) 2 (.pt 3 0)) 3 (.pt 1 0)) 4 (.i (k : Int))) 5 (.q eU8 (rs.getD k []))) 6 (.q eI (walkL (mkSecs form len) (mkPts form) (((rs.getD k []).getD 0 0) % ((mkSecs form len).length : Int)) (((rs.getD k []).getD 0 0) / 128) ((rs.getD k []).drop 2) (2 + (((rs.getD k []).getD 1 0) % 5))))) (updO (updO (updO (updO (updO (updO (updO noOb 1 (.live ⟨[.one, .q eSec (mkSecs form len), .q eIL (mkParts form jn), .q ePnt (mkPts form), .sl 4 0 ((routesK (mkSecs form len) (mkPts form) rs k).length), .i (1 + speed % (2 * (10 * (1 + len % 20)))), .i (1 + mute % 1000), .i (1 + wait % 1000), .i (1 + cancel), .i (stay % 4)], 37, 1⟩)) 2 (.live ⟨[.v (.int .u8 form), .v (.int .u8 len), .v (.int .u8 speed), .v (.int .u16 mute), .v (.int .u16 wait), .v (.int .u8 cancel), .v (.int .u8 stay), .v (.int .u8 jn), .q eUL rs], 25, 1⟩)) 3 (.live ⟨[.v (.slice none 0 0), .v (.slice none 0 0), .v (.slice none 0 0), .v (.slice none 0 0), .v (.slice none 0 0), .i 0, .i 0, .i 0, .i 0, .i 0], 37, 1⟩)) 4 (.live ⟨(enc eIL (routesK (mkSecs form len) (mkPts form) rs k)), 38, 1⟩)) 4 .dead) 55 (.live ⟨(enc eIL ((routesK (mkSecs form len) (mkPts form) rs k) ++ [(walkL (mkSecs form len) (mkPts form) (((rs.getD k []).getD 0 0) % ((mkSecs form len).length : Int)) (((rs.getD k []).getD 0 0) / 128) ((rs.getD k []).drop 2) (2 + (((rs.getD k []).getD 1 0) % 5)) : (List Int))])), 38, 1⟩)) 1 (.live ⟨[.one, .q eSec (mkSecs form len), .q eIL (mkParts form jn), .q ePnt (mkPts form), .sl 55 0 (((routesK (mkSecs form len) (mkPts form) rs k) ++ [(walkL (mkSecs form len) (mkPts form) (((rs.getD k []).getD 0 0) % ((mkSecs form len).length : Int)) (((rs.getD k []).getD 0 0) / 128) ((rs.getD k []).drop 2) (2 + (((rs.getD k []).getD 1 0) % 5)) : (List Int))]).length), .i (1 + speed % (2 * (10 * (1 + len % 20)))), .i (1 + mute % 1000), .i (1 + wait % 1000), .i (1 + cancel), .i (stay % 4)], 37, 1⟩)) (lu rfl (lu rfl (lu rfl (lu rfl (lu rfl (lu rfl ln)))))) rfl ?_
    refine regR ?_
    refine opG rfl (aop_move (av := .i (k : Int)) (.inl rfl) rfl rfl rfl ?_)
    refine opG rfl (aop_binI (u := (.int .i64 ((k + 1 : Nat) : Int))) rfl rfl rfl rfl rfl trivial (addN (by omega)) ?_)
    refine opG rfl (aop_move (av := .i ((k + 1 : Nat) : Int)) (.inr rfl) rfl rfl rfl ?_)
    refine op0 ?_
    show _ ∧ _
    have hs_ := routesK_add (secs := (mkSecs form len)) (pts := (mkPts form)) (rs := rs) (k := k) hr16 hx2 (by unfold routeOf; simp at hc2; omega)
    refine ⟨by omega, trivial, ?_⟩
    exact imp_ler [(1, 1), (2, 2), (3, 3), (55, 4)] (lerL [(1, 1), (2, 2), (3, 3), (55, 4)] [((1, 1), .live ⟨[.one, .q eSec (mkSecs form len), .q eIL (mkParts form jn), .q ePnt (mkPts form), .sl 4 0 ((routesK (mkSecs form len) (mkPts form) rs (k + 1)).length), .i (1 + speed % (2 * (10 * (1 + len % 20)))), .i (1 + mute % 1000), .i (1 + wait % 1000), .i (1 + cancel), .i (stay % 4)], 37, 1⟩), ((2, 2), .live ⟨[.v (.int .u8 form), .v (.int .u8 len), .v (.int .u8 speed), .v (.int .u16 mute), .v (.int .u16 wait), .v (.int .u8 cancel), .v (.int .u8 stay), .v (.int .u8 jn), .q eUL rs], 25, 1⟩), ((3, 3), .live ⟨[.v (.slice none 0 0), .v (.slice none 0 0), .v (.slice none 0 0), .v (.slice none 0 0), .v (.slice none 0 0), .i 0, .i 0, .i 0, .i 0, .i 0], 37, 1⟩), ((55, 4), .live ⟨(enc eIL (routesK (mkSecs form len) (mkPts form) rs (k + 1))), 38, 1⟩)] rfl (by decide) (by decide) ⟨row_map (o := ⟨[.one, .q eSec (mkSecs form len), .q eIL (mkParts form jn), .q ePnt (mkPts form), .sl 55 0 (((routesK (mkSecs form len) (mkPts form) rs k) ++ [(walkL (mkSecs form len) (mkPts form) (((rs.getD k []).getD 0 0) % ((mkSecs form len).length : Int)) (((rs.getD k []).getD 0 0) / 128) ((rs.getD k []).drop 2) (2 + (((rs.getD k []).getD 1 0) % 5)) : (List Int))]).length), .i (1 + speed % (2 * (10 * (1 + len % 20)))), .i (1 + mute % 1000), .i (1 + wait % 1000), .i (1 + cancel), .i (stay % 4)], 37, 1⟩) rfl (by rw [hs_]; exact (om_ (lm_cons (am_no (a := .one)) (lm_cons (am_no (a := .q eSec (mkSecs form len))) (lm_cons (am_no (a := .q eIL (mkParts form jn))) (lm_cons (am_no (a := .q ePnt (mkPts form))) (lm_cons rfl (lm_cons (am_no (a := .i (1 + speed % (2 * (10 * (1 + len % 20)))))) (lm_cons (am_no (a := .i (1 + mute % 1000))) (lm_cons (am_no (a := .i (1 + wait % 1000))) (lm_cons (am_no (a := .i (1 + cancel))) (lm_cons (am_no (a := .i (stay % 4))) lm_nil)))))))))))) (oks_cons (ok_no (a := .one)) (oks_cons (ok_no (a := .q eSec (mkSecs form len))) (oks_cons (ok_no (a := .q eIL (mkParts form jn))) (oks_cons (ok_no (a := .q ePnt (mkPts form))) (oks_cons (.sl _ _ _ (by simp)) (oks_cons (ok_no (a := .i (1 + speed % (2 * (10 * (1 + len % 20)))))) (oks_cons (ok_no (a := .i (1 + mute % 1000))) (oks_cons (ok_no (a := .i (1 + wait % 1000))) (oks_cons (ok_no (a := .i (1 + cancel))) (oks_cons (ok_no (a := .i (stay % 4))) oks_nil)))))))))), row_no (o := ⟨[.v (.int .u8 form), .v (.int .u8 len), .v (.int .u8 speed), .v (.int .u16 mute), .v (.int .u16 wait), .v (.int .u8 cancel), .v (.int .u8 stay), .v (.int .u8 jn), .q eUL rs], 25, 1⟩) rfl rfl, row_no (o := ⟨[.v (.slice none 0 0), .v (.slice none 0 0), .v (.slice none 0 0), .v (.slice none 0 0), .v (.slice none 0 0), .i 0, .i 0, .i 0, .i 0, .i 0], 37, 1⟩) rfl rfl, row_no (o := ⟨(enc eIL ((routesK (mkSecs form len) (mkPts form) rs k) ++ [(walkL (mkSecs form len) (mkPts form) (((rs.getD k []).getD 0 0) % ((mkSecs form len).length : Int)) (((rs.getD k []).getD 0 0) / 128) ((rs.getD k []).drop 2) (2 + (((rs.getD k []).getD 1 0) % 5)) : (List Int))])), 38, 1⟩) rfl (by exact congrArg (fun l_ => LObj.mk (enc eIL l_) 38 1) hs_), trivial⟩ (sr_same 4 (.i ((k + 1) : Int)) rfl NoI.out (sr_map 3 (.pt 1 0) (by first | exact Ok.sl _ _ _ (by first | decide | simp) | exact Ok.pt _ _ (by first | decide | simp)) rfl (sr_map 2 (.pt 3 0) (by first | exact Ok.sl _ _ _ (by first | decide | simp) | exact Ok.pt _ _ (by first | decide | simp)) rfl (sr_map 1 (.pt 2 0) (by first | exact Ok.sl _ _ _ (by first | decide | simp) | exact Ok.pt _ _ (by first | decide | simp)) rfl sr_none))))) (keep_of rfl)
   ·skip
    have hf10 := of_decide_eq_false hc2
    refine awp_skip ?_
    refine regR ?_
    refine opG rfl (aop_move (av := .i (k : Int)) (.inl rfl) rfl rfl rfl ?_)
    refine opG rfl (aop_binI (u := (.int .i64 ((k + 1 : Nat) : Int))) rfl rfl rfl rfl rfl trivial (addN (by omega)) ?_)
    refine opG rfl (aop_move (av := .i ((k + 1 : Nat) : Int)) (.inr rfl) rfl rfl rfl ?_)
    refine op0 ?_
    show _ ∧ _
    have hs_ := routesK_skip (secs := (mkSecs form len)) (pts := (mkPts form)) (rs := rs) (k := k) (.inr (by unfold routeOf; simp at hc2; omega))
    refine ⟨by omega, trivial, ?_⟩
    exact imp_ler [(1, 1), (2, 2), (3, 3), (4, 4)] (lerL [(1, 1), (2, 2), (3, 3), (4, 4)] [((1, 1), .live ⟨[.one, .q eSec (mkSecs form len), .q eIL (mkParts form jn), .q ePnt (mkPts form), .sl 4 0 ((routesK (mkSecs form len) (mkPts form) rs (k + 1)).length), .i (1 + speed % (2 * (10 * (1 + len % 20)))), .i (1 + mute % 1000), .i (1 + wait % 1000), .i (1 + cancel), .i (stay % 4)], 37, 1⟩), ((2, 2), .live ⟨[.v (.int .u8 form), .v (.int .u8 len), .v (.int .u8 speed), .v (.int .u16 mute), .v (.int .u16 wait), .v (.int .u8 cancel), .v (.int .u8 stay), .v (.int .u8 jn), .q eUL rs], 25, 1⟩), ((3, 3), .live ⟨[.v (.slice none 0 0), .v (.slice none 0 0), .v (.slice none 0 0), .v (.slice none 0 0), .v (.slice none 0 0), .i 0, .i 0, .i 0, .i 0, .i 0], 37, 1⟩), ((4, 4), .live ⟨(enc eIL (routesK (mkSecs form len) (mkPts form) rs (k + 1))), 38, 1⟩)] rfl (by decide) (by decide) ⟨row_map (o := ⟨[.one, .q eSec (mkSecs form len), .q eIL (mkParts form jn), .q ePnt (mkPts form), .sl 4 0 ((routesK (mkSecs form len) (mkPts form) rs k).length), .i (1 + speed % (2 * (10 * (1 + len % 20)))), .i (1 + mute % 1000), .i (1 + wait % 1000), .i (1 + cancel), .i (stay % 4)], 37, 1⟩) rfl (by rw [hs_]; exact (om_ (lm_cons (am_no (a := .one)) (lm_cons (am_no (a := .q eSec (mkSecs form len))) (lm_cons (am_no (a := .q eIL (mkParts form jn))) (lm_cons (am_no (a := .q ePnt (mkPts form))) (lm_cons rfl (lm_cons (am_no (a := .i (1 + speed % (2 * (10 * (1 + len % 20)))))) (lm_cons (am_no (a := .i (1 + mute % 1000))) (lm_cons (am_no (a := .i (1 + wait % 1000))) (lm_cons (am_no (a := .i (1 + cancel))) (lm_cons (am_no (a := .i (stay % 4))) lm_nil)))))))))))) (oks_cons (ok_no (a := .one)) (oks_cons (ok_no (a := .q eSec (mkSecs form len))) (oks_cons (ok_no (a := .q eIL (mkParts form jn))) (oks_cons (ok_no (a := .q ePnt (mkPts form))) (oks_cons (.sl _ _ _ (by simp)) (oks_cons (ok_no (a := .i (1 + speed % (2 * (10 * (1 + len % 20)))))) (oks_cons (ok_no (a := .i (1 + mute % 1000))) (oks_cons (ok_no (a := .i (1 + wait % 1000))) (oks_cons (ok_no (a := .i (1 + cancel))) (oks_cons (ok_no (a := .i (stay % 4))) oks_nil)))))))))), row_no (o := ⟨[.v (.int .u8 form), .v (.int .u8 len), .v (.int .u8 speed), .v (.int .u16 mute), .v (.int .u16 wait), .v (.int .u8 cancel), .v (.int .u8 stay), .v (.int .u8 jn), .q eUL rs], 25, 1⟩) rfl rfl, row_no (o := ⟨[.v (.slice none 0 0), .v (.slice none 0 0), .v (.slice none 0 0), .v (.slice none 0 0), .v (.slice none 0 0), .i 0, .i 0, .i 0, .i 0, .i 0], 37, 1⟩) rfl rfl, row_no (o := ⟨(enc eIL (routesK (mkSecs form len) (mkPts form) rs k)), 38, 1⟩) rfl (by exact congrArg (fun l_ => LObj.mk (enc eIL l_) 38 1) hs_), trivial⟩ (sr_same 4 (.i ((k + 1) : Int)) rfl NoI.out (sr_map 3 (.pt 1 0) (by first | exact Ok.sl _ _ _ (by first | decide | simp) | exact Ok.pt _ _ (by first | decide | simp)) rfl (sr_map 2 (.pt 3 0) (by first | exact Ok.sl _ _ _ (by first | decide | simp) | exact Ok.pt _ _ (by first | decide | simp)) rfl (sr_map 1 (.pt 2 0) (by first | exact Ok.sl _ _ _ (by first | decide | simp) | exact Ok.pt _ _ (by first | decide | simp)) rfl sr_none))))) (keep_of rfl)
 ·skip
  have hex : (routesK (mkSecs form len) (mkPts form) rs k).length ≥ 16 ∨ rs.length ≤ k := (Nat.lt_or_ge k rs.length).elim (fun h => .inl (by simp [h] at hc0; omega)) .inr
  refine awp_exit ?_
  refine seqR ?_
  refine opG rfl (aop_ldB (cells' := [.one, .q eSec (mkSecs form len), .q eIL (mkParts form jn), .q ePnt (mkPts form), .sl 4 0 ((routesK (mkSecs form len) (mkPts form) rs k).length), .i (1 + speed % (2 * (10 * (1 + len % 20)))), .i (1 + mute % 1000), .i (1 + wait % 1000), .i (1 + cancel), .i (stay % 4)]) rfl rfl rfl ag37 sz37 rfl rfl rfl rfl ?_)
  refine opG rfl (aop_store rfl rfl rfl sz37 rfl rfl rfl rfl rfl (Nat.le_of_ble_eq_true rfl) rfl rfl ?_)
  refine op0 ?_
  refine awp_imp _ ((frz_ [3] [(3, ⟨[.one, .q eSec (mkSecs form len), .q eIL (mkParts form jn), .q ePnt (mkPts form), .q eIL (routesK (mkSecs form len) (mkPts form) rs k), .i (1 + speed % (2 * (10 * (1 + len % 20)))), .i (1 + mute % 1000), .i (1 + wait % 1000), .i (1 + cancel), .i (stay % 4)], 37, 1⟩)] rfl (fun _ h => h) ⟨keep_cells (cs := [.one, .q eSec (mkSecs form len), .q eIL (mkParts form jn), .q ePnt (mkPts form), .sl 4 0 ((routesK (mkSecs form len) (mkPts form) rs k).length), .i (1 + speed % (2 * (10 * (1 + len % 20)))), .i (1 + mute % 1000), .i (1 + wait % 1000), .i (1 + cancel), .i (stay % 4)]) (by simp) rfl rfl (frzs_cons (.inl rfl) (frzs_cons (.inl rfl) (frzs_cons (.inl rfl) (frzs_cons (.inl rfl) (frzs_cons (.inr (lend_s (id := 4) (n := (routesK (mkSecs form len) (mkPts form) rs k).length) (o := ⟨(enc eIL (routesK (mkSecs form len) (mkPts form) rs k)), 38, 1⟩) rfl (enc_len (fun _ => rfl) (by first | rfl | (simp; done))))) (frzs_cons (.inl rfl) (frzs_cons (.inl rfl) (frzs_cons (.inl rfl) (frzs_cons (.inl rfl) (frzs_cons (.inl rfl) frzs_nil)))))))))), trivial⟩ (fz_same 2 (.pt 3 0) rfl fz_none))) ?_
  refine awp_ret ?_
  exact fretC (p := 2) rfl rfl ag37 sz37 rfl rfl (Nat.le_of_ble_eq_true rfl) rfl (by rw [← fullRoutes_end (k := k) (by omega) hex]; rfl)
end Go.Lo
