/- Walks of Go functions in the logic of values. -/
import Derived.Test.YtpgbplgljfjhnaaFnLTy
import Derived.Test.YtpgbplgljfjhnaaDef
import Derived.Test.YtpgbplgljfjhnaaLay
import Derived.Test.YtpgbplgljfjhnaaGr
import Derived.Test.YtpgbplgljfjhnaaCh
import Derived.Test.YtpgbplgljfjhnaaIns
import Derived.Test.YtpgbplgljfjhnaaDr
import Derived.Test.YtpgbplgljfjhnaaSp
import Derived.Test.YtpgbplgljfjhnaaFnA
import Derived.Test.YtpgbplgljfjhnaaFnC
import Derived.Test.YtpgbplgljfjhnaaFnM
import Derived.Test.YtpgbplgljfjhnaaFnF
import Derived.Test.YtpgbplgljfjhnaaFnG
import Derived.Test.YtpgbplgljfjhnaaFnH
import Derived.Test.YtpgbplgljfjhnaaFnI
set_option linter.unusedVariables false
set_option linter.unusedSimpArgs false
namespace Go.Lo
open Go.Proofs
set_option maxRecDepth 10000 in
set_option maxHeartbeats 16000000 in
theorem l11_ChainHeard (d : Draft) (x : Spot) (hd : DraftOk d) (hx : SpotOk x) : Fn Try.prog 7 [.agg [.v (.int .u8 d.form), .v (.int .u8 d.len), .v (.int .u8 d.speed), .v (.int .u16 d.mute), .v (.int .u16 d.wait), .v (.int .u8 d.cancel), .v (.int .u8 d.stay), .v (.int .u8 d.jn), .ro d.rs.length (enc eUL d.rs)], .agg [.v (.int .u8 x.fr), .v (.int .u8 x.lg), .ro x.turns.length (enc eU8 x.turns), .v (.int .u16 x.ahd), .v (.int .u16 x.heard), .v (.int .u16 x.ticks), .v (.int .u16 x.speed), .ro x.right.length (enc eB x.right)]] (.v (.bool true)) := by
  have hd1 := hd.form
  have hd2 := hd.len
  have hd3 := hd.speed
  have hd4 := hd.mute
  have hd5 := hd.wait
  have hd6 := hd.cancel
  have hd7 := hd.stay
  have hd8 := hd.jn
  have hd9 := hd.n
  have hmx : maxLen = 9223372036854775807 := rfl
  have hx1 := hx.fr
  have hx2 := hx.lg
  have hx3 := hx.ahd
  have hx4 := hx.heard
  have hx5 := hx.ticks
  have hx6 := hx.speed
  have hx7 := hx.tl
  have hx8 := hx.rl
  refine fnE_of_body (N := 111) Try.func7 rfl rfl (resOf1 rfl) (by simp) (fun w0 X hL_ => ?_)
  refine seqR ?_
  refine opG rfl (aop_box 51 rfl rfl rfl rfl rfl rfl rfl ?_)
  refine opG rfl (aop_box 52 rfl rfl rfl rfl rfl rfl rfl ?_)
  refine opG rfl (aop_move (av := .b false) (.inr rfl) rfl rfl rfl ?_)
  refine op0 ?_
  show AWP _ _ _ _ _
  refine awp_seq ?_
  refine seqR ?_
  refine opG rfl (call_ (l11_later) rfl rfl rfl rfl rfl bd9 rfl ?_)
  refine opG rfl (aop_not rfl rfl rfl rfl ?_)
  refine opG rfl (aop_move (av := .b false) (.inl rfl) rfl rfl rfl ?_)
  refine opY rfl rfl rfl rfl (aop_ldB (cells' := [.v (.int .u8 d.form), .v (.int .u8 d.len), .v (.int .u8 d.speed), .v (.int .u16 d.mute), .v (.int .u16 d.wait), .v (.int .u8 d.cancel), .v (.int .u8 d.stay), .v (.int .u8 d.jn), .q eUL d.rs]) rfl rfl rfl ag25 sz25 rfl rfl rfl rfl ?_)
  refine opY rfl rfl rfl rfl (aop_ldB (cells' := [.v (.int .u8 x.fr), .v (.int .u8 x.lg), .q eU8 x.turns, .v (.int .u16 x.ahd), .v (.int .u16 x.heard), .v (.int .u16 x.ticks), .v (.int .u16 x.speed), .q eB x.right]) rfl rfl rfl ag29 sz29 rfl rfl rfl rfl ?_)
  refine opY rfl rfl rfl rfl (call_ (l11_small _ _ (by first | omega | (simp; done) | decide | (simp; omega) | (simp at *; omega)) (by first | omega | (simp; done) | decide | (simp; omega) | (simp at *; omega))) rfl rfl rfl rfl rfl bd10 rfl ?_)
  refine opY rfl rfl rfl rfl (aop_not rfl rfl rfl rfl ?_)
  refine opG rfl (aop_pick (b := false) (av := .b (!(littleB d x))) rfl rfl rfl rfl rfl ?_)
  refine op0 ?_
  show AWP _ _ _ _ _
  refine rs_ (upd (upd (upd (upd none_ 2 (.pt 51 0)) 3 (.pt 52 0)) 4 (.b false)) 20 (.b (!(littleB d x)))) (updO (updO noOb 51 (.live ⟨[.v (.int .u8 d.form), .v (.int .u8 d.len), .v (.int .u8 d.speed), .v (.int .u16 d.mute), .v (.int .u16 d.wait), .v (.int .u8 d.cancel), .v (.int .u8 d.stay), .v (.int .u8 d.jn), .q eUL d.rs], 25, 1⟩)) 52 (.live ⟨[.v (.int .u8 x.fr), .v (.int .u8 x.lg), .q eU8 x.turns, .v (.int .u16 x.ahd), .v (.int .u16 x.heard), .v (.int .u16 x.ticks), .v (.int .u16 x.speed), .q eB x.right], 29, 1⟩)) (lu rfl (lu rfl (lu rfl (lu rfl ln)))) rfl ?_
  refine awp_cond (!(littleB d x)) rfl rfl (fun hc0 => ?_) (fun hc0 => ?_)
  · skip
    have hf1 := not_t hc0
    refine seqR ?_
    refine opG rfl (call_ (l11_later) rfl rfl rfl rfl rfl bd9 rfl ?_)
    refine opG rfl (aop_move (av := .b true) (.inr rfl) rfl rfl rfl ?_)
    refine op0 ?_
    show AWP _ _ _ _ _
    refine awp_ret ?_
    exact fret (av := .v (.bool true)) rfl rfl rfl
  · skip
    have hf2 := not_f hc0
    have hsm : littleB d x = true := by cases h : littleB d x <;> simp [h] at hc0 ⊢
    obtain ⟨hsm1, hsm2, hsm3⟩ := little_iff hsm
    have hF := spotF (d := d) hx
    have hw1 := hF.ok.pos
    have hw2 := hF.l0
    have hw3 := hF.len
    have hw4 := hF.ah
    have hsp0 := modB (a := x.speed) (b := 10001) (by omega)
    have hel := mkEnds_len d.form
    have hsl := mkSecs_len d.form d.len
    have hpl := mkPts_len d.form
    have hk := kH_ok hw4.1 hsp0.1
    have hM1 : (x.heard - x.heard) * (x.speed % 10001) - ah d x ≤ 0 := by rw [Int.sub_self, Int.zero_mul]; omega
    have hM2 : ((x.heard + kH d x) - x.heard) * (x.speed % 10001) - ah d x ≤ 0 := by rw [show (x.heard + kH d x) - x.heard = kH d x by omega]; omega
    have e1 := heard_law (secs := (mkSecs d.form d.len)) (pts := (mkPts d.form)) (right := x.right) (dir := dr x) hM1 hw1
    have e2 := heard_law (secs := (mkSecs d.form d.len)) (pts := (mkPts d.form)) (right := x.right) (dir := dr x) hM2 hw1
    have e3 := reach_none (secs := (mkSecs d.form d.len)) (pts := (mkPts d.form)) (right := x.right) (trail := []) (dir := dr x) (m := (x.heard + 9 - x.heard) * (x.speed % 10001) - ah d x) rfl
    refine awp_skip ?_
    show AWP _ _ _ _ _
    refine seqR ?_
    refine opG rfl (aop_ldB (cells' := [.v (.int .u8 d.form), .v (.int .u8 d.len), .v (.int .u8 d.speed), .v (.int .u16 d.mute), .v (.int .u16 d.wait), .v (.int .u8 d.cancel), .v (.int .u8 d.stay), .v (.int .u8 d.jn), .q eUL d.rs]) rfl rfl rfl ag25 sz25 rfl rfl rfl rfl ?_)
    refine opG rfl (aop_ldB (cells' := [.v (.int .u8 x.fr), .v (.int .u8 x.lg), .q eU8 x.turns, .v (.int .u16 x.ahd), .v (.int .u16 x.heard), .v (.int .u16 x.ticks), .v (.int .u16 x.speed), .q eB x.right]) rfl rfl rfl ag29 sz29 rfl rfl rfl rfl ?_)
    refine opG rfl (call_ (l11_of _ _ (by first | omega | (simp; done) | decide | (simp; omega) | (simp at *; omega)) (by first | omega | (simp; done) | decide | (simp; omega) | (simp at *; omega)) (by first | omega | (simp; done) | decide | (simp; omega) | (simp at *; omega))) rfl rfl rfl rfl rfl bd11 rfl ?_)
    refine opG rfl (aop_move (av := .tup [.agg [.one, .q eSec (mkSecs d.form d.len), .q eIL (mkParts d.form d.jn), .q ePnt (mkPts d.form), .q eIL (fullRoutes d.form d.len d.rs), .i (1 + d.speed % (2 * (10 * (1 + d.len % 20)))), .i (1 + d.mute % 1000), .i (1 + d.wait % 1000), .i (1 + d.cancel), .i (d.stay % 4)], .agg [.i 4, .i x.heard, .i (-1), .i (dr x), .i (ah d x), .q eI (wk d x)], .agg [.i 4, .i x.heard, .i (-1), .i (dr x), .i (ah d x), .q eI (wk d x)], .i (x.heard + x.ticks), .i (x.speed % 10001)]) (.inl rfl) rfl rfl rfl ?_)
    refine opG rfl (aop_extract rfl rfl rfl rfl rfl ?_)
    refine opG rfl (aop_extract rfl rfl rfl rfl rfl ?_)
    refine opG rfl (aop_extract rfl rfl rfl rfl rfl ?_)
    refine opG rfl (aop_extract rfl rfl rfl rfl rfl ?_)
    refine opG rfl (aop_extract rfl rfl rfl rfl rfl ?_)
    refine opG rfl (aop_alloc 53 rfl rfl rfl rfl ze37 rfl ?_)
    refine opG rfl (aop_alloc 54 rfl rfl rfl rfl ze40 rfl ?_)
    refine opG rfl (aop_alloc 55 rfl rfl rfl rfl ze41 rfl ?_)
    refine opG rfl (aop_store rfl rfl rfl sz37 rfl rfl rfl rfl rfl (Nat.le_of_ble_eq_true rfl) rfl rfl ?_)
    refine opG rfl (aop_store rfl rfl rfl sz40 rfl rfl rfl rfl rfl (Nat.le_of_ble_eq_true rfl) rfl rfl ?_)
    refine opG rfl (aop_store rfl rfl rfl sz41 rfl rfl rfl rfl rfl (Nat.le_of_ble_eq_true rfl) rfl rfl ?_)
    refine opG rfl (aop_move (av := .i (x.heard + x.ticks)) (.inr rfl) rfl rfl rfl ?_)
    refine opG rfl (aop_move (av := .i (x.speed % 10001)) (.inr rfl) rfl rfl rfl ?_)
    refine op0 ?_
    show AWP _ _ _ _ _
    refine rs_ (upd (upd (upd (upd (upd none_ 3 (.pt 52 0)) 4 (.b false)) 5 (.pt 53 0)) 6 (.pt 54 0)) 9 (.i (x.speed % 10001))) (updO (updO (updO (updO (updO (updO (updO (updO noOb 51 (.live ⟨[.v (.int .u8 d.form), .v (.int .u8 d.len), .v (.int .u8 d.speed), .v (.int .u16 d.mute), .v (.int .u16 d.wait), .v (.int .u8 d.cancel), .v (.int .u8 d.stay), .v (.int .u8 d.jn), .q eUL d.rs], 25, 1⟩)) 52 (.live ⟨[.v (.int .u8 x.fr), .v (.int .u8 x.lg), .q eU8 x.turns, .v (.int .u16 x.ahd), .v (.int .u16 x.heard), .v (.int .u16 x.ticks), .v (.int .u16 x.speed), .q eB x.right], 29, 1⟩)) 53 (.live ⟨[.v (.slice none 0 0), .v (.slice none 0 0), .v (.slice none 0 0), .v (.slice none 0 0), .v (.slice none 0 0), .i 0, .i 0, .i 0, .i 0, .i 0], 37, 1⟩)) 54 (.live ⟨[.i 0, .i 0, .i 0, .i 0, .i 0, .v (.slice none 0 0)], 40, 1⟩)) 55 (.live ⟨[.i 0, .i 0, .i 0, .i 0, .i 0, .v (.slice none 0 0)], 41, 1⟩)) 53 (.live ⟨[.one, .q eSec (mkSecs d.form d.len), .q eIL (mkParts d.form d.jn), .q ePnt (mkPts d.form), .q eIL (fullRoutes d.form d.len d.rs), .i (1 + d.speed % (2 * (10 * (1 + d.len % 20)))), .i (1 + d.mute % 1000), .i (1 + d.wait % 1000), .i (1 + d.cancel), .i (d.stay % 4)], 37, 1⟩)) 54 (.live ⟨[.i 4, .i x.heard, .i (-1), .i (dr x), .i (ah d x), .q eI (wk d x)], 40, 1⟩)) 55 (.live ⟨[.i 4, .i x.heard, .i (-1), .i (dr x), .i (ah d x), .q eI (wk d x)], 41, 1⟩)) (lu rfl (lu rfl (lu rfl (lu rfl (lu rfl ln))))) rfl ?_
    refine seqR ?_
    refine opG rfl (aop_ldB (cells' := [.one, .q eSec (mkSecs d.form d.len), .q eIL (mkParts d.form d.jn), .q ePnt (mkPts d.form), .q eIL (fullRoutes d.form d.len d.rs), .i (1 + d.speed % (2 * (10 * (1 + d.len % 20)))), .i (1 + d.mute % 1000), .i (1 + d.wait % 1000), .i (1 + d.cancel), .i (d.stay % 4)]) rfl rfl rfl ag37 sz37 rfl rfl rfl rfl ?_)
    refine opG rfl (callW_ (g_New (mkSecs d.form d.len) (mkPts d.form)) rfl rfl rfl rfl rfl bd12 (lends_cons (lend_agg (lends_cons (lend_n (av := .one)) (lends_cons (lend_n (av := .q eSec (mkSecs d.form d.len))) (lends_cons (.one _ rfl) (lends_cons (lend_n (av := .q ePnt (mkPts d.form))) (lends_cons (.one _ rfl) (lends_cons (.one _ rfl) (lends_cons (.one _ rfl) (lends_cons (.one _ rfl) (lends_cons (.one _ rfl) (lends_cons (.one _ rfl) lends_nil))))))))))) lends_nil) ?_)
    refine opG rfl (aop_move (av := .rp [.one, .q eSec (mkSecs d.form d.len), .one, .q ePnt (mkPts d.form), .one, .one, .one, .one, .one, .one]) (.inr rfl) rfl rfl rfl ?_)
    refine op0 ?_
    show AWP _ _ _ _ _
    refine seqR ?_
    refine opG rfl (aop_move (av := .i 0) (.inr rfl) rfl rfl rfl ?_)
    refine op0 ?_
    show AWP _ _ _ _ _
    refine rs_ (upd (upd (upd (upd (upd (upd none_ 3 (.pt 52 0)) 4 (.b false)) 6 (.pt 54 0)) 9 (.i (x.speed % 10001))) 10 (.rp [.one, .q eSec (mkSecs d.form d.len), .one, .q ePnt (mkPts d.form), .one, .one, .one, .one, .one, .one])) 11 (.i 0)) (updO (updO (updO (updO (updO (updO (updO (updO noOb 51 (.live ⟨[.v (.int .u8 d.form), .v (.int .u8 d.len), .v (.int .u8 d.speed), .v (.int .u16 d.mute), .v (.int .u16 d.wait), .v (.int .u8 d.cancel), .v (.int .u8 d.stay), .v (.int .u8 d.jn), .q eUL d.rs], 25, 1⟩)) 52 (.live ⟨[.v (.int .u8 x.fr), .v (.int .u8 x.lg), .q eU8 x.turns, .v (.int .u16 x.ahd), .v (.int .u16 x.heard), .v (.int .u16 x.ticks), .v (.int .u16 x.speed), .q eB x.right], 29, 1⟩)) 53 (.live ⟨[.v (.slice none 0 0), .v (.slice none 0 0), .v (.slice none 0 0), .v (.slice none 0 0), .v (.slice none 0 0), .i 0, .i 0, .i 0, .i 0, .i 0], 37, 1⟩)) 54 (.live ⟨[.i 0, .i 0, .i 0, .i 0, .i 0, .v (.slice none 0 0)], 40, 1⟩)) 55 (.live ⟨[.i 0, .i 0, .i 0, .i 0, .i 0, .v (.slice none 0 0)], 41, 1⟩)) 53 (.live ⟨[.one, .q eSec (mkSecs d.form d.len), .q eIL (mkParts d.form d.jn), .q ePnt (mkPts d.form), .q eIL (fullRoutes d.form d.len d.rs), .i (1 + d.speed % (2 * (10 * (1 + d.len % 20)))), .i (1 + d.mute % 1000), .i (1 + d.wait % 1000), .i (1 + d.cancel), .i (d.stay % 4)], 37, 1⟩)) 54 (.live ⟨[.i 4, .i x.heard, .i (-1), .i (dr x), .i (ah d x), .q eI (wk d x)], 40, 1⟩)) 55 (.live ⟨[.i 4, .i x.heard, .i (-1), .i (dr x), .i (ah d x), .q eI (wk d x)], 41, 1⟩)) (lu rfl (lu rfl (lu rfl (lu rfl (lu rfl (lu rfl ln)))))) rfl ?_
    refine awp_seq ?_
    refine seqR ?_
    refine opG rfl (aop_move (av := .i (x.speed % 10001)) (.inl rfl) rfl rfl rfl ?_)
    refine opG rfl (aop_binI (u := (.bool (decide ((x.speed % 10001) > 0)))) rfl rfl rfl rfl rfl trivial rfl ?_)
    refine op0 ?_
    show AWP _ _ _ _ _
    refine cutG ⟨(upd (upd (upd (upd (upd (upd none_ 3 (.pt 1 0)) 4 (.b false)) 6 (.pt 2 0)) 9 (.i (x.speed % 10001))) 10 (.rp [.one, .q eSec (mkSecs d.form d.len), .one, .q ePnt (mkPts d.form), .one, .one, .one, .one, .one, .one])) 11 (.i (kH d x))), (updO (updO noOb 1 (.live ⟨[.v (.int .u8 x.fr), .v (.int .u8 x.lg), .q eU8 x.turns, .v (.int .u16 x.ahd), .v (.int .u16 x.heard), .v (.int .u16 x.ticks), .v (.int .u16 x.speed), .q eB x.right], 29, 1⟩)) 2 (.live ⟨[.i 4, .i x.heard, .i (-1), .i (dr x), .i (ah d x), .q eI (wk d x)], 40, 1⟩))⟩ (fun s h => h) ?_ ?_
    · skip
      refine awp_cond (decide ((x.speed % 10001) > 0)) rfl rfl (fun hc1 => ?_) (fun hc1 => ?_)
      · skip
        have hf3 := of_decide_eq_true hc1
        refine regR ?_
        refine opG rfl (aop_fieldAddr (av := .pt 54 0) (av' := .pt 54 4) rfl rfl rfl ft40_4 sz3 rfl rfl rfl ?_)
        refine opG rfl (aop_ld (av := .i (ah d x)) rfl rfl rfl ag3 rfl rfl ?_)
        refine opG rfl (aop_move (av := .i (x.speed % 10001)) (.inl rfl) rfl rfl rfl ?_)
        refine opG rfl (aop_binI (u := (.int .i64 (ah d x / (x.speed % 10001)))) rfl rfl rfl rfl rfl (by show _ ≠ _; omega) (divH hw4.1 (of_decide_eq_true hc1) (by omega)) ?_)
        refine opG rfl (aop_move (av := .i (ah d x / (x.speed % 10001))) (.inr rfl) rfl rfl rfl ?_)
        refine op0 ?_
        show Imp _ _ _
        exact imp_ler [(52, 1), (54, 2)] (lerJ 52 1 54 2 (by decide) (by decide) rfl rfl rfl rfl (sS (by exact congrArg (fun n_ : Int => AV.v (.int .i64 n_)) (by first | exact kH_t (of_decide_eq_true hc1) | exact kH_f (of_decide_eq_false hc1))) (sS rfl (sS rfl (sM rfl (sS rfl (sM rfl sr_none))))))) (keep_of rfl)
      · skip
        have hf4 := of_decide_eq_false hc1
        refine awp_skip ?_
        show Imp _ _ _
        exact imp_ler [(52, 1), (54, 2)] (lerJ 52 1 54 2 (by decide) (by decide) rfl rfl rfl rfl (sS (by exact congrArg (fun n_ : Int => AV.v (.int .i64 n_)) (by first | exact kH_t (of_decide_eq_true hc1) | exact kH_f (of_decide_eq_false hc1))) (sS rfl (sS rfl (sM rfl (sS rfl (sM rfl sr_none))))))) (keep_of rfl)
    show AWP _ _ _ _ _
    refine seqR ?_
    refine opG rfl (aop_ldB (cells' := [.i 4, .i x.heard, .i (-1), .i (dr x), .i (ah d x), .q eI (wk d x)]) rfl rfl rfl ag40 sz40 rfl rfl rfl rfl ?_)
    refine opG rfl (aop_alloc 56 rfl rfl rfl rfl ze40 rfl ?_)
    refine opG rfl (aop_store rfl rfl rfl sz40 rfl rfl rfl rfl rfl (Nat.le_of_ble_eq_true rfl) rfl rfl ?_)
    refine op0 ?_
    show AWP _ _ _ _ _
    refine seqR ?_
    refine opG rfl (aop_fieldAddr (av := .pt 56 0) (av' := .pt 56 5) rfl rfl rfl ft40_5 sz38 rfl rfl rfl ?_)
    refine opG rfl (aop_store rfl rfl rfl sz38 rfl rfl rfl rfl rfl (Nat.le_of_ble_eq_true rfl) rfl rfl ?_)
    refine op0 ?_
    show AWP _ _ _ _ _
    refine rs_ (upd (upd (upd (upd (upd (upd (upd none_ 3 (.pt 1 0)) 4 (.b false)) 6 (.pt 2 0)) 9 (.i (x.speed % 10001))) 10 (.rp [.one, .q eSec (mkSecs d.form d.len), .one, .q ePnt (mkPts d.form), .one, .one, .one, .one, .one, .one])) 11 (.i (kH d x))) 12 (.pt 56 0)) (updO (updO (updO (updO (updO noOb 1 (.live ⟨[.v (.int .u8 x.fr), .v (.int .u8 x.lg), .q eU8 x.turns, .v (.int .u16 x.ahd), .v (.int .u16 x.heard), .v (.int .u16 x.ticks), .v (.int .u16 x.speed), .q eB x.right], 29, 1⟩)) 2 (.live ⟨[.i 4, .i x.heard, .i (-1), .i (dr x), .i (ah d x), .q eI (wk d x)], 40, 1⟩)) 56 (.live ⟨[.i 0, .i 0, .i 0, .i 0, .i 0, .v (.slice none 0 0)], 40, 1⟩)) 56 (.live ⟨[.i 4, .i x.heard, .i (-1), .i (dr x), .i (ah d x), .q eI (wk d x)], 40, 1⟩)) 56 (.live ⟨[.i 4, .i x.heard, .i (-1), .i (dr x), .i (ah d x), .v (.slice none 0 0)], 40, 1⟩)) (lu rfl (lu rfl (lu rfl (lu rfl (lu rfl (lu rfl (lu rfl ln))))))) rfl ?_
    refine awp_seq ?_
    refine (Bool.eq_false_or_eq_true (decide (((wk d x).getD 0 0) = ((wk d x).getD 0 0) ∧ (dr x) = (dr x)))).elim (fun hg5 => ?_) (fun hg5 => ?_)
    · skip
      refine (Bool.eq_false_or_eq_true ((([] : List Int).length : Int) == 0)).elim (fun hg6 => ?_) (fun hg6 => ?_)
      · skip
        have hf7 := (beq_iff_eq).1 hg6
        refine awp_draw (m := 70) [(110, .b (decide ((-1 : Int) = (-1) ∧ (0 : Int) = 0))), (109, .b (decide ((-1 : Int) = (-1) ∧ (0 : Int) = 0))), (108, .agg [.i (-1), .i 0]), (107, .agg [.i (-1), .i 0]), (106, .q eB x.right), (105, .pt 1 7), (104, .i (x.speed % 10001)), (103, .i (x.heard + 9)), (102, .i x.heard), (101, .pt 2 1), (100, .agg [.i 4, .i x.heard, .i (-1), .i (dr x), .i (ah d x), .v (.slice none 0 0)]), (99, .rp [.one, .q eSec (mkSecs d.form d.len), .one, .q ePnt (mkPts d.form), .one, .one, .one, .one, .one, .one]), (98, .b ((([] : List Int).length : Int) == 0)), (97, .b ((([] : List Int).length : Int) == 0)), (96, .b ((([] : List Int).length : Int) == 0)), (95, .i (([] : List Int).length : Int)), (94, .q eI ([] : List Int)), (93, .q eB x.right), (92, .pt 1 7), (91, .i (x.speed % 10001)), (90, .i (x.heard + 9)), (89, .i x.heard), (88, .pt 2 1), (87, .agg [.i 4, .i x.heard, .i (-1), .i (dr x), .i (ah d x), .v (.slice none 0 0)]), (86, .rp [.one, .q eSec (mkSecs d.form d.len), .one, .q ePnt (mkPts d.form), .one, .one, .one, .one, .one, .one]), (85, .b (decide (((wk d x).getD 0 0) = ((wk d x).getD 0 0) ∧ (dr x) = (dr x)))), (84, .b (decide (((wk d x).getD 0 0) = ((wk d x).getD 0 0) ∧ (dr x) = (dr x)))), (83, .b (decide (((wk d x).getD 0 0) = ((wk d x).getD 0 0) ∧ (dr x) = (dr x)))), (82, .agg [.i ((wk d x).getD 0 0), .i (dr x)]), (81, .i (dr x)), (80, .pt 2 3), (79, .i ((wk d x).getD 0 0)), (78, .rp (([.i ((wk d x).getD 0 0)] : List AV) ++ ((enc eI (wk d x)).drop ((0 + 1) * 1)))), (77, .q eI (wk d x)), (76, .pt 2 5), (75, .agg [.i ((wk d x).getD 0 0), .i (dr x)]), (74, .q eB x.right), (73, .pt 1 7), (72, .i (x.speed % 10001)), (71, .i x.heard), (70, .pt 2 1), (69, .agg [.i 4, .i x.heard, .i (-1), .i (dr x), .i (ah d x), .q eI (wk d x)]), (68, .rp [.one, .q eSec (mkSecs d.form d.len), .one, .q ePnt (mkPts d.form), .one, .one, .one, .one, .one, .one]), (67, .b true), (66, .b true), (65, .b true), (64, .q eI (wk d x)), (63, .pt 2 5), (62, .q eI (spanF (mkSecs d.form d.len) (mkPts d.form) x.right (wk d x) (dr x) (((x.heard + (kH d x)) - x.heard) * (x.speed % 10001) - (ah d x)))), (61, .q eB x.right), (60, .pt 1 7), (59, .i (x.speed % 10001)), (58, .i (x.heard + (kH d x))), (57, .i (kH d x)), (56, .i x.heard), (55, .pt 2 1), (54, .agg [.i 4, .i x.heard, .i (-1), .i (dr x), .i (ah d x), .q eI (wk d x)]), (53, .rp [.one, .q eSec (mkSecs d.form d.len), .one, .q ePnt (mkPts d.form), .one, .one, .one, .one, .one, .one]), (52, .b true), (51, .b true), (50, .q eI (wk d x)), (49, .pt 2 5), (48, .q eI (spanF (mkSecs d.form d.len) (mkPts d.form) x.right (wk d x) (dr x) ((x.heard - x.heard) * (x.speed % 10001) - (ah d x)))), (47, .q eB x.right), (46, .pt 1 7), (45, .i (x.speed % 10001)), (44, .i x.heard), (43, .pt 2 1), (42, .agg [.i 4, .i x.heard, .i (-1), .i (dr x), .i (ah d x), .q eI (wk d x)]), (41, .rp [.one, .q eSec (mkSecs d.form d.len), .one, .q ePnt (mkPts d.form), .one, .one, .one, .one, .one, .one])] mixed (by kernel_rfl) ?_ ?_
        · refine ⟨?_, ?_, ?_, ?_, ?_, ?_, ?_, ?_, ?_, ?_, ?_, ?_, ?_, ?_, ?_, ?_, ?_, ?_, ?_, ?_, ?_, ?_, ?_, ?_, ?_, ?_, ?_, ?_, ?_, ?_, ?_, ?_, ?_, ?_, ?_, ?_, ?_, ?_, ?_, ?_, ?_, ?_, ?_, ?_, ?_, ?_, ?_, ?_, ?_, ?_, ?_, ?_, ?_, ?_, ?_, ?_, ?_, ?_, ?_, ?_, ?_, ?_, ?_, ?_, ?_, ?_, ?_, ?_, ?_, ?_, trivial⟩
          · exact ⟨41, rfl, blt_lt rfl, fun st hob hE => aop_move (av := .rp [.one, .q eSec (mkSecs d.form d.len), .one, .q ePnt (mkPts d.form), .one, .one, .one, .one, .one, .one]) (.inl rfl) rfl rfl (hE 10 rfl) (by rw [hob]; rfl)⟩
          · exact ⟨42, rfl, blt_lt rfl, fun st hob hE => aop_ldB (cells' := [.i 4, .i x.heard, .i (-1), .i (dr x), .i (ah d x), .q eI (wk d x)]) rfl rfl rfl ag40 sz40 (hE 6 rfl) (by rw [hob]; rfl) rfl rfl (by rw [hob]; rfl)⟩
          · exact ⟨43, rfl, blt_lt rfl, fun st hob hE => aop_fieldAddr (av := .pt 2 0) (av' := .pt 2 1) rfl rfl rfl ft40_1 sz2 (hE 6 rfl) rfl rfl (by rw [hob]; rfl)⟩
          · exact ⟨44, rfl, blt_lt rfl, fun st hob hE => aop_ld (av := .i x.heard) rfl rfl rfl ag2 (hE 43 rfl) (by rw [hob]; rfl) (by rw [hob]; rfl)⟩
          · exact ⟨45, rfl, blt_lt rfl, fun st hob hE => aop_move (av := .i (x.speed % 10001)) (.inl rfl) rfl rfl (hE 9 rfl) (by rw [hob]; rfl)⟩
          · exact ⟨46, rfl, blt_lt rfl, fun st hob hE => aop_fieldAddr (av := .pt 1 0) (av' := .pt 1 7) rfl rfl rfl ft29_7 sz27 (hE 3 rfl) rfl rfl (by rw [hob]; rfl)⟩
          · exact ⟨47, rfl, blt_lt rfl, fun st hob hE => aop_ld (av := .q eB x.right) rfl rfl rfl ag27 (hE 46 rfl) (by rw [hob]; rfl) (by rw [hob]; rfl)⟩
          · exact ⟨48, rfl, blt_lt rfl, fun st hob hE => callW_ (c_Span (mkSecs d.form d.len) (mkPts d.form) x.right (wk d x) x.heard x.heard (x.speed % 10001) (dr x) (ah d x) (by omega) (by omega) (by omega) (by omega) (mkSecs_lenB _ _) (by omega) (by omega) (by omega) (by omega)) rfl rfl rfl rfl rfl bd13 (by show Lends _ ([st.env 41, st.env 42, st.env 44, st.env 45, st.env 47] ++ _) _; rw [hE 41 rfl, hE 42 rfl, hE 44 rfl, hE 45 rfl, hE 47 rfl]; exact (lends_cons (lend_n (av := .rp [.one, .q eSec (mkSecs d.form d.len), .one, .q ePnt (mkPts d.form), .one, .one, .one, .one, .one, .one])) (lends_cons (lend_agg (lends_cons (.one _ rfl) (lends_cons (lend_n (av := .i x.heard)) (lends_cons (.one _ rfl) (lends_cons (lend_n (av := .i (dr x))) (lends_cons (lend_n (av := .i (ah d x))) (lends_cons (lend_n (av := .q eI (wk d x))) lends_nil))))))) (lends_cons (lend_n (av := .i x.heard)) (lends_cons (lend_n (av := .i (x.speed % 10001))) (lends_cons (lend_n (av := .q eB x.right)) lends_nil)))))) (by rw [hob]; rfl)⟩
          · exact ⟨49, rfl, blt_lt rfl, fun st hob hE => aop_fieldAddr (av := .pt 2 0) (av' := .pt 2 5) rfl rfl rfl ft40_5 sz38 (hE 6 rfl) rfl rfl (by rw [hob]; rfl)⟩
          · exact ⟨50, rfl, blt_lt rfl, fun st hob hE => aop_ld (av := .q eI (wk d x)) rfl rfl rfl ag38 (hE 49 rfl) (by rw [hob]; rfl) (by rw [hob]; rfl)⟩
          · exact ⟨51, rfl, blt_lt rfl, fun st hob hE => call_ (show Fn Try.prog 14 [.q eI (spanF (mkSecs d.form d.len) (mkPts d.form) x.right (wk d x) (dr x) ((x.heard - x.heard) * (x.speed % 10001) - (ah d x))), .q eI (wk d x)] (.b true) from (by have h_ := r01_Ints (spanF (mkSecs d.form d.len) (mkPts d.form) x.right (wk d x) (dr x) ((x.heard - x.heard) * (x.speed % 10001) - ah d x)) (wk d x) (by rw [e1.1]; omega); rw [decide_eq_true (e1.1)] at h_; exact h_)) rfl rfl rfl rfl rfl bd14 (by show [st.env 48, st.env 50] ++ _ = _; rw [hE 48 rfl, hE 50 rfl]; rfl) (by rw [hob]; rfl)⟩
          · exact ⟨52, rfl, blt_lt rfl, fun st hob hE => aop_move (av := .b true) (.inl rfl) rfl rfl (hE 51 rfl) (by rw [hob]; rfl)⟩
          · exact ⟨52, .bool true, rfl, blt_lt rfl, rfl, (fun _ => ⟨53, rfl, blt_lt rfl, fun st hob hE => aop_move (av := .rp [.one, .q eSec (mkSecs d.form d.len), .one, .q ePnt (mkPts d.form), .one, .one, .one, .one, .one, .one]) (.inl rfl) rfl rfl (hE 10 rfl) (by rw [hob]; rfl)⟩), (fun h => absurd rfl h)⟩
          · exact ⟨52, .bool true, rfl, blt_lt rfl, rfl, (fun _ => ⟨54, rfl, blt_lt rfl, fun st hob hE => aop_ldB (cells' := [.i 4, .i x.heard, .i (-1), .i (dr x), .i (ah d x), .q eI (wk d x)]) rfl rfl rfl ag40 sz40 (hE 6 rfl) (by rw [hob]; rfl) rfl rfl (by rw [hob]; rfl)⟩), (fun h => absurd rfl h)⟩
          · exact ⟨52, .bool true, rfl, blt_lt rfl, rfl, (fun _ => ⟨55, rfl, blt_lt rfl, fun st hob hE => aop_fieldAddr (av := .pt 2 0) (av' := .pt 2 1) rfl rfl rfl ft40_1 sz2 (hE 6 rfl) rfl rfl (by rw [hob]; rfl)⟩), (fun h => absurd rfl h)⟩
          · exact ⟨52, .bool true, rfl, blt_lt rfl, rfl, (fun _ => ⟨56, rfl, blt_lt rfl, fun st hob hE => aop_ld (av := .i x.heard) rfl rfl rfl ag2 (hE 55 rfl) (by rw [hob]; rfl) (by rw [hob]; rfl)⟩), (fun h => absurd rfl h)⟩
          · exact ⟨52, .bool true, rfl, blt_lt rfl, rfl, (fun _ => ⟨57, rfl, blt_lt rfl, fun st hob hE => aop_move (av := .i (kH d x)) (.inl rfl) rfl rfl (hE 11 rfl) (by rw [hob]; rfl)⟩), (fun h => absurd rfl h)⟩
          · exact ⟨52, .bool true, rfl, blt_lt rfl, rfl, (fun _ => ⟨58, rfl, blt_lt rfl, fun st hob hE => aop_binI (u := (.int .i64 (x.heard + (kH d x)))) rfl rfl rfl (hE 56 rfl) (hE 57 rfl) trivial (addI (by omega)) (by rw [hob]; rfl)⟩), (fun h => absurd rfl h)⟩
          · exact ⟨52, .bool true, rfl, blt_lt rfl, rfl, (fun _ => ⟨59, rfl, blt_lt rfl, fun st hob hE => aop_move (av := .i (x.speed % 10001)) (.inl rfl) rfl rfl (hE 9 rfl) (by rw [hob]; rfl)⟩), (fun h => absurd rfl h)⟩
          · exact ⟨52, .bool true, rfl, blt_lt rfl, rfl, (fun _ => ⟨60, rfl, blt_lt rfl, fun st hob hE => aop_fieldAddr (av := .pt 1 0) (av' := .pt 1 7) rfl rfl rfl ft29_7 sz27 (hE 3 rfl) rfl rfl (by rw [hob]; rfl)⟩), (fun h => absurd rfl h)⟩
          · exact ⟨52, .bool true, rfl, blt_lt rfl, rfl, (fun _ => ⟨61, rfl, blt_lt rfl, fun st hob hE => aop_ld (av := .q eB x.right) rfl rfl rfl ag27 (hE 60 rfl) (by rw [hob]; rfl) (by rw [hob]; rfl)⟩), (fun h => absurd rfl h)⟩
          · exact ⟨52, .bool true, rfl, blt_lt rfl, rfl, (fun _ => ⟨62, rfl, blt_lt rfl, fun st hob hE => callW_ (c_Span (mkSecs d.form d.len) (mkPts d.form) x.right (wk d x) (x.heard + kH d x) x.heard (x.speed % 10001) (dr x) (ah d x) (by omega) (by omega) (by omega) (by omega) (mkSecs_lenB _ _) (by omega) (by omega) (by omega) (by omega)) rfl rfl rfl rfl rfl bd13 (by show Lends _ ([st.env 53, st.env 54, st.env 58, st.env 59, st.env 61] ++ _) _; rw [hE 53 rfl, hE 54 rfl, hE 58 rfl, hE 59 rfl, hE 61 rfl]; exact (lends_cons (lend_n (av := .rp [.one, .q eSec (mkSecs d.form d.len), .one, .q ePnt (mkPts d.form), .one, .one, .one, .one, .one, .one])) (lends_cons (lend_agg (lends_cons (.one _ rfl) (lends_cons (lend_n (av := .i x.heard)) (lends_cons (.one _ rfl) (lends_cons (lend_n (av := .i (dr x))) (lends_cons (lend_n (av := .i (ah d x))) (lends_cons (lend_n (av := .q eI (wk d x))) lends_nil))))))) (lends_cons (lend_n (av := .i (x.heard + (kH d x)))) (lends_cons (lend_n (av := .i (x.speed % 10001))) (lends_cons (lend_n (av := .q eB x.right)) lends_nil)))))) (by rw [hob]; rfl)⟩), (fun h => absurd rfl h)⟩
          · exact ⟨52, .bool true, rfl, blt_lt rfl, rfl, (fun _ => ⟨63, rfl, blt_lt rfl, fun st hob hE => aop_fieldAddr (av := .pt 2 0) (av' := .pt 2 5) rfl rfl rfl ft40_5 sz38 (hE 6 rfl) rfl rfl (by rw [hob]; rfl)⟩), (fun h => absurd rfl h)⟩
          · exact ⟨52, .bool true, rfl, blt_lt rfl, rfl, (fun _ => ⟨64, rfl, blt_lt rfl, fun st hob hE => aop_ld (av := .q eI (wk d x)) rfl rfl rfl ag38 (hE 63 rfl) (by rw [hob]; rfl) (by rw [hob]; rfl)⟩), (fun h => absurd rfl h)⟩
          · exact ⟨52, .bool true, rfl, blt_lt rfl, rfl, (fun _ => ⟨65, rfl, blt_lt rfl, fun st hob hE => call_ (show Fn Try.prog 14 [.q eI (spanF (mkSecs d.form d.len) (mkPts d.form) x.right (wk d x) (dr x) (((x.heard + (kH d x)) - x.heard) * (x.speed % 10001) - (ah d x))), .q eI (wk d x)] (.b true) from (by have h_ := r01_Ints (spanF (mkSecs d.form d.len) (mkPts d.form) x.right (wk d x) (dr x) (((x.heard + kH d x) - x.heard) * (x.speed % 10001) - ah d x)) (wk d x) (by rw [e2.1]; omega); rw [decide_eq_true (e2.1)] at h_; exact h_)) rfl rfl rfl rfl rfl bd14 (by show [st.env 62, st.env 64] ++ _ = _; rw [hE 62 rfl, hE 64 rfl]; rfl) (by rw [hob]; rfl)⟩), (fun h => absurd rfl h)⟩
          · exact ⟨66, rfl, blt_lt rfl, fun st hob hE => aop_pick (b := true) (av := .b true) rfl rfl rfl (hE 52 rfl) (hE 65 rfl) (by rw [hob]; rfl)⟩
          · exact ⟨67, rfl, blt_lt rfl, fun st hob hE => aop_move (av := .b true) (.inl rfl) rfl rfl (hE 66 rfl) (by rw [hob]; rfl)⟩
          · exact ⟨67, .bool true, rfl, blt_lt rfl, rfl, (fun _ => ⟨68, rfl, blt_lt rfl, fun st hob hE => aop_move (av := .rp [.one, .q eSec (mkSecs d.form d.len), .one, .q ePnt (mkPts d.form), .one, .one, .one, .one, .one, .one]) (.inl rfl) rfl rfl (hE 10 rfl) (by rw [hob]; rfl)⟩), (fun h => absurd rfl h)⟩
          · exact ⟨67, .bool true, rfl, blt_lt rfl, rfl, (fun _ => ⟨69, rfl, blt_lt rfl, fun st hob hE => aop_ldB (cells' := [.i 4, .i x.heard, .i (-1), .i (dr x), .i (ah d x), .q eI (wk d x)]) rfl rfl rfl ag40 sz40 (hE 6 rfl) (by rw [hob]; rfl) rfl rfl (by rw [hob]; rfl)⟩), (fun h => absurd rfl h)⟩
          · exact ⟨67, .bool true, rfl, blt_lt rfl, rfl, (fun _ => ⟨70, rfl, blt_lt rfl, fun st hob hE => aop_fieldAddr (av := .pt 2 0) (av' := .pt 2 1) rfl rfl rfl ft40_1 sz2 (hE 6 rfl) rfl rfl (by rw [hob]; rfl)⟩), (fun h => absurd rfl h)⟩
          · exact ⟨67, .bool true, rfl, blt_lt rfl, rfl, (fun _ => ⟨71, rfl, blt_lt rfl, fun st hob hE => aop_ld (av := .i x.heard) rfl rfl rfl ag2 (hE 70 rfl) (by rw [hob]; rfl) (by rw [hob]; rfl)⟩), (fun h => absurd rfl h)⟩
          · exact ⟨67, .bool true, rfl, blt_lt rfl, rfl, (fun _ => ⟨72, rfl, blt_lt rfl, fun st hob hE => aop_move (av := .i (x.speed % 10001)) (.inl rfl) rfl rfl (hE 9 rfl) (by rw [hob]; rfl)⟩), (fun h => absurd rfl h)⟩
          · exact ⟨67, .bool true, rfl, blt_lt rfl, rfl, (fun _ => ⟨73, rfl, blt_lt rfl, fun st hob hE => aop_fieldAddr (av := .pt 1 0) (av' := .pt 1 7) rfl rfl rfl ft29_7 sz27 (hE 3 rfl) rfl rfl (by rw [hob]; rfl)⟩), (fun h => absurd rfl h)⟩
          · exact ⟨67, .bool true, rfl, blt_lt rfl, rfl, (fun _ => ⟨74, rfl, blt_lt rfl, fun st hob hE => aop_ld (av := .q eB x.right) rfl rfl rfl ag27 (hE 73 rfl) (by rw [hob]; rfl) (by rw [hob]; rfl)⟩), (fun h => absurd rfl h)⟩
          · exact ⟨67, .bool true, rfl, blt_lt rfl, rfl, (fun _ => ⟨75, rfl, blt_lt rfl, fun st hob hE => callW_ (show Fn Try.prog 21 [.rp [.one, .q eSec (mkSecs d.form d.len), .one, .q ePnt (mkPts d.form), .one, .one, .one, .one, .one, .one], .agg [.one, .i x.heard, .one, .i (dr x), .i (ah d x), .q eI (wk d x)], .i x.heard, .i (x.speed % 10001), .q eB x.right] (.agg [.i ((wk d x).getD 0 0), .i (dr x)]) from (by have h_ := (c_Front (mkSecs d.form d.len) (mkPts d.form) x.right (wk d x) x.heard x.heard (x.speed % 10001) (dr x) (ah d x) (by omega) (by omega) (by omega) (by omega) (mkSecs_lenB _ _) (by omega) (by omega) (by omega) (by omega)); rw [e1.2.1, e1.2.2] at h_; exact h_)) rfl rfl rfl rfl rfl bd21 (by show Lends _ ([st.env 68, st.env 69, st.env 71, st.env 72, st.env 74] ++ _) _; rw [hE 68 rfl, hE 69 rfl, hE 71 rfl, hE 72 rfl, hE 74 rfl]; exact (lends_cons (lend_n (av := .rp [.one, .q eSec (mkSecs d.form d.len), .one, .q ePnt (mkPts d.form), .one, .one, .one, .one, .one, .one])) (lends_cons (lend_agg (lends_cons (.one _ rfl) (lends_cons (lend_n (av := .i x.heard)) (lends_cons (.one _ rfl) (lends_cons (lend_n (av := .i (dr x))) (lends_cons (lend_n (av := .i (ah d x))) (lends_cons (lend_n (av := .q eI (wk d x))) lends_nil))))))) (lends_cons (lend_n (av := .i x.heard)) (lends_cons (lend_n (av := .i (x.speed % 10001))) (lends_cons (lend_n (av := .q eB x.right)) lends_nil)))))) (by rw [hob]; rfl)⟩), (fun h => absurd rfl h)⟩
          · exact ⟨67, .bool true, rfl, blt_lt rfl, rfl, (fun _ => ⟨76, rfl, blt_lt rfl, fun st hob hE => aop_fieldAddr (av := .pt 2 0) (av' := .pt 2 5) rfl rfl rfl ft40_5 sz38 (hE 6 rfl) rfl rfl (by rw [hob]; rfl)⟩), (fun h => absurd rfl h)⟩
          · exact ⟨67, .bool true, rfl, blt_lt rfl, rfl, (fun _ => ⟨77, rfl, blt_lt rfl, fun st hob hE => aop_ld (av := .q eI (wk d x)) rfl rfl rfl ag38 (hE 76 rfl) (by rw [hob]; rfl) (by rw [hob]; rfl)⟩), (fun h => absurd rfl h)⟩
          · exact ⟨67, .bool true, rfl, blt_lt rfl, rfl, (fun _ => ⟨78, rfl, blt_lt rfl, fun st hob hE => aop_ixE (k := 0) 0 rfl rfl rfl ut38 sz3 (hE 77 rfl) rfl (fun _ => rfl) rfl (by first | omega | (simp; done) | decide | (simp; omega) | (simp at *; omega)) (by rw [hob]; rfl)⟩), (fun h => absurd rfl h)⟩
          · exact ⟨67, .bool true, rfl, blt_lt rfl, rfl, (fun _ => ⟨79, rfl, blt_lt rfl, fun st hob hE => aop_ld (av := .i ((wk d x).getD 0 0)) rfl rfl rfl ag3 (hE 78 rfl) rfl (by rw [hob]; rfl)⟩), (fun h => absurd rfl h)⟩
          · exact ⟨67, .bool true, rfl, blt_lt rfl, rfl, (fun _ => ⟨80, rfl, blt_lt rfl, fun st hob hE => aop_fieldAddr (av := .pt 2 0) (av' := .pt 2 3) rfl rfl rfl ft40_3 sz3 (hE 6 rfl) rfl rfl (by rw [hob]; rfl)⟩), (fun h => absurd rfl h)⟩
          · exact ⟨67, .bool true, rfl, blt_lt rfl, rfl, (fun _ => ⟨81, rfl, blt_lt rfl, fun st hob hE => aop_ld (av := .i (dr x)) rfl rfl rfl ag3 (hE 80 rfl) (by rw [hob]; rfl) (by rw [hob]; rfl)⟩), (fun h => absurd rfl h)⟩
          · exact ⟨67, .bool true, rfl, blt_lt rfl, rfl, (fun _ => ⟨82, rfl, blt_lt rfl, fun st hob hE => aop_build rfl rfl rfl pl51 (by simp only [partsA, List.map, evA, hE 79 rfl, hE 81 rfl]; rfl) (by rw [hob]; rfl)⟩), (fun h => absurd rfl h)⟩
          · exact ⟨67, .bool true, rfl, blt_lt rfl, rfl, (fun _ => ⟨83, rfl, blt_lt rfl, fun st hob hE => aop_eqS2 (r := (decide (((wk d x).getD 0 0) = ((wk d x).getD 0 0) ∧ (dr x) = (dr x)))) rfl rfl rfl (hE 75 rfl) (hE 82 rfl) es51 ut3 ut3 ag3 ag3 (.inl ⟨rfl, rfl⟩) (by rw [hob]; rfl)⟩), (fun h => absurd rfl h)⟩
          · exact ⟨84, rfl, blt_lt rfl, fun st hob hE => aop_pick (b := true) (av := .b (decide (((wk d x).getD 0 0) = ((wk d x).getD 0 0) ∧ (dr x) = (dr x)))) rfl rfl rfl (hE 67 rfl) (hE 83 rfl) (by rw [hob]; rfl)⟩
          · exact ⟨85, rfl, blt_lt rfl, fun st hob hE => aop_move (av := .b (decide (((wk d x).getD 0 0) = ((wk d x).getD 0 0) ∧ (dr x) = (dr x)))) (.inl rfl) rfl rfl (hE 84 rfl) (by rw [hob]; rfl)⟩
          · exact ⟨85, .bool (decide (((wk d x).getD 0 0) = ((wk d x).getD 0 0) ∧ (dr x) = (dr x))), rfl, blt_lt rfl, rfl, (fun _ => ⟨86, rfl, blt_lt rfl, fun st hob hE => aop_move (av := .rp [.one, .q eSec (mkSecs d.form d.len), .one, .q ePnt (mkPts d.form), .one, .one, .one, .one, .one, .one]) (.inl rfl) rfl rfl (hE 10 rfl) (by rw [hob]; rfl)⟩), (fun h => absurd (show yv (.bool (decide (((wk d x).getD 0 0) = ((wk d x).getD 0 0) ∧ (dr x) = (dr x)))) = _ by rw [hg5]; rfl) h)⟩
          · exact ⟨85, .bool (decide (((wk d x).getD 0 0) = ((wk d x).getD 0 0) ∧ (dr x) = (dr x))), rfl, blt_lt rfl, rfl, (fun _ => ⟨87, rfl, blt_lt rfl, fun st hob hE => aop_ldB (cells' := [.i 4, .i x.heard, .i (-1), .i (dr x), .i (ah d x), .v (.slice none 0 0)]) rfl rfl rfl ag40 sz40 (hE 12 rfl) (by rw [hob]; rfl) rfl rfl (by rw [hob]; rfl)⟩), (fun h => absurd (show yv (.bool (decide (((wk d x).getD 0 0) = ((wk d x).getD 0 0) ∧ (dr x) = (dr x)))) = _ by rw [hg5]; rfl) h)⟩
          · exact ⟨85, .bool (decide (((wk d x).getD 0 0) = ((wk d x).getD 0 0) ∧ (dr x) = (dr x))), rfl, blt_lt rfl, rfl, (fun _ => ⟨88, rfl, blt_lt rfl, fun st hob hE => aop_fieldAddr (av := .pt 2 0) (av' := .pt 2 1) rfl rfl rfl ft40_1 sz2 (hE 6 rfl) rfl rfl (by rw [hob]; rfl)⟩), (fun h => absurd (show yv (.bool (decide (((wk d x).getD 0 0) = ((wk d x).getD 0 0) ∧ (dr x) = (dr x)))) = _ by rw [hg5]; rfl) h)⟩
          · exact ⟨85, .bool (decide (((wk d x).getD 0 0) = ((wk d x).getD 0 0) ∧ (dr x) = (dr x))), rfl, blt_lt rfl, rfl, (fun _ => ⟨89, rfl, blt_lt rfl, fun st hob hE => aop_ld (av := .i x.heard) rfl rfl rfl ag2 (hE 88 rfl) (by rw [hob]; rfl) (by rw [hob]; rfl)⟩), (fun h => absurd (show yv (.bool (decide (((wk d x).getD 0 0) = ((wk d x).getD 0 0) ∧ (dr x) = (dr x)))) = _ by rw [hg5]; rfl) h)⟩
          · exact ⟨85, .bool (decide (((wk d x).getD 0 0) = ((wk d x).getD 0 0) ∧ (dr x) = (dr x))), rfl, blt_lt rfl, rfl, (fun _ => ⟨90, rfl, blt_lt rfl, fun st hob hE => aop_binI (u := (.int .i64 (x.heard + 9))) rfl rfl rfl (hE 89 rfl) rfl trivial (addI (by omega)) (by rw [hob]; rfl)⟩), (fun h => absurd (show yv (.bool (decide (((wk d x).getD 0 0) = ((wk d x).getD 0 0) ∧ (dr x) = (dr x)))) = _ by rw [hg5]; rfl) h)⟩
          · exact ⟨85, .bool (decide (((wk d x).getD 0 0) = ((wk d x).getD 0 0) ∧ (dr x) = (dr x))), rfl, blt_lt rfl, rfl, (fun _ => ⟨91, rfl, blt_lt rfl, fun st hob hE => aop_move (av := .i (x.speed % 10001)) (.inl rfl) rfl rfl (hE 9 rfl) (by rw [hob]; rfl)⟩), (fun h => absurd (show yv (.bool (decide (((wk d x).getD 0 0) = ((wk d x).getD 0 0) ∧ (dr x) = (dr x)))) = _ by rw [hg5]; rfl) h)⟩
          · exact ⟨85, .bool (decide (((wk d x).getD 0 0) = ((wk d x).getD 0 0) ∧ (dr x) = (dr x))), rfl, blt_lt rfl, rfl, (fun _ => ⟨92, rfl, blt_lt rfl, fun st hob hE => aop_fieldAddr (av := .pt 1 0) (av' := .pt 1 7) rfl rfl rfl ft29_7 sz27 (hE 3 rfl) rfl rfl (by rw [hob]; rfl)⟩), (fun h => absurd (show yv (.bool (decide (((wk d x).getD 0 0) = ((wk d x).getD 0 0) ∧ (dr x) = (dr x)))) = _ by rw [hg5]; rfl) h)⟩
          · exact ⟨85, .bool (decide (((wk d x).getD 0 0) = ((wk d x).getD 0 0) ∧ (dr x) = (dr x))), rfl, blt_lt rfl, rfl, (fun _ => ⟨93, rfl, blt_lt rfl, fun st hob hE => aop_ld (av := .q eB x.right) rfl rfl rfl ag27 (hE 92 rfl) (by rw [hob]; rfl) (by rw [hob]; rfl)⟩), (fun h => absurd (show yv (.bool (decide (((wk d x).getD 0 0) = ((wk d x).getD 0 0) ∧ (dr x) = (dr x)))) = _ by rw [hg5]; rfl) h)⟩
          · exact ⟨85, .bool (decide (((wk d x).getD 0 0) = ((wk d x).getD 0 0) ∧ (dr x) = (dr x))), rfl, blt_lt rfl, rfl, (fun _ => ⟨94, rfl, blt_lt rfl, fun st hob hE => callW_ (show Fn Try.prog 13 [.rp [.one, .q eSec (mkSecs d.form d.len), .one, .q ePnt (mkPts d.form), .one, .one, .one, .one, .one, .one], .agg [.one, .i x.heard, .one, .i (dr x), .i (ah d x), .q eI ([] : List Int)], .i (x.heard + 9), .i (x.speed % 10001), .q eB x.right] (.q eI ([] : List Int)) from (by have h_ := (c_Span (mkSecs d.form d.len) (mkPts d.form) x.right ([] : List Int) (x.heard + 9) x.heard (x.speed % 10001) (dr x) (ah d x) (by omega) (by omega) (by omega) (by decide) (mkSecs_lenB _ _) (by omega) (by omega) (by omega) (by omega)); rw [e3.1] at h_; exact h_)) rfl rfl rfl rfl rfl bd13 (by show Lends _ ([st.env 86, st.env 87, st.env 90, st.env 91, st.env 93] ++ _) _; rw [hE 86 rfl, hE 87 rfl, hE 90 rfl, hE 91 rfl, hE 93 rfl]; exact (lends_cons (lend_n (av := .rp [.one, .q eSec (mkSecs d.form d.len), .one, .q ePnt (mkPts d.form), .one, .one, .one, .one, .one, .one])) (lends_cons (lend_agg (lends_cons (.one _ rfl) (lends_cons (lend_n (av := .i x.heard)) (lends_cons (.one _ rfl) (lends_cons (lend_n (av := .i (dr x))) (lends_cons (lend_n (av := .i (ah d x))) (lends_cons .nil lends_nil))))))) (lends_cons (lend_n (av := .i (x.heard + 9))) (lends_cons (lend_n (av := .i (x.speed % 10001))) (lends_cons (lend_n (av := .q eB x.right)) lends_nil)))))) (by rw [hob]; rfl)⟩), (fun h => absurd (show yv (.bool (decide (((wk d x).getD 0 0) = ((wk d x).getD 0 0) ∧ (dr x) = (dr x)))) = _ by rw [hg5]; rfl) h)⟩
          · exact ⟨85, .bool (decide (((wk d x).getD 0 0) = ((wk d x).getD 0 0) ∧ (dr x) = (dr x))), rfl, blt_lt rfl, rfl, (fun _ => ⟨95, rfl, blt_lt rfl, fun st hob hE => aop_len rfl rfl rfl rfl ut38 (len_ro (hE 94 rfl)) (by rw [hob]; rfl)⟩), (fun h => absurd (show yv (.bool (decide (((wk d x).getD 0 0) = ((wk d x).getD 0 0) ∧ (dr x) = (dr x)))) = _ by rw [hg5]; rfl) h)⟩
          · exact ⟨85, .bool (decide (((wk d x).getD 0 0) = ((wk d x).getD 0 0) ∧ (dr x) = (dr x))), rfl, blt_lt rfl, rfl, (fun _ => ⟨96, rfl, blt_lt rfl, fun st hob hE => aop_binI (u := (.bool ((([] : List Int).length : Int) == 0))) rfl rfl rfl (hE 95 rfl) rfl trivial rfl (by rw [hob]; rfl)⟩), (fun h => absurd (show yv (.bool (decide (((wk d x).getD 0 0) = ((wk d x).getD 0 0) ∧ (dr x) = (dr x)))) = _ by rw [hg5]; rfl) h)⟩
          · exact ⟨97, rfl, blt_lt rfl, fun st hob hE => aop_pick (b := (decide (((wk d x).getD 0 0) = ((wk d x).getD 0 0) ∧ (dr x) = (dr x)))) (av := .b ((([] : List Int).length : Int) == 0)) rfl rfl rfl (hE 85 rfl) (by rw [hg5]; exact hE 96 rfl) (by rw [hob]; rfl)⟩
          · exact ⟨98, rfl, blt_lt rfl, fun st hob hE => aop_move (av := .b ((([] : List Int).length : Int) == 0)) (.inl rfl) rfl rfl (hE 97 rfl) (by rw [hob]; rfl)⟩
          · exact ⟨98, .bool ((([] : List Int).length : Int) == 0), rfl, blt_lt rfl, rfl, (fun _ => ⟨99, rfl, blt_lt rfl, fun st hob hE => aop_move (av := .rp [.one, .q eSec (mkSecs d.form d.len), .one, .q ePnt (mkPts d.form), .one, .one, .one, .one, .one, .one]) (.inl rfl) rfl rfl (hE 10 rfl) (by rw [hob]; rfl)⟩), (fun h => absurd (show yv (.bool ((([] : List Int).length : Int) == 0)) = _ by rw [hg6]; rfl) h)⟩
          · exact ⟨98, .bool ((([] : List Int).length : Int) == 0), rfl, blt_lt rfl, rfl, (fun _ => ⟨100, rfl, blt_lt rfl, fun st hob hE => aop_ldB (cells' := [.i 4, .i x.heard, .i (-1), .i (dr x), .i (ah d x), .v (.slice none 0 0)]) rfl rfl rfl ag40 sz40 (hE 12 rfl) (by rw [hob]; rfl) rfl rfl (by rw [hob]; rfl)⟩), (fun h => absurd (show yv (.bool ((([] : List Int).length : Int) == 0)) = _ by rw [hg6]; rfl) h)⟩
          · exact ⟨98, .bool ((([] : List Int).length : Int) == 0), rfl, blt_lt rfl, rfl, (fun _ => ⟨101, rfl, blt_lt rfl, fun st hob hE => aop_fieldAddr (av := .pt 2 0) (av' := .pt 2 1) rfl rfl rfl ft40_1 sz2 (hE 6 rfl) rfl rfl (by rw [hob]; rfl)⟩), (fun h => absurd (show yv (.bool ((([] : List Int).length : Int) == 0)) = _ by rw [hg6]; rfl) h)⟩
          · exact ⟨98, .bool ((([] : List Int).length : Int) == 0), rfl, blt_lt rfl, rfl, (fun _ => ⟨102, rfl, blt_lt rfl, fun st hob hE => aop_ld (av := .i x.heard) rfl rfl rfl ag2 (hE 101 rfl) (by rw [hob]; rfl) (by rw [hob]; rfl)⟩), (fun h => absurd (show yv (.bool ((([] : List Int).length : Int) == 0)) = _ by rw [hg6]; rfl) h)⟩
          · exact ⟨98, .bool ((([] : List Int).length : Int) == 0), rfl, blt_lt rfl, rfl, (fun _ => ⟨103, rfl, blt_lt rfl, fun st hob hE => aop_binI (u := (.int .i64 (x.heard + 9))) rfl rfl rfl (hE 102 rfl) rfl trivial (addI (by omega)) (by rw [hob]; rfl)⟩), (fun h => absurd (show yv (.bool ((([] : List Int).length : Int) == 0)) = _ by rw [hg6]; rfl) h)⟩
          · exact ⟨98, .bool ((([] : List Int).length : Int) == 0), rfl, blt_lt rfl, rfl, (fun _ => ⟨104, rfl, blt_lt rfl, fun st hob hE => aop_move (av := .i (x.speed % 10001)) (.inl rfl) rfl rfl (hE 9 rfl) (by rw [hob]; rfl)⟩), (fun h => absurd (show yv (.bool ((([] : List Int).length : Int) == 0)) = _ by rw [hg6]; rfl) h)⟩
          · exact ⟨98, .bool ((([] : List Int).length : Int) == 0), rfl, blt_lt rfl, rfl, (fun _ => ⟨105, rfl, blt_lt rfl, fun st hob hE => aop_fieldAddr (av := .pt 1 0) (av' := .pt 1 7) rfl rfl rfl ft29_7 sz27 (hE 3 rfl) rfl rfl (by rw [hob]; rfl)⟩), (fun h => absurd (show yv (.bool ((([] : List Int).length : Int) == 0)) = _ by rw [hg6]; rfl) h)⟩
          · exact ⟨98, .bool ((([] : List Int).length : Int) == 0), rfl, blt_lt rfl, rfl, (fun _ => ⟨106, rfl, blt_lt rfl, fun st hob hE => aop_ld (av := .q eB x.right) rfl rfl rfl ag27 (hE 105 rfl) (by rw [hob]; rfl) (by rw [hob]; rfl)⟩), (fun h => absurd (show yv (.bool ((([] : List Int).length : Int) == 0)) = _ by rw [hg6]; rfl) h)⟩
          · exact ⟨98, .bool ((([] : List Int).length : Int) == 0), rfl, blt_lt rfl, rfl, (fun _ => ⟨107, rfl, blt_lt rfl, fun st hob hE => callW_ (show Fn Try.prog 21 [.rp [.one, .q eSec (mkSecs d.form d.len), .one, .q ePnt (mkPts d.form), .one, .one, .one, .one, .one, .one], .agg [.one, .i x.heard, .one, .i (dr x), .i (ah d x), .q eI ([] : List Int)], .i (x.heard + 9), .i (x.speed % 10001), .q eB x.right] (.agg [.i (-1), .i 0]) from (by have h_ := (c_Front (mkSecs d.form d.len) (mkPts d.form) x.right ([] : List Int) (x.heard + 9) x.heard (x.speed % 10001) (dr x) (ah d x) (by omega) (by omega) (by omega) (by decide) (mkSecs_lenB _ _) (by omega) (by omega) (by omega) (by omega)); rw [e3.2.1, e3.2.2] at h_; exact h_)) rfl rfl rfl rfl rfl bd21 (by show Lends _ ([st.env 99, st.env 100, st.env 103, st.env 104, st.env 106] ++ _) _; rw [hE 99 rfl, hE 100 rfl, hE 103 rfl, hE 104 rfl, hE 106 rfl]; exact (lends_cons (lend_n (av := .rp [.one, .q eSec (mkSecs d.form d.len), .one, .q ePnt (mkPts d.form), .one, .one, .one, .one, .one, .one])) (lends_cons (lend_agg (lends_cons (.one _ rfl) (lends_cons (lend_n (av := .i x.heard)) (lends_cons (.one _ rfl) (lends_cons (lend_n (av := .i (dr x))) (lends_cons (lend_n (av := .i (ah d x))) (lends_cons .nil lends_nil))))))) (lends_cons (lend_n (av := .i (x.heard + 9))) (lends_cons (lend_n (av := .i (x.speed % 10001))) (lends_cons (lend_n (av := .q eB x.right)) lends_nil)))))) (by rw [hob]; rfl)⟩), (fun h => absurd (show yv (.bool ((([] : List Int).length : Int) == 0)) = _ by rw [hg6]; rfl) h)⟩
          · exact ⟨98, .bool ((([] : List Int).length : Int) == 0), rfl, blt_lt rfl, rfl, (fun _ => ⟨108, rfl, blt_lt rfl, fun st hob hE => aop_build rfl rfl rfl pl51 (by simp only [partsA, List.map, evA]; rfl) (by rw [hob]; rfl)⟩), (fun h => absurd (show yv (.bool ((([] : List Int).length : Int) == 0)) = _ by rw [hg6]; rfl) h)⟩
          · exact ⟨98, .bool ((([] : List Int).length : Int) == 0), rfl, blt_lt rfl, rfl, (fun _ => ⟨109, rfl, blt_lt rfl, fun st hob hE => aop_eqS2 (r := (decide ((-1 : Int) = (-1) ∧ (0 : Int) = 0))) rfl rfl rfl (hE 107 rfl) (hE 108 rfl) es51 ut3 ut3 ag3 ag3 (.inl ⟨rfl, rfl⟩) (by rw [hob]; rfl)⟩), (fun h => absurd (show yv (.bool ((([] : List Int).length : Int) == 0)) = _ by rw [hg6]; rfl) h)⟩
          · exact ⟨110, rfl, blt_lt rfl, fun st hob hE => aop_pick (b := ((([] : List Int).length : Int) == 0)) (av := .b (decide ((-1 : Int) = (-1) ∧ (0 : Int) = 0))) rfl rfl rfl (hE 98 rfl) (by rw [hg6]; exact hE 109 rfl) (by rw [hob]; rfl)⟩
        refine opG rfl (aop_move (av := .b (decide ((-1 : Int) = (-1) ∧ (0 : Int) = 0))) (.inr rfl) rfl rfl rfl ?_)
        refine op0 ?_
        show AWP _ _ _ _ _
        refine awp_ret ?_
        exact fret (av := .v (.bool (decide ((-1 : Int) = (-1) ∧ (0 : Int) = 0)))) rfl rfl (by simp)
      · skip
        have hf8 := (beq_eq_false_iff_ne).1 hg6
        exfalso; simp at hg6
    · skip
      exfalso; simp at hg5
end Go.Lo
