/- Walks of Go functions in the logic of values. -/
import Derived.Test.YtpgbplgljfjhnaaFnOTy
import Derived.Test.YtpgbplgljfjhnaaDef
import Derived.Test.YtpgbplgljfjhnaaLay
import Derived.Test.YtpgbplgljfjhnaaGr
import Derived.Test.YtpgbplgljfjhnaaCh
import Derived.Test.YtpgbplgljfjhnaaIns
import Derived.Test.YtpgbplgljfjhnaaDr
import Derived.Test.YtpgbplgljfjhnaaSp
import Derived.Test.YtpgbplgljfjhnaaPo
import Derived.Test.YtpgbplgljfjhnaaFnA
import Derived.Test.YtpgbplgljfjhnaaFnC
import Derived.Test.YtpgbplgljfjhnaaFnM
import Derived.Test.YtpgbplgljfjhnaaFnF
import Derived.Test.YtpgbplgljfjhnaaFnG
import Derived.Test.YtpgbplgljfjhnaaFnH
import Derived.Test.YtpgbplgljfjhnaaFnI
set_option linter.unusedVariables false
set_option linter.unusedSimpArgs false
set_option maxRecDepth 10000
set_option maxHeartbeats 16000000
namespace Go.Lo
open Go.Proofs
theorem r10_Back (l : List Int) (hl : l.length ≤ 65536) : FnO Try.prog 19 [.ro l.length (enc eI l)] (.sl 0 0 l.reverse.length) [⟨(enc eI l.reverse), 3, 1⟩] := by
 refine fnE_of_body (N := 20) Try.func19 rfl rfl (resOf1 rfl) (by simp) (fun w0 X hL_ => ?_)
 refine seqR ?_
 refine opG rfl (aop_move (av := .v (.slice none 0 0)) (.inr rfl) rfl rfl rfl ?_)
 refine op0 ?_
 refine seqR ?_
 refine opG rfl (aop_move (av := .v (.slice none 0 0)) (.inr rfl) rfl rfl rfl ?_)
 refine op0 ?_
 refine awp_seq ?_
 refine seqR ?_
 refine opG rfl (aop_move (av := .q eI l) (.inl rfl) rfl rfl rfl ?_)
 refine opG rfl (aop_len rfl rfl rfl rfl ut38 (len_ro rfl) ?_)
 refine opG rfl (aop_binI (u := (.int .i64 ((l.length : Int) - 1))) rfl rfl rfl rfl rfl trivial (subI (by omega)) ?_)
 refine opG rfl (aop_move (av := .i ((l.length : Int) - 1)) (.inr rfl) rfl rfl rfl ?_)
 refine op0 ?_
 refine rs_ (upd (upd (upd (upd none_ 0 (.q eI l)) 2 (.v (.slice none 0 0))) 3 (.v (.slice none 0 0))) 4 (.i ((l.length : Int) - 1))) noOb (lu rfl (lu rfl (lu rfl (lu rfl ln)))) rfl ?_
 refine awp_block ?_
 refine awp_countI (fun k => ⟨(upd (upd (upd (upd none_ 0 (.q eI l)) 2 (.v (.slice none 0 0))) 3 (.sl 1 0 ((l.reverse.take k).length))) 4 (.i ((l.length : Int) - 1 - (k : Int)))), (updO noOb 1 (.live ⟨(enc eI (l.reverse.take k)), 3, 1⟩))⟩) (fun k => True) (l.length) ?_ trivial (fun k hk_k hinv => ?_)
 ·skip
  refine (imp_adopt 3 51 3 1 rfl rfl).trans ?_
  exact imp_ler [(51, 1)] (lerI 51 1 (o := ⟨[], 3, 1⟩) rfl rfl (sS (by exact congrArg (fun n_ : Int => AV.v (.int .i64 n_)) (by omega)) (sM rfl (sS rfl (sS rfl sr_none))))) (keep_of rfl)
 refine awp_seq ?_
 refine seqR ?_
 refine opG rfl (aop_move (av := .i ((l.length : Int) - 1 - (k : Int))) (.inl rfl) rfl rfl rfl ?_)
 refine opG rfl (aop_binI (u := (.bool (decide (((l.length : Int) - 1 - (k : Int)) ≥ 0)))) rfl rfl rfl rfl rfl trivial rfl ?_)
 refine op0 ?_
 refine awp_cond (decide (((l.length : Int) - 1 - (k : Int)) ≥ 0)) rfl rfl (fun hc0 => ?_) (fun hc0 => ?_)
 ·skip
  have hf1 := of_decide_eq_true hc0
  refine awp_skip ?_
  refine awp_seq ?_
  refine awp_block ?_
  refine regR ?_
  refine opG rfl (aop_move (av := .sl 1 0 ((l.reverse.take k).length)) (.inl rfl) rfl rfl rfl ?_)
  refine opG rfl (aop_move (av := .q eI l) (.inl rfl) rfl rfl rfl ?_)
  refine opG rfl (aop_move (av := .i ((l.length : Int) - 1 - (k : Int))) (.inl rfl) rfl rfl rfl ?_)
  refine opG rfl (aop_ixI 0 rfl rfl rfl ut38 sz3 rfl rfl (fun _ => rfl) rfl (by omega) (by first | omega | (simp; done) | decide | (simp at *; omega)) ?_)
  refine opG rfl (aop_ld (av := .i (l.getD ((l.length : Int) - 1 - (k : Int)).toNat 0)) rfl rfl rfl ag3 rfl rfl ?_)
  refine opG rfl (aop_lit rfl rfl rfl ut38 iz3 (by decide) (by decide) rfl rfl ?_)
  refine opG rfl (aop_app1 (f := eI) (l := l.reverse.take k) 52 (l.getD ((l.length : Int) - 1 - (k : Int)).toNat 0 : Int) rfl rfl rfl rfl ut38 in3 rfl (by decide) rfl rfl rfl rfl rfl rfl (fun _ => rfl) rfl rfl (by first | omega | (simp; done) | decide | (simp at *; omega)) (by first | omega | (simp; done) | decide | (simp at *; omega)) rfl ?_)
  refine opG rfl (aop_move (av := .sl 52 0 (((l.reverse.take k) ++ [(l.getD ((l.length : Int) - 1 - (k : Int)).toNat 0 : Int)]).length)) (.inr rfl) rfl rfl rfl ?_)
  refine op0 ?_
  refine rs_ (upd (upd (upd (upd none_ 0 (.q eI l)) 2 (.v (.slice none 0 0))) 3 (.sl 52 0 (((l.reverse.take k) ++ [(l.getD ((l.length : Int) - 1 - (k : Int)).toNat 0 : Int)]).length))) 4 (.i ((l.length : Int) - 1 - (k : Int)))) (updO (updO (updO noOb 1 (.live ⟨(enc eI (l.reverse.take k)), 3, 1⟩)) 1 .dead) 52 (.live ⟨(enc eI ((l.reverse.take k) ++ [(l.getD ((l.length : Int) - 1 - (k : Int)).toNat 0 : Int)])), 3, 1⟩)) (lu rfl (lu rfl (lu rfl (lu rfl ln)))) rfl ?_
  refine regR ?_
  refine opG rfl (aop_move (av := .i ((l.length : Int) - 1 - (k : Int))) (.inl rfl) rfl rfl rfl ?_)
  refine opG rfl (aop_binI (u := (.int .i64 (((l.length : Int) - 1 - (k : Int)) - 1))) rfl rfl rfl rfl rfl trivial (subI (by omega)) ?_)
  refine opG rfl (aop_move (av := .i (((l.length : Int) - 1 - (k : Int)) - 1)) (.inr rfl) rfl rfl rfl ?_)
  refine op0 ?_
  show _ ∧ _
  have hs_ := back_step (l := l) (k := k) (by omega)
  refine ⟨by omega, trivial, ?_⟩
  exact imp_ler [(52, 1)] (lerI 52 1 rfl (by exact congrArg (fun l_ => LObj.mk (enc eI l_) 3 1) hs_) (sS (by exact congrArg (fun n_ : Int => AV.v (.int .i64 n_)) (by omega)) (sM (by exact congrArg (AV.sl 1 0) (congrArg List.length hs_.symm)) (sS rfl (sS rfl sr_none))))) (keep_of rfl)
 ·skip
  have hf2 := of_decide_eq_false hc0
  refine awp_exit ?_
  refine seqR ?_
  refine opG rfl (aop_move (av := .sl 1 0 ((l.reverse.take k).length)) (.inl rfl) rfl rfl rfl ?_)
  refine opG rfl (aop_move (av := .sl 1 0 ((l.reverse.take k).length)) (.inr rfl) rfl rfl rfl ?_)
  refine op0 ?_
  refine rs_ (upd none_ 2 (.sl 1 0 ((l.reverse.take k).length))) (updO noOb 1 (.live ⟨(enc eI (l.reverse.take k)), 3, 1⟩)) (lu rfl ln) rfl ?_
  refine awp_ret ?_
  have he : l.reverse.take k = l.reverse := List.take_of_length_le (by simp; omega)
  exact fretO 1 rfl rfl rfl (congrArg List.length he) (congrArg (fun l_ => LObj.mk (enc eI l_) 3 1) he)
theorem l11_ChainPoints (d : Draft) (x : Spot) (tn : Int) (hd : DraftOk d) (hx : SpotOk x) (htn : 0 ≤ tn ∧ tn ≤ 255) : Fn Try.prog 5 [.agg [.v (.int .u8 d.form), .v (.int .u8 d.len), .v (.int .u8 d.speed), .v (.int .u16 d.mute), .v (.int .u16 d.wait), .v (.int .u8 d.cancel), .v (.int .u8 d.stay), .v (.int .u8 d.jn), .ro d.rs.length (enc eUL d.rs)], .agg [.v (.int .u8 x.fr), .v (.int .u8 x.lg), .ro x.turns.length (enc eU8 x.turns), .v (.int .u16 x.ahd), .v (.int .u16 x.heard), .v (.int .u16 x.ticks), .v (.int .u16 x.speed), .ro x.right.length (enc eB x.right)], .v (.int .u8 tn)] (.v (.bool true)) := by
 have hd1 := hd.form
 have hd2 := hd.len
 have hd3 := hd.speed
 have hd4 := hd.mute
 have hd5 := hd.wait
 have hd6 := hd.cancel
 have hd7 := hd.stay
 have hd8 := hd.jn
 have hd9 := hd.n
 have hmx : maxLen = 9223372036854775807 := rfl
 have hx1 := hx.fr
 have hx2 := hx.lg
 have hx3 := hx.ahd
 have hx4 := hx.heard
 have hx5 := hx.ticks
 have hx6 := hx.speed
 have hx7 := hx.tl
 have hx8 := hx.rl
 refine fnE_of_body (N := 236) Try.func5 rfl rfl (resOf1 rfl) (by simp) (fun w0 X hL_ => ?_)
 refine seqR ?_
 refine opG rfl (aop_box 51 rfl rfl rfl rfl rfl rfl rfl ?_)
 refine opG rfl (aop_box 52 rfl rfl rfl rfl rfl rfl rfl ?_)
 refine opG rfl (aop_move (av := .b false) (.inr rfl) rfl rfl rfl ?_)
 refine op0 ?_
 refine awp_seq ?_
 refine seqR ?_
 refine opG rfl (call_ (l11_later) rfl rfl rfl rfl rfl bd9 rfl ?_)
 refine opG rfl (aop_not rfl rfl rfl rfl ?_)
 refine opG rfl (aop_move (av := .b false) (.inl rfl) rfl rfl rfl ?_)
 refine opY rfl rfl rfl rfl (aop_ldB (cells' := [.v (.int .u8 d.form), .v (.int .u8 d.len), .v (.int .u8 d.speed), .v (.int .u16 d.mute), .v (.int .u16 d.wait), .v (.int .u8 d.cancel), .v (.int .u8 d.stay), .v (.int .u8 d.jn), .q eUL d.rs]) rfl rfl rfl ag25 sz25 rfl rfl rfl rfl ?_)
 refine opY rfl rfl rfl rfl (aop_ldB (cells' := [.v (.int .u8 x.fr), .v (.int .u8 x.lg), .q eU8 x.turns, .v (.int .u16 x.ahd), .v (.int .u16 x.heard), .v (.int .u16 x.ticks), .v (.int .u16 x.speed), .q eB x.right]) rfl rfl rfl ag29 sz29 rfl rfl rfl rfl ?_)
 refine opY rfl rfl rfl rfl (call_ (l11_small _ _ (by first | omega | (simp; done) | decide | (simp at *; omega)) (by first | omega | (simp; done) | decide | (simp at *; omega))) rfl rfl rfl rfl rfl bd10 rfl ?_)
 refine opY rfl rfl rfl rfl (aop_not rfl rfl rfl rfl ?_)
 refine opG rfl (aop_pick (b := false) (av := .b (!(littleB d x))) rfl rfl rfl rfl rfl ?_)
 refine op0 ?_
 refine rs_ (upd (upd (upd (upd (upd none_ 2 (.v (.int .u8 tn))) 3 (.pt 51 0)) 4 (.pt 52 0)) 6 (.b false)) 29 (.b (!(littleB d x)))) (updO (updO noOb 51 (.live ⟨[.v (.int .u8 d.form), .v (.int .u8 d.len), .v (.int .u8 d.speed), .v (.int .u16 d.mute), .v (.int .u16 d.wait), .v (.int .u8 d.cancel), .v (.int .u8 d.stay), .v (.int .u8 d.jn), .q eUL d.rs], 25, 1⟩)) 52 (.live ⟨[.v (.int .u8 x.fr), .v (.int .u8 x.lg), .q eU8 x.turns, .v (.int .u16 x.ahd), .v (.int .u16 x.heard), .v (.int .u16 x.ticks), .v (.int .u16 x.speed), .q eB x.right], 29, 1⟩)) (lu rfl (lu rfl (lu rfl (lu rfl (lu rfl ln))))) rfl ?_
 refine awp_cond (!(littleB d x)) rfl rfl (fun hc0 => ?_) (fun hc0 => ?_)
 ·skip
  have hf1 := not_t hc0
  refine seqR ?_
  refine opG rfl (call_ (l11_later) rfl rfl rfl rfl rfl bd9 rfl ?_)
  refine opG rfl (aop_move (av := .b true) (.inr rfl) rfl rfl rfl ?_)
  refine op0 ?_
  refine awp_ret ?_
  exact fret (av := .v (.bool true)) rfl rfl rfl
 ·skip
  have hf2 := not_f hc0
  have hsm : littleB d x = true := by cases h : littleB d x <;> simp [h] at hc0 ⊢
  obtain ⟨hsm1, hsm2, hsm3⟩ := little_iff hsm
  have hF := spotF (d := d) hx
  have hw1 := hF.ok.pos
  have hw2 := hF.l0
  have hw3 := hF.len
  have hw4 := hF.ah
  have hsp0 := modB (a := x.speed) (b := 10001) (by omega)
  have hel := mkEnds_len d.form
  have hsl := mkSecs_len d.form d.len
  have hpl := mkPts_len d.form
  refine awp_skip ?_
  refine seqR ?_
  refine opG rfl (aop_ldB (cells' := [.v (.int .u8 d.form), .v (.int .u8 d.len), .v (.int .u8 d.speed), .v (.int .u16 d.mute), .v (.int .u16 d.wait), .v (.int .u8 d.cancel), .v (.int .u8 d.stay), .v (.int .u8 d.jn), .q eUL d.rs]) rfl rfl rfl ag25 sz25 rfl rfl rfl rfl ?_)
  refine opG rfl (aop_ldB (cells' := [.v (.int .u8 x.fr), .v (.int .u8 x.lg), .q eU8 x.turns, .v (.int .u16 x.ahd), .v (.int .u16 x.heard), .v (.int .u16 x.ticks), .v (.int .u16 x.speed), .q eB x.right]) rfl rfl rfl ag29 sz29 rfl rfl rfl rfl ?_)
  refine opG rfl (call_ (l11_of _ _ (by first | omega | (simp; done) | decide | (simp at *; omega)) (by first | omega | (simp; done) | decide | (simp at *; omega)) (by first | omega | (simp; done) | decide | (simp at *; omega))) rfl rfl rfl rfl rfl bd11 rfl ?_)
  refine opG rfl (aop_move (av := .tup [.agg [.one, .q eSec (mkSecs d.form d.len), .q eIL (mkParts d.form d.jn), .q ePnt (mkPts d.form), .q eIL (fullRoutes d.form d.len d.rs), .i (1 + d.speed % (2 * (10 * (1 + d.len % 20)))), .i (1 + d.mute % 1000), .i (1 + d.wait % 1000), .i (1 + d.cancel), .i (d.stay % 4)], .agg [.i 4, .i x.heard, .i (-1), .i (dr x), .i (ah d x), .q eI (wk d x)], .agg [.i 4, .i x.heard, .i (-1), .i (dr x), .i (ah d x), .q eI (wk d x)], .i (x.heard + x.ticks), .i (x.speed % 10001)]) (.inl rfl) rfl rfl rfl ?_)
  refine opG rfl (aop_extract rfl rfl rfl rfl rfl ?_)
  refine opG rfl (aop_extract rfl rfl rfl rfl rfl ?_)
  refine opG rfl (aop_extract rfl rfl rfl rfl rfl ?_)
  refine opG rfl (aop_extract rfl rfl rfl rfl rfl ?_)
  refine opG rfl (aop_extract rfl rfl rfl rfl rfl ?_)
  refine opG rfl (aop_alloc 53 rfl rfl rfl rfl ze37 rfl ?_)
  refine opG rfl (aop_alloc 54 rfl rfl rfl rfl ze40 rfl ?_)
  refine opG rfl (aop_alloc 55 rfl rfl rfl rfl ze41 rfl ?_)
  refine opG rfl (aop_store rfl rfl rfl sz37 rfl rfl rfl rfl rfl (Nat.le_of_ble_eq_true rfl) rfl rfl ?_)
  refine opG rfl (aop_store rfl rfl rfl sz40 rfl rfl rfl rfl rfl (Nat.le_of_ble_eq_true rfl) rfl rfl ?_)
  refine opG rfl (aop_store rfl rfl rfl sz41 rfl rfl rfl rfl rfl (Nat.le_of_ble_eq_true rfl) rfl rfl ?_)
  refine opG rfl (aop_move (av := .i (x.heard + x.ticks)) (.inr rfl) rfl rfl rfl ?_)
  refine opG rfl (aop_move (av := .i (x.speed % 10001)) (.inr rfl) rfl rfl rfl ?_)
  refine op0 ?_
  refine rs_ (upd (upd (upd (upd (upd (upd (upd none_ 2 (.v (.int .u8 tn))) 4 (.pt 52 0)) 6 (.b false)) 7 (.pt 53 0)) 8 (.pt 54 0)) 10 (.i (x.heard + x.ticks))) 11 (.i (x.speed % 10001))) (updO (updO (updO (updO (updO (updO (updO (updO noOb 51 (.live ⟨[.v (.int .u8 d.form), .v (.int .u8 d.len), .v (.int .u8 d.speed), .v (.int .u16 d.mute), .v (.int .u16 d.wait), .v (.int .u8 d.cancel), .v (.int .u8 d.stay), .v (.int .u8 d.jn), .q eUL d.rs], 25, 1⟩)) 52 (.live ⟨[.v (.int .u8 x.fr), .v (.int .u8 x.lg), .q eU8 x.turns, .v (.int .u16 x.ahd), .v (.int .u16 x.heard), .v (.int .u16 x.ticks), .v (.int .u16 x.speed), .q eB x.right], 29, 1⟩)) 53 (.live ⟨[.v (.slice none 0 0), .v (.slice none 0 0), .v (.slice none 0 0), .v (.slice none 0 0), .v (.slice none 0 0), .i 0, .i 0, .i 0, .i 0, .i 0], 37, 1⟩)) 54 (.live ⟨[.i 0, .i 0, .i 0, .i 0, .i 0, .v (.slice none 0 0)], 40, 1⟩)) 55 (.live ⟨[.i 0, .i 0, .i 0, .i 0, .i 0, .v (.slice none 0 0)], 41, 1⟩)) 53 (.live ⟨[.one, .q eSec (mkSecs d.form d.len), .q eIL (mkParts d.form d.jn), .q ePnt (mkPts d.form), .q eIL (fullRoutes d.form d.len d.rs), .i (1 + d.speed % (2 * (10 * (1 + d.len % 20)))), .i (1 + d.mute % 1000), .i (1 + d.wait % 1000), .i (1 + d.cancel), .i (d.stay % 4)], 37, 1⟩)) 54 (.live ⟨[.i 4, .i x.heard, .i (-1), .i (dr x), .i (ah d x), .q eI (wk d x)], 40, 1⟩)) 55 (.live ⟨[.i 4, .i x.heard, .i (-1), .i (dr x), .i (ah d x), .q eI (wk d x)], 41, 1⟩)) (lu rfl (lu rfl (lu rfl (lu rfl (lu rfl (lu rfl (lu rfl ln))))))) rfl ?_
  refine awp_seq ?_
  refine seqR ?_
  refine opG rfl (aop_fieldAddr (av := .pt 53 0) (av' := .pt 53 3) rfl rfl rfl ft37_3 sz35 rfl rfl rfl ?_)
  refine opG rfl (aop_ld (av := .q ePnt (mkPts d.form)) rfl rfl rfl ag35 rfl rfl ?_)
  refine opG rfl (aop_len rfl rfl rfl rfl ut35 (len_ro rfl) ?_)
  refine opG rfl (aop_binI (u := (.bool (((mkPts d.form).length : Int) == 0))) rfl rfl rfl rfl rfl trivial rfl ?_)
  refine op0 ?_
  refine rs_ (upd (upd (upd (upd (upd (upd (upd (upd none_ 2 (.v (.int .u8 tn))) 4 (.pt 52 0)) 6 (.b false)) 7 (.pt 53 0)) 8 (.pt 54 0)) 10 (.i (x.heard + x.ticks))) 11 (.i (x.speed % 10001))) 43 (.b (((mkPts d.form).length : Int) == 0))) (updO (updO (updO (updO (updO (updO (updO (updO noOb 51 (.live ⟨[.v (.int .u8 d.form), .v (.int .u8 d.len), .v (.int .u8 d.speed), .v (.int .u16 d.mute), .v (.int .u16 d.wait), .v (.int .u8 d.cancel), .v (.int .u8 d.stay), .v (.int .u8 d.jn), .q eUL d.rs], 25, 1⟩)) 52 (.live ⟨[.v (.int .u8 x.fr), .v (.int .u8 x.lg), .q eU8 x.turns, .v (.int .u16 x.ahd), .v (.int .u16 x.heard), .v (.int .u16 x.ticks), .v (.int .u16 x.speed), .q eB x.right], 29, 1⟩)) 53 (.live ⟨[.v (.slice none 0 0), .v (.slice none 0 0), .v (.slice none 0 0), .v (.slice none 0 0), .v (.slice none 0 0), .i 0, .i 0, .i 0, .i 0, .i 0], 37, 1⟩)) 54 (.live ⟨[.i 0, .i 0, .i 0, .i 0, .i 0, .v (.slice none 0 0)], 40, 1⟩)) 55 (.live ⟨[.i 0, .i 0, .i 0, .i 0, .i 0, .v (.slice none 0 0)], 41, 1⟩)) 53 (.live ⟨[.one, .q eSec (mkSecs d.form d.len), .q eIL (mkParts d.form d.jn), .q ePnt (mkPts d.form), .q eIL (fullRoutes d.form d.len d.rs), .i (1 + d.speed % (2 * (10 * (1 + d.len % 20)))), .i (1 + d.mute % 1000), .i (1 + d.wait % 1000), .i (1 + d.cancel), .i (d.stay % 4)], 37, 1⟩)) 54 (.live ⟨[.i 4, .i x.heard, .i (-1), .i (dr x), .i (ah d x), .q eI (wk d x)], 40, 1⟩)) 55 (.live ⟨[.i 4, .i x.heard, .i (-1), .i (dr x), .i (ah d x), .q eI (wk d x)], 41, 1⟩)) (lu rfl (lu rfl (lu rfl (lu rfl (lu rfl (lu rfl (lu rfl (lu rfl ln)))))))) rfl ?_
  refine awp_cond (((mkPts d.form).length : Int) == 0) rfl rfl (fun hc1 => ?_) (fun hc1 => ?_)
  ·skip
   have hf3 := (beq_iff_eq).1 hc1
   refine seqR ?_
   refine opG rfl (aop_move (av := .b true) (.inr rfl) rfl rfl rfl ?_)
   refine op0 ?_
   refine awp_ret ?_
   exact fret (av := .v (.bool true)) rfl rfl rfl
  ·skip
   have hf4 := (beq_eq_false_iff_ne).1 hc1
   have hnp : ¬ (mkPts d.form).length = 0 := by simp at hc1; omega
   obtain ⟨q, hq⟩ : ∃ q : Nat, (q : Int) = tn % ((mkPts d.form).length : Int) := ⟨_, Int.toNat_of_nonneg (modB (by omega)).1⟩
   have hqb := modB (a := tn) (b := ((mkPts d.form).length : Int)) (by omega)
   refine awp_skip ?_
   refine seqR ?_
   refine opG rfl (aop_ldB (cells' := [.one, .q eSec (mkSecs d.form d.len), .q eIL (mkParts d.form d.jn), .q ePnt (mkPts d.form), .q eIL (fullRoutes d.form d.len d.rs), .i (1 + d.speed % (2 * (10 * (1 + d.len % 20)))), .i (1 + d.mute % 1000), .i (1 + d.wait % 1000), .i (1 + d.cancel), .i (d.stay % 4)]) rfl rfl rfl ag37 sz37 rfl rfl rfl rfl ?_)
   refine opG rfl (callW_ (g_New (mkSecs d.form d.len) (mkPts d.form)) rfl rfl rfl rfl rfl bd12 (lends_cons (lend_agg (lends_cons (lend_n (av := .one)) (lends_cons (lend_n (av := .q eSec (mkSecs d.form d.len))) (lends_cons (.one _ rfl) (lends_cons (lend_n (av := .q ePnt (mkPts d.form))) (lends_cons (.one _ rfl) (lends_cons (.one _ rfl) (lends_cons (.one _ rfl) (lends_cons (.one _ rfl) (lends_cons (.one _ rfl) (lends_cons (.one _ rfl) lends_nil))))))))))) lends_nil) ?_)
   refine opG rfl (aop_move (av := .rp [.one, .q eSec (mkSecs d.form d.len), .one, .q ePnt (mkPts d.form), .one, .one, .one, .one, .one, .one]) (.inr rfl) rfl rfl rfl ?_)
   refine op0 ?_
   refine seqR ?_
   refine opG rfl (aop_fieldAddr (av := .pt 53 0) (av' := .pt 53 3) rfl rfl rfl ft37_3 sz35 rfl rfl rfl ?_)
   refine opG rfl (aop_ld (av := .q ePnt (mkPts d.form)) rfl rfl rfl ag35 rfl rfl ?_)
   refine opG rfl (aop_len rfl rfl rfl rfl ut35 (len_ro rfl) ?_)
   refine opG rfl (aop_makeE (n := (mkPts d.form).length) (f := eB) 56 (false : Bool) rfl rfl rfl ut27 in4 rfl rfl rfl rfl (by omega) (by omega) rfl rfl ?_)
   refine opG rfl (aop_move (av := .sl 56 0 ((List.replicate ((mkPts d.form).length) (false : Bool)).length)) (.inr rfl) rfl rfl rfl ?_)
   refine op0 ?_
   refine rs_ (upd (upd (upd (upd (upd (upd (upd (upd (upd none_ 2 (.v (.int .u8 tn))) 4 (.pt 52 0)) 6 (.b false)) 7 (.pt 53 0)) 8 (.pt 54 0)) 10 (.i (x.heard + x.ticks))) 11 (.i (x.speed % 10001))) 12 (.rp [.one, .q eSec (mkSecs d.form d.len), .one, .q ePnt (mkPts d.form), .one, .one, .one, .one, .one, .one])) 13 (.sl 56 0 ((List.replicate ((mkPts d.form).length) (false : Bool)).length))) (updO (updO (updO (updO (updO (updO (updO (updO (updO noOb 51 (.live ⟨[.v (.int .u8 d.form), .v (.int .u8 d.len), .v (.int .u8 d.speed), .v (.int .u16 d.mute), .v (.int .u16 d.wait), .v (.int .u8 d.cancel), .v (.int .u8 d.stay), .v (.int .u8 d.jn), .q eUL d.rs], 25, 1⟩)) 52 (.live ⟨[.v (.int .u8 x.fr), .v (.int .u8 x.lg), .q eU8 x.turns, .v (.int .u16 x.ahd), .v (.int .u16 x.heard), .v (.int .u16 x.ticks), .v (.int .u16 x.speed), .q eB x.right], 29, 1⟩)) 53 (.live ⟨[.v (.slice none 0 0), .v (.slice none 0 0), .v (.slice none 0 0), .v (.slice none 0 0), .v (.slice none 0 0), .i 0, .i 0, .i 0, .i 0, .i 0], 37, 1⟩)) 54 (.live ⟨[.i 0, .i 0, .i 0, .i 0, .i 0, .v (.slice none 0 0)], 40, 1⟩)) 55 (.live ⟨[.i 0, .i 0, .i 0, .i 0, .i 0, .v (.slice none 0 0)], 41, 1⟩)) 53 (.live ⟨[.one, .q eSec (mkSecs d.form d.len), .q eIL (mkParts d.form d.jn), .q ePnt (mkPts d.form), .q eIL (fullRoutes d.form d.len d.rs), .i (1 + d.speed % (2 * (10 * (1 + d.len % 20)))), .i (1 + d.mute % 1000), .i (1 + d.wait % 1000), .i (1 + d.cancel), .i (d.stay % 4)], 37, 1⟩)) 54 (.live ⟨[.i 4, .i x.heard, .i (-1), .i (dr x), .i (ah d x), .q eI (wk d x)], 40, 1⟩)) 55 (.live ⟨[.i 4, .i x.heard, .i (-1), .i (dr x), .i (ah d x), .q eI (wk d x)], 41, 1⟩)) 56 (.live ⟨(enc eB (List.replicate ((mkPts d.form).length) (false : Bool))), 4, 1⟩)) (lu rfl (lu rfl (lu rfl (lu rfl (lu rfl (lu rfl (lu rfl (lu rfl (lu rfl ln))))))))) rfl ?_
   refine awp_seq ?_
   refine seqR ?_
   refine opG rfl (aop_move (av := .i 0) (.inr rfl) rfl rfl rfl ?_)
   refine op0 ?_
   refine awp_block ?_
   refine awp_countI (fun j => ⟨(upd (upd (upd (upd (upd (upd (upd (upd (upd (upd none_ 2 (.v (.int .u8 tn))) 4 (.pt 1 0)) 6 (.b false)) 7 (.pt 2 0)) 8 (.pt 3 0)) 10 (.i (x.heard + x.ticks))) 11 (.i (x.speed % 10001))) 12 (.rp [.one, .q eSec (mkSecs d.form d.len), .one, .q ePnt (mkPts d.form), .one, .one, .one, .one, .one, .one])) 13 (.sl 4 0 ((rtK x.right (mkPts d.form).length j).length))) 14 (.i (j : Int))), (updO (updO (updO (updO noOb 1 (.live ⟨[.v (.int .u8 x.fr), .v (.int .u8 x.lg), .q eU8 x.turns, .v (.int .u16 x.ahd), .v (.int .u16 x.heard), .v (.int .u16 x.ticks), .v (.int .u16 x.speed), .q eB x.right], 29, 1⟩)) 2 (.live ⟨[.one, .q eSec (mkSecs d.form d.len), .q eIL (mkParts d.form d.jn), .q ePnt (mkPts d.form), .q eIL (fullRoutes d.form d.len d.rs), .i (1 + d.speed % (2 * (10 * (1 + d.len % 20)))), .i (1 + d.mute % 1000), .i (1 + d.wait % 1000), .i (1 + d.cancel), .i (d.stay % 4)], 37, 1⟩)) 3 (.live ⟨[.i 4, .i x.heard, .i (-1), .i (dr x), .i (ah d x), .q eI (wk d x)], 40, 1⟩)) 4 (.live ⟨(enc eB (rtK x.right (mkPts d.form).length j)), 4, 1⟩))⟩) (fun j => True) ((min (mkPts d.form).length x.right.length)) ?_ trivial (fun j hk_j hinv => ?_)
   ·skip
    exact imp_ler [(52, 1), (53, 2), (54, 3), (56, 4)] (lerL [(52, 1), (53, 2), (54, 3), (56, 4)] [((52, 1), .live ⟨[.v (.int .u8 x.fr), .v (.int .u8 x.lg), .q eU8 x.turns, .v (.int .u16 x.ahd), .v (.int .u16 x.heard), .v (.int .u16 x.ticks), .v (.int .u16 x.speed), .q eB x.right], 29, 1⟩), ((53, 2), .live ⟨[.one, .q eSec (mkSecs d.form d.len), .q eIL (mkParts d.form d.jn), .q ePnt (mkPts d.form), .q eIL (fullRoutes d.form d.len d.rs), .i (1 + d.speed % (2 * (10 * (1 + d.len % 20)))), .i (1 + d.mute % 1000), .i (1 + d.wait % 1000), .i (1 + d.cancel), .i (d.stay % 4)], 37, 1⟩), ((54, 3), .live ⟨[.i 4, .i x.heard, .i (-1), .i (dr x), .i (ah d x), .q eI (wk d x)], 40, 1⟩), ((56, 4), .live ⟨(enc eB (rtK x.right (mkPts d.form).length 0)), 4, 1⟩)] rfl (by decide) (by decide) ⟨row_no (o := ⟨[.v (.int .u8 x.fr), .v (.int .u8 x.lg), .q eU8 x.turns, .v (.int .u16 x.ahd), .v (.int .u16 x.heard), .v (.int .u16 x.ticks), .v (.int .u16 x.speed), .q eB x.right], 29, 1⟩) rfl rfl, row_no (o := ⟨[.one, .q eSec (mkSecs d.form d.len), .q eIL (mkParts d.form d.jn), .q ePnt (mkPts d.form), .q eIL (fullRoutes d.form d.len d.rs), .i (1 + d.speed % (2 * (10 * (1 + d.len % 20)))), .i (1 + d.mute % 1000), .i (1 + d.wait % 1000), .i (1 + d.cancel), .i (d.stay % 4)], 37, 1⟩) rfl rfl, row_no (o := ⟨[.i 4, .i x.heard, .i (-1), .i (dr x), .i (ah d x), .q eI (wk d x)], 40, 1⟩) rfl rfl, row_no (o := ⟨(enc eB (List.replicate ((mkPts d.form).length) (false : Bool))), 4, 1⟩) rfl rfl, trivial⟩ (sr_same 14 (.i (0 : Int)) rfl NoI.out (sr_map 13 (.sl 4 0 ((rtK x.right (mkPts d.form).length 0).length)) (by first | exact Ok.sl _ _ _ (by first | decide | simp) | exact Ok.pt _ _ (by first | decide | simp)) rfl (sr_same 12 (.rp [.one, .q eSec (mkSecs d.form d.len), .one, .q ePnt (mkPts d.form), .one, .one, .one, .one, .one, .one]) rfl NoI.out (sr_same 11 (.i (x.speed % 10001)) rfl NoI.out (sr_same 10 (.i (x.heard + x.ticks)) rfl NoI.out (sr_map 8 (.pt 3 0) (by first | exact Ok.sl _ _ _ (by first | decide | simp) | exact Ok.pt _ _ (by first | decide | simp)) rfl (sr_map 7 (.pt 2 0) (by first | exact Ok.sl _ _ _ (by first | decide | simp) | exact Ok.pt _ _ (by first | decide | simp)) rfl (sr_same 6 (.b false) rfl NoI.out (sr_map 4 (.pt 1 0) (by first | exact Ok.sl _ _ _ (by first | decide | simp) | exact Ok.pt _ _ (by first | decide | simp)) rfl (sr_same 2 (.v (.int .u8 tn)) rfl NoI.out sr_none))))))))))) (keep_of rfl)
   have hrl := rtK_len x.right (mkPts d.form).length j
   refine awp_seq ?_
   refine seqR ?_
   refine opG rfl (aop_move (av := .i (j : Int)) (.inl rfl) rfl rfl rfl ?_)
   refine opG rfl (aop_move (av := .sl 4 0 ((rtK x.right (mkPts d.form).length j).length)) (.inl rfl) rfl rfl rfl ?_)
   refine opG rfl (aop_len rfl rfl rfl rfl ut27 (len_sl rfl) ?_)
   refine opG rfl (aop_binI (u := (.bool (decide ((j : Int) < ((rtK x.right (mkPts d.form).length j).length : Int))))) rfl rfl rfl rfl rfl trivial rfl ?_)
   refine opG rfl (aop_move (av := .b (decide ((j : Int) < ((rtK x.right (mkPts d.form).length j).length : Int)))) (.inl rfl) rfl rfl rfl ?_)
   refine aops_grp 6 60 (.b ((decide ((j : Int) < ((rtK x.right (mkPts d.form).length j).length : Int))) && (decide ((j : Int) < (x.right.length : Int))))) ?_ ?_
   ·refine (Bool.eq_false_or_eq_true (decide ((j : Int) < ((rtK x.right (mkPts d.form).length j).length : Int)))).elim (fun hg5 => ?_) (fun hg5 => ?_)
    ·skip
     have hf6 := of_decide_eq_true hg5
     refine opY rfl rfl rfl (by show AV.v (.bool (decide ((j : Int) < ((rtK x.right (mkPts d.form).length j).length : Int)))) = _; rw [hg5]) (aop_move (av := .i (j : Int)) (.inl rfl) rfl rfl rfl ?_)
     refine opY rfl rfl rfl (by show AV.v (.bool (decide ((j : Int) < ((rtK x.right (mkPts d.form).length j).length : Int)))) = _; rw [hg5]) (aop_fieldAddr (av := .pt 1 0) (av' := .pt 1 7) rfl rfl rfl ft29_7 sz27 rfl rfl rfl ?_)
     refine opY rfl rfl rfl (by show AV.v (.bool (decide ((j : Int) < ((rtK x.right (mkPts d.form).length j).length : Int)))) = _; rw [hg5]) (aop_ld (av := .q eB x.right) rfl rfl rfl ag27 rfl rfl ?_)
     refine opY rfl rfl rfl (by show AV.v (.bool (decide ((j : Int) < ((rtK x.right (mkPts d.form).length j).length : Int)))) = _; rw [hg5]) (aop_len rfl rfl rfl rfl ut27 (len_ro rfl) ?_)
     refine opY rfl rfl rfl (by show AV.v (.bool (decide ((j : Int) < ((rtK x.right (mkPts d.form).length j).length : Int)))) = _; rw [hg5]) (aop_binI (u := (.bool (decide ((j : Int) < (x.right.length : Int))))) rfl rfl rfl rfl rfl trivial rfl ?_)
     refine opG rfl (aop_pick (b := (decide ((j : Int) < ((rtK x.right (mkPts d.form).length j).length : Int)))) (av := .b (decide ((j : Int) < (x.right.length : Int)))) rfl rfl rfl rfl ((congrArg (fun b_ => cond b_ _ _) hg5).trans rfl) ?_)
     refine op0 ?_
     exact imp_env (lee_both 60 _ _ (by rw [hg5] <;> rfl) (lee_out 59 _ rfl (lee_out 58 _ rfl (lee_out 57 _ rfl (lee_out 56 _ rfl (lee_out 55 _ rfl (lee_same _)))))))
    ·skip
     have hf7 := of_decide_eq_false hg5
     refine opN rfl rfl rfl rfl (by show yv (.bool (decide ((j : Int) < ((rtK x.right (mkPts d.form).length j).length : Int)))) ≠ _; rw [hg5]; intro h; cases h) rfl rfl ?_
     refine opN rfl rfl rfl rfl (by show yv (.bool (decide ((j : Int) < ((rtK x.right (mkPts d.form).length j).length : Int)))) ≠ _; rw [hg5]; intro h; cases h) rfl rfl ?_
     refine opN rfl rfl rfl rfl (by show yv (.bool (decide ((j : Int) < ((rtK x.right (mkPts d.form).length j).length : Int)))) ≠ _; rw [hg5]; intro h; cases h) rfl rfl ?_
     refine opN rfl rfl rfl rfl (by show yv (.bool (decide ((j : Int) < ((rtK x.right (mkPts d.form).length j).length : Int)))) ≠ _; rw [hg5]; intro h; cases h) rfl rfl ?_
     refine opN rfl rfl rfl rfl (by show yv (.bool (decide ((j : Int) < ((rtK x.right (mkPts d.form).length j).length : Int)))) ≠ _; rw [hg5]; intro h; cases h) rfl rfl ?_
     refine opG rfl (aop_pick (b := (decide ((j : Int) < ((rtK x.right (mkPts d.form).length j).length : Int)))) (av := .b false) rfl rfl rfl rfl ((congrArg (fun b_ => cond b_ _ _) hg5).trans rfl) ?_)
     refine op0 ?_
     exact imp_env (lee_both 60 _ _ (by rw [hg5] <;> rfl) (lee_out 59 _ rfl (lee_out 58 _ rfl (lee_out 57 _ rfl (lee_out 56 _ rfl (lee_out 55 _ rfl (lee_same _)))))))
   refine op0 ?_
   refine rs_ (upd (upd (upd (upd (upd (upd (upd (upd (upd (upd (upd none_ 2 (.v (.int .u8 tn))) 4 (.pt 1 0)) 6 (.b false)) 7 (.pt 2 0)) 8 (.pt 3 0)) 10 (.i (x.heard + x.ticks))) 11 (.i (x.speed % 10001))) 12 (.rp [.one, .q eSec (mkSecs d.form d.len), .one, .q ePnt (mkPts d.form), .one, .one, .one, .one, .one, .one])) 13 (.sl 4 0 ((rtK x.right (mkPts d.form).length j).length))) 14 (.i (j : Int))) 60 (.b ((decide ((j : Int) < ((rtK x.right (mkPts d.form).length j).length : Int))) && (decide ((j : Int) < (x.right.length : Int)))))) (updO (updO (updO (updO noOb 1 (.live ⟨[.v (.int .u8 x.fr), .v (.int .u8 x.lg), .q eU8 x.turns, .v (.int .u16 x.ahd), .v (.int .u16 x.heard), .v (.int .u16 x.ticks), .v (.int .u16 x.speed), .q eB x.right], 29, 1⟩)) 2 (.live ⟨[.one, .q eSec (mkSecs d.form d.len), .q eIL (mkParts d.form d.jn), .q ePnt (mkPts d.form), .q eIL (fullRoutes d.form d.len d.rs), .i (1 + d.speed % (2 * (10 * (1 + d.len % 20)))), .i (1 + d.mute % 1000), .i (1 + d.wait % 1000), .i (1 + d.cancel), .i (d.stay % 4)], 37, 1⟩)) 3 (.live ⟨[.i 4, .i x.heard, .i (-1), .i (dr x), .i (ah d x), .q eI (wk d x)], 40, 1⟩)) 4 (.live ⟨(enc eB (rtK x.right (mkPts d.form).length j)), 4, 1⟩)) (lu rfl (lu rfl (lu rfl (lu rfl (lu rfl (lu rfl (lu rfl (lu rfl (lu rfl (lu rfl (lu rfl ln))))))))))) rfl ?_
   refine awp_cond ((decide ((j : Int) < ((rtK x.right (mkPts d.form).length j).length : Int))) && (decide ((j : Int) < (x.right.length : Int)))) rfl rfl (fun hc2 => ?_) (fun hc2 => ?_)
   ·skip
    obtain ⟨hf8a, hf8b⟩ := and_t hc2
    have hf9 := of_decide_eq_true hf8a
    have hf10 := of_decide_eq_true hf8b
    refine awp_skip ?_
    refine awp_seq ?_
    refine awp_block ?_
    refine regR ?_
    refine opG rfl (aop_move (av := .sl 4 0 ((rtK x.right (mkPts d.form).length j).length)) (.inl rfl) rfl rfl rfl ?_)
    refine opG rfl (aop_move (av := .i (j : Int)) (.inl rfl) rfl rfl rfl ?_)
    refine opG rfl (aop_fieldAddr (av := .pt 1 0) (av' := .pt 1 7) rfl rfl rfl ft29_7 sz27 rfl rfl rfl ?_)
    refine opG rfl (aop_ld (av := .q eB x.right) rfl rfl rfl ag27 rfl rfl ?_)
    refine opG rfl (aop_move (av := .i (j : Int)) (.inl rfl) rfl rfl rfl ?_)
    refine opG rfl (aop_ixE false rfl rfl rfl ut27 sz4 rfl rfl (fun _ => rfl) rfl (by first | omega | (simp; done) | decide | (simp at *; omega)) ?_)
    refine opG rfl (aop_ld (av := .b (x.right.getD j false)) rfl rfl rfl ag4 rfl rfl ?_)
    refine opG rfl (aop_ixO (k := j) rfl rfl rfl ut27 sz4 rfl rfl (by first | omega | (simp; done) | decide | (simp at *; omega)) ?_)
    refine opG rfl (aop_storeE (f := eB) (l := rtK x.right (mkPts d.form).length j) (l' := (rtK x.right (mkPts d.form).length j).set j (x.right.getD j false : Bool)) (x.right.getD j false : Bool) rfl rfl rfl sz4 rfl rfl rfl rfl rfl (fun _ => rfl) (by first | omega | (simp; done) | decide | (simp at *; omega)) rfl rfl ?_)
    refine op0 ?_
    refine rs_ (upd (upd (upd (upd (upd (upd (upd (upd (upd (upd none_ 2 (.v (.int .u8 tn))) 4 (.pt 1 0)) 6 (.b false)) 7 (.pt 2 0)) 8 (.pt 3 0)) 10 (.i (x.heard + x.ticks))) 11 (.i (x.speed % 10001))) 12 (.rp [.one, .q eSec (mkSecs d.form d.len), .one, .q ePnt (mkPts d.form), .one, .one, .one, .one, .one, .one])) 13 (.sl 4 0 ((rtK x.right (mkPts d.form).length j).length))) 14 (.i (j : Int))) (updO (updO (updO (updO (updO noOb 1 (.live ⟨[.v (.int .u8 x.fr), .v (.int .u8 x.lg), .q eU8 x.turns, .v (.int .u16 x.ahd), .v (.int .u16 x.heard), .v (.int .u16 x.ticks), .v (.int .u16 x.speed), .q eB x.right], 29, 1⟩)) 2 (.live ⟨[.one, .q eSec (mkSecs d.form d.len), .q eIL (mkParts d.form d.jn), .q ePnt (mkPts d.form), .q eIL (fullRoutes d.form d.len d.rs), .i (1 + d.speed % (2 * (10 * (1 + d.len % 20)))), .i (1 + d.mute % 1000), .i (1 + d.wait % 1000), .i (1 + d.cancel), .i (d.stay % 4)], 37, 1⟩)) 3 (.live ⟨[.i 4, .i x.heard, .i (-1), .i (dr x), .i (ah d x), .q eI (wk d x)], 40, 1⟩)) 4 (.live ⟨(enc eB (rtK x.right (mkPts d.form).length j)), 4, 1⟩)) 4 (.live ⟨(enc eB ((rtK x.right (mkPts d.form).length j).set j (x.right.getD j false : Bool))), 4, 1⟩)) (lu rfl (lu rfl (lu rfl (lu rfl (lu rfl (lu rfl (lu rfl (lu rfl (lu rfl (lu rfl ln)))))))))) rfl ?_
    refine regR ?_
    refine opG rfl (aop_move (av := .i (j : Int)) (.inl rfl) rfl rfl rfl ?_)
    refine opG rfl (aop_binI (u := (.int .i64 ((j + 1 : Nat) : Int))) rfl rfl rfl rfl rfl trivial (addN (by omega)) ?_)
    refine opG rfl (aop_move (av := .i ((j + 1 : Nat) : Int)) (.inr rfl) rfl rfl rfl ?_)
    refine op0 ?_
    show _ ∧ _
    refine ⟨by omega, trivial, ?_⟩
    exact imp_ler [(1, 1), (2, 2), (3, 3), (4, 4)] (lerL [(1, 1), (2, 2), (3, 3), (4, 4)] [((1, 1), .live ⟨[.v (.int .u8 x.fr), .v (.int .u8 x.lg), .q eU8 x.turns, .v (.int .u16 x.ahd), .v (.int .u16 x.heard), .v (.int .u16 x.ticks), .v (.int .u16 x.speed), .q eB x.right], 29, 1⟩), ((2, 2), .live ⟨[.one, .q eSec (mkSecs d.form d.len), .q eIL (mkParts d.form d.jn), .q ePnt (mkPts d.form), .q eIL (fullRoutes d.form d.len d.rs), .i (1 + d.speed % (2 * (10 * (1 + d.len % 20)))), .i (1 + d.mute % 1000), .i (1 + d.wait % 1000), .i (1 + d.cancel), .i (d.stay % 4)], 37, 1⟩), ((3, 3), .live ⟨[.i 4, .i x.heard, .i (-1), .i (dr x), .i (ah d x), .q eI (wk d x)], 40, 1⟩), ((4, 4), .live ⟨(enc eB (rtK x.right (mkPts d.form).length (j + 1))), 4, 1⟩)] rfl (by decide) (by decide) ⟨row_no (o := ⟨[.v (.int .u8 x.fr), .v (.int .u8 x.lg), .q eU8 x.turns, .v (.int .u16 x.ahd), .v (.int .u16 x.heard), .v (.int .u16 x.ticks), .v (.int .u16 x.speed), .q eB x.right], 29, 1⟩) rfl rfl, row_no (o := ⟨[.one, .q eSec (mkSecs d.form d.len), .q eIL (mkParts d.form d.jn), .q ePnt (mkPts d.form), .q eIL (fullRoutes d.form d.len d.rs), .i (1 + d.speed % (2 * (10 * (1 + d.len % 20)))), .i (1 + d.mute % 1000), .i (1 + d.wait % 1000), .i (1 + d.cancel), .i (d.stay % 4)], 37, 1⟩) rfl rfl, row_no (o := ⟨[.i 4, .i x.heard, .i (-1), .i (dr x), .i (ah d x), .q eI (wk d x)], 40, 1⟩) rfl rfl, row_no (o := ⟨(enc eB ((rtK x.right (mkPts d.form).length j).set j (x.right.getD j false : Bool))), 4, 1⟩) rfl (by exact congrArg (fun l_ => LObj.mk (enc eB l_) 4 1) rfl), trivial⟩ (sr_same 14 (.i ((j + 1) : Int)) rfl NoI.out (sr_map 13 (.sl 4 0 ((rtK x.right (mkPts d.form).length (j + 1)).length)) (by first | exact Ok.sl _ _ _ (by first | decide | simp) | exact Ok.pt _ _ (by first | decide | simp)) (by exact congrArg (AV.sl 4 0) (by rw [rtK_len, rtK_len])) (sr_same 12 (.rp [.one, .q eSec (mkSecs d.form d.len), .one, .q ePnt (mkPts d.form), .one, .one, .one, .one, .one, .one]) rfl NoI.out (sr_same 11 (.i (x.speed % 10001)) rfl NoI.out (sr_same 10 (.i (x.heard + x.ticks)) rfl NoI.out (sr_map 8 (.pt 3 0) (by first | exact Ok.sl _ _ _ (by first | decide | simp) | exact Ok.pt _ _ (by first | decide | simp)) rfl (sr_map 7 (.pt 2 0) (by first | exact Ok.sl _ _ _ (by first | decide | simp) | exact Ok.pt _ _ (by first | decide | simp)) rfl (sr_same 6 (.b false) rfl NoI.out (sr_map 4 (.pt 1 0) (by first | exact Ok.sl _ _ _ (by first | decide | simp) | exact Ok.pt _ _ (by first | decide | simp)) rfl (sr_same 2 (.v (.int .u8 tn)) rfl NoI.out sr_none))))))))))) (keep_of rfl)
   ·skip
    refine awp_exit ?_
    obtain ⟨RR, hRR⟩ : ∃ R_, R_ = (rtK x.right (mkPts d.form).length j) := ⟨_, rfl⟩
    have hRl : RR.length = (mkPts d.form).length := by rw [hRR]; exact rtK_len _ _ _
    refine awp_imp ⟨(upd (upd (upd (upd (upd (upd (upd (upd (upd (upd (upd none_ 2 (.v (.int .u8 tn))) 4 (.pt 1 0)) 6 (.b false)) 7 (.pt 2 0)) 8 (.pt 3 0)) 10 (.i (x.heard + x.ticks))) 11 (.i (x.speed % 10001))) 12 (.rp [.one, .q eSec (mkSecs d.form d.len), .one, .q ePnt (mkPts d.form), .one, .one, .one, .one, .one, .one])) 13 (.q eB RR)) 14 (.i (j : Int))) 60 (.b ((decide ((j : Int) < ((rtK x.right (mkPts d.form).length j).length : Int))) && (decide ((j : Int) < (x.right.length : Int)))))), (updO (updO (updO noOb 1 (.live ⟨[.v (.int .u8 x.fr), .v (.int .u8 x.lg), .q eU8 x.turns, .v (.int .u16 x.ahd), .v (.int .u16 x.heard), .v (.int .u16 x.ticks), .v (.int .u16 x.speed), .q eB x.right], 29, 1⟩)) 2 (.live ⟨[.one, .q eSec (mkSecs d.form d.len), .q eIL (mkParts d.form d.jn), .q ePnt (mkPts d.form), .q eIL (fullRoutes d.form d.len d.rs), .i (1 + d.speed % (2 * (10 * (1 + d.len % 20)))), .i (1 + d.mute % 1000), .i (1 + d.wait % 1000), .i (1 + d.cancel), .i (d.stay % 4)], 37, 1⟩)) 3 (.live ⟨[.i 4, .i x.heard, .i (-1), .i (dr x), .i (ah d x), .q eI (wk d x)], 40, 1⟩))⟩ ?_ ?_
    ·skip
     refine (frz_ [1, 2, 3] [(1, ⟨[.v (.int .u8 x.fr), .v (.int .u8 x.lg), .q eU8 x.turns, .v (.int .u16 x.ahd), .v (.int .u16 x.heard), .v (.int .u16 x.ticks), .v (.int .u16 x.speed), .q eB x.right], 29, 1⟩), (2, ⟨[.one, .q eSec (mkSecs d.form d.len), .q eIL (mkParts d.form d.jn), .q ePnt (mkPts d.form), .q eIL (fullRoutes d.form d.len d.rs), .i (1 + d.speed % (2 * (10 * (1 + d.len % 20)))), .i (1 + d.mute % 1000), .i (1 + d.wait % 1000), .i (1 + d.cancel), .i (d.stay % 4)], 37, 1⟩), (3, ⟨[.i 4, .i x.heard, .i (-1), .i (dr x), .i (ah d x), .q eI (wk d x)], 40, 1⟩)] rfl (fun _ h => h) ⟨keep_cells (cs := [.v (.int .u8 x.fr), .v (.int .u8 x.lg), .q eU8 x.turns, .v (.int .u16 x.ahd), .v (.int .u16 x.heard), .v (.int .u16 x.ticks), .v (.int .u16 x.speed), .q eB x.right]) (by simp) rfl rfl (frzs_cons (.inl rfl) (frzs_cons (.inl rfl) (frzs_cons (.inl rfl) (frzs_cons (.inl rfl) (frzs_cons (.inl rfl) (frzs_cons (.inl rfl) (frzs_cons (.inl rfl) (frzs_cons (.inl rfl) frzs_nil)))))))), keep_cells (cs := [.one, .q eSec (mkSecs d.form d.len), .q eIL (mkParts d.form d.jn), .q ePnt (mkPts d.form), .q eIL (fullRoutes d.form d.len d.rs), .i (1 + d.speed % (2 * (10 * (1 + d.len % 20)))), .i (1 + d.mute % 1000), .i (1 + d.wait % 1000), .i (1 + d.cancel), .i (d.stay % 4)]) (by simp) rfl rfl (frzs_cons (.inl rfl) (frzs_cons (.inl rfl) (frzs_cons (.inl rfl) (frzs_cons (.inl rfl) (frzs_cons (.inl rfl) (frzs_cons (.inl rfl) (frzs_cons (.inl rfl) (frzs_cons (.inl rfl) (frzs_cons (.inl rfl) (frzs_cons (.inl rfl) frzs_nil)))))))))), keep_cells (cs := [.i 4, .i x.heard, .i (-1), .i (dr x), .i (ah d x), .q eI (wk d x)]) (by simp) rfl rfl (frzs_cons (.inl rfl) (frzs_cons (.inl rfl) (frzs_cons (.inl rfl) (frzs_cons (.inl rfl) (frzs_cons (.inl rfl) (frzs_cons (.inl rfl) frzs_nil)))))), trivial⟩ (fz_same 60 (.b ((decide ((j : Int) < ((rtK x.right (mkPts d.form).length j).length : Int))) && (decide ((j : Int) < (x.right.length : Int))))) rfl (fz_same 14 (.i (j : Int)) rfl (fz_lend 13 (.q eB (rtK x.right (mkPts d.form).length j)) (lend_s (id := 4) (n := (rtK x.right (mkPts d.form).length j).length) (o := ⟨(enc eB (rtK x.right (mkPts d.form).length j)), 4, 1⟩) rfl (enc_len (fun _ => rfl) (by first | rfl | (simp; done)))) (fz_same 12 (.rp [.one, .q eSec (mkSecs d.form d.len), .one, .q ePnt (mkPts d.form), .one, .one, .one, .one, .one, .one]) rfl (fz_same 11 (.i (x.speed % 10001)) rfl (fz_same 10 (.i (x.heard + x.ticks)) rfl (fz_same 8 (.pt 3 0) rfl (fz_same 7 (.pt 2 0) rfl (fz_same 6 (.b false) rfl (fz_same 4 (.pt 1 0) rfl (fz_same 2 (.v (.int .u8 tn)) rfl fz_none)))))))))))).trans ?_
     exact imp_ler [(1, 1), (2, 2), (3, 3)] (lerL [(1, 1), (2, 2), (3, 3)] [((1, 1), .live ⟨[.v (.int .u8 x.fr), .v (.int .u8 x.lg), .q eU8 x.turns, .v (.int .u16 x.ahd), .v (.int .u16 x.heard), .v (.int .u16 x.ticks), .v (.int .u16 x.speed), .q eB x.right], 29, 1⟩), ((2, 2), .live ⟨[.one, .q eSec (mkSecs d.form d.len), .q eIL (mkParts d.form d.jn), .q ePnt (mkPts d.form), .q eIL (fullRoutes d.form d.len d.rs), .i (1 + d.speed % (2 * (10 * (1 + d.len % 20)))), .i (1 + d.mute % 1000), .i (1 + d.wait % 1000), .i (1 + d.cancel), .i (d.stay % 4)], 37, 1⟩), ((3, 3), .live ⟨[.i 4, .i x.heard, .i (-1), .i (dr x), .i (ah d x), .q eI (wk d x)], 40, 1⟩)] rfl (by decide) (by decide) ⟨row_no (o := ⟨[.v (.int .u8 x.fr), .v (.int .u8 x.lg), .q eU8 x.turns, .v (.int .u16 x.ahd), .v (.int .u16 x.heard), .v (.int .u16 x.ticks), .v (.int .u16 x.speed), .q eB x.right], 29, 1⟩) rfl rfl, row_no (o := ⟨[.one, .q eSec (mkSecs d.form d.len), .q eIL (mkParts d.form d.jn), .q ePnt (mkPts d.form), .q eIL (fullRoutes d.form d.len d.rs), .i (1 + d.speed % (2 * (10 * (1 + d.len % 20)))), .i (1 + d.mute % 1000), .i (1 + d.wait % 1000), .i (1 + d.cancel), .i (d.stay % 4)], 37, 1⟩) rfl rfl, row_no (o := ⟨[.i 4, .i x.heard, .i (-1), .i (dr x), .i (ah d x), .q eI (wk d x)], 40, 1⟩) rfl rfl, trivial⟩ (sr_same 60 (.b ((decide ((j : Int) < ((rtK x.right (mkPts d.form).length j).length : Int))) && (decide ((j : Int) < (x.right.length : Int))))) rfl NoI.out (sr_same 14 (.i (j : Int)) rfl NoI.out (sr_same 13 (.q eB RR) (by rw [hRR]; rfl) NoI.out (sr_same 12 (.rp [.one, .q eSec (mkSecs d.form d.len), .one, .q ePnt (mkPts d.form), .one, .one, .one, .one, .one, .one]) rfl NoI.out (sr_same 11 (.i (x.speed % 10001)) rfl NoI.out (sr_same 10 (.i (x.heard + x.ticks)) rfl NoI.out (sr_map 8 (.pt 3 0) (by first | exact Ok.sl _ _ _ (by first | decide | simp) | exact Ok.pt _ _ (by first | decide | simp)) rfl (sr_map 7 (.pt 2 0) (by first | exact Ok.sl _ _ _ (by first | decide | simp) | exact Ok.pt _ _ (by first | decide | simp)) rfl (sr_same 6 (.b false) rfl NoI.out (sr_map 4 (.pt 1 0) (by first | exact Ok.sl _ _ _ (by first | decide | simp) | exact Ok.pt _ _ (by first | decide | simp)) rfl (sr_same 2 (.v (.int .u8 tn)) rfl NoI.out sr_none)))))))))))) (keep_of rfl)
    refine seqR ?_
    refine opG rfl (aop_move (av := .q eB RR) (.inl rfl) rfl rfl rfl ?_)
    refine opG rfl (aop_appNil 57 rfl rfl rfl rfl ut27 in4 rfl (by decide) rfl rfl (enc_len (fun _ => rfl) rfl) (by omega) (by omega) rfl ?_)
    refine opG rfl (aop_move (av := .sl 57 0 RR.length) (.inr rfl) rfl rfl rfl ?_)
    refine op0 ?_
    refine seqR ?_
    refine opG rfl (aop_move (av := .v (.int .u8 tn)) (.inl rfl) rfl rfl rfl ?_)
    refine opG rfl (aop_conv' rfl rfl rfl ut5 ut3 rfl (IntWalk.i64_in _ (by omega)) ?_)
    refine opG rfl (aop_fieldAddr (av := .pt 2 0) (av' := .pt 2 3) rfl rfl rfl ft37_3 sz35 rfl rfl rfl ?_)
    refine opG rfl (aop_ld (av := .q ePnt (mkPts d.form)) rfl rfl rfl ag35 rfl rfl ?_)
    refine opG rfl (aop_len rfl rfl rfl rfl ut35 (len_ro rfl) ?_)
    refine opG rfl (aop_binI (u := (.int .i64 (q : Int))) rfl rfl rfl rfl rfl (by show _ ≠ _; omega) (by rw [hq]; exact remI htn.1) ?_)
    refine opG rfl (aop_move (av := .i (q : Int)) (.inr rfl) rfl rfl rfl ?_)
    refine op0 ?_
    refine rs_ (upd (upd (upd (upd (upd (upd (upd (upd (upd none_ 6 (.b false)) 7 (.pt 2 0)) 8 (.pt 3 0)) 10 (.i (x.heard + x.ticks))) 11 (.i (x.speed % 10001))) 12 (.rp [.one, .q eSec (mkSecs d.form d.len), .one, .q ePnt (mkPts d.form), .one, .one, .one, .one, .one, .one])) 13 (.q eB RR)) 15 (.sl 57 0 RR.length)) 16 (.i (q : Int))) (updO (updO (updO (updO noOb 1 (.live ⟨[.v (.int .u8 x.fr), .v (.int .u8 x.lg), .q eU8 x.turns, .v (.int .u16 x.ahd), .v (.int .u16 x.heard), .v (.int .u16 x.ticks), .v (.int .u16 x.speed), .q eB x.right], 29, 1⟩)) 2 (.live ⟨[.one, .q eSec (mkSecs d.form d.len), .q eIL (mkParts d.form d.jn), .q ePnt (mkPts d.form), .q eIL (fullRoutes d.form d.len d.rs), .i (1 + d.speed % (2 * (10 * (1 + d.len % 20)))), .i (1 + d.mute % 1000), .i (1 + d.wait % 1000), .i (1 + d.cancel), .i (d.stay % 4)], 37, 1⟩)) 3 (.live ⟨[.i 4, .i x.heard, .i (-1), .i (dr x), .i (ah d x), .q eI (wk d x)], 40, 1⟩)) 57 (.live ⟨(enc eB RR), 4, 1⟩)) (lu rfl (lu rfl (lu rfl (lu rfl (lu rfl (lu rfl (lu rfl (lu rfl (lu rfl ln))))))))) rfl ?_
    refine seqR ?_
    refine opG rfl (aop_move (av := .sl 57 0 RR.length) (.inl rfl) rfl rfl rfl ?_)
    refine opG rfl (aop_move (av := .i (q : Int)) (.inl rfl) rfl rfl rfl ?_)
    refine opG rfl (aop_move (av := .sl 57 0 RR.length) (.inl rfl) rfl rfl rfl ?_)
    refine opG rfl (aop_move (av := .i (q : Int)) (.inl rfl) rfl rfl rfl ?_)
    refine opG rfl (aop_ixO (k := q) rfl rfl rfl ut27 sz4 rfl rfl (by first | omega | (simp; done) | decide | (simp at *; omega)) ?_)
    refine opG rfl (aop_ldO (f := eB) (l := RR) false rfl rfl rfl ag4 rfl rfl rfl (fun _ => rfl) (by first | omega | (simp; done) | decide | (simp at *; omega)) rfl ?_)
    refine opG rfl (aop_not rfl rfl rfl rfl ?_)
    refine opG rfl (aop_ixO (k := q) rfl rfl rfl ut27 sz4 rfl rfl (by first | omega | (simp; done) | decide | (simp at *; omega)) ?_)
    refine opG rfl (aop_storeE (f := eB) (l := RR) (l' := RR.set q (!(RR.getD q false) : Bool)) (!(RR.getD q false) : Bool) rfl rfl rfl sz4 rfl rfl rfl rfl rfl (fun _ => rfl) (by first | omega | (simp; done) | decide | (simp at *; omega)) rfl rfl ?_)
    refine op0 ?_
    refine rs_ (upd (upd (upd (upd (upd (upd (upd (upd (upd none_ 6 (.b false)) 7 (.pt 2 0)) 8 (.pt 3 0)) 10 (.i (x.heard + x.ticks))) 11 (.i (x.speed % 10001))) 12 (.rp [.one, .q eSec (mkSecs d.form d.len), .one, .q ePnt (mkPts d.form), .one, .one, .one, .one, .one, .one])) 13 (.q eB RR)) 15 (.sl 57 0 RR.length)) 16 (.i (q : Int))) (updO (updO (updO (updO (updO noOb 1 (.live ⟨[.v (.int .u8 x.fr), .v (.int .u8 x.lg), .q eU8 x.turns, .v (.int .u16 x.ahd), .v (.int .u16 x.heard), .v (.int .u16 x.ticks), .v (.int .u16 x.speed), .q eB x.right], 29, 1⟩)) 2 (.live ⟨[.one, .q eSec (mkSecs d.form d.len), .q eIL (mkParts d.form d.jn), .q ePnt (mkPts d.form), .q eIL (fullRoutes d.form d.len d.rs), .i (1 + d.speed % (2 * (10 * (1 + d.len % 20)))), .i (1 + d.mute % 1000), .i (1 + d.wait % 1000), .i (1 + d.cancel), .i (d.stay % 4)], 37, 1⟩)) 3 (.live ⟨[.i 4, .i x.heard, .i (-1), .i (dr x), .i (ah d x), .q eI (wk d x)], 40, 1⟩)) 57 (.live ⟨(enc eB RR), 4, 1⟩)) 57 (.live ⟨(enc eB (RR.set q (!(RR.getD q false) : Bool))), 4, 1⟩)) (lu rfl (lu rfl (lu rfl (lu rfl (lu rfl (lu rfl (lu rfl (lu rfl (lu rfl ln))))))))) rfl ?_
    obtain ⟨TU, hTU⟩ : ∃ T_, T_ = RR.set q (!(RR.getD q false)) := ⟨_, rfl⟩
    have hTl : TU.length = (mkPts d.form).length := by rw [hTU, List.length_set]; exact hRl
    obtain ⟨SA, hSA⟩ : ∃ l, l = (spanF (mkSecs d.form d.len) (mkPts d.form) RR (wk d x) (dr x) (((x.heard + x.ticks) - x.heard) * (x.speed % 10001) - ah d x)) := ⟨_, rfl⟩
    obtain ⟨SB, hSB⟩ : ∃ l, l = (spanF (mkSecs d.form d.len) (mkPts d.form) TU (wk d x) (dr x) (((x.heard + x.ticks) - x.heard) * (x.speed % 10001) - ah d x)) := ⟨_, rfl⟩
    have hal : SA.length ≤ 14 := by rw [hSA]; exact Nat.le_trans (spanF_len hw3) (by omega)
    have hbl : SB.length ≤ 14 := by rw [hSB]; exact Nat.le_trans (spanF_len hw3) (by omega)
    have hP : Parts ((mkPts d.form).getD q dP) (wk d x).length SA.reverse SB.reverse := by rw [hSA, hSB]; exact span_parts hw1 (fun i h0 h => by rw [hTU]; exact legI_set i h0 h)
    have hra : SA.reverse.length = SA.length := List.length_reverse
    have hrb : SB.reverse.length = SB.length := List.length_reverse
    refine awp_imp ⟨(upd (upd (upd (upd (upd (upd (upd (upd (upd none_ 6 (.b false)) 7 (.pt 2 0)) 8 (.pt 3 0)) 10 (.i (x.heard + x.ticks))) 11 (.i (x.speed % 10001))) 12 (.rp [.one, .q eSec (mkSecs d.form d.len), .one, .q ePnt (mkPts d.form), .one, .one, .one, .one, .one, .one])) 13 (.q eB RR)) 15 (.q eB TU)) 16 (.i (q : Int))), (updO (updO noOb 2 (.live ⟨[.one, .q eSec (mkSecs d.form d.len), .q eIL (mkParts d.form d.jn), .q ePnt (mkPts d.form), .q eIL (fullRoutes d.form d.len d.rs), .i (1 + d.speed % (2 * (10 * (1 + d.len % 20)))), .i (1 + d.mute % 1000), .i (1 + d.wait % 1000), .i (1 + d.cancel), .i (d.stay % 4)], 37, 1⟩)) 3 (.live ⟨[.i 4, .i x.heard, .i (-1), .i (dr x), .i (ah d x), .q eI (wk d x)], 40, 1⟩))⟩ ?_ ?_
    ·skip
     refine (frz_ [2, 3] [(2, ⟨[.one, .q eSec (mkSecs d.form d.len), .q eIL (mkParts d.form d.jn), .q ePnt (mkPts d.form), .q eIL (fullRoutes d.form d.len d.rs), .i (1 + d.speed % (2 * (10 * (1 + d.len % 20)))), .i (1 + d.mute % 1000), .i (1 + d.wait % 1000), .i (1 + d.cancel), .i (d.stay % 4)], 37, 1⟩), (3, ⟨[.i 4, .i x.heard, .i (-1), .i (dr x), .i (ah d x), .q eI (wk d x)], 40, 1⟩)] rfl (fun _ h => h) ⟨keep_cells (cs := [.one, .q eSec (mkSecs d.form d.len), .q eIL (mkParts d.form d.jn), .q ePnt (mkPts d.form), .q eIL (fullRoutes d.form d.len d.rs), .i (1 + d.speed % (2 * (10 * (1 + d.len % 20)))), .i (1 + d.mute % 1000), .i (1 + d.wait % 1000), .i (1 + d.cancel), .i (d.stay % 4)]) (by simp) rfl rfl (frzs_cons (.inl rfl) (frzs_cons (.inl rfl) (frzs_cons (.inl rfl) (frzs_cons (.inl rfl) (frzs_cons (.inl rfl) (frzs_cons (.inl rfl) (frzs_cons (.inl rfl) (frzs_cons (.inl rfl) (frzs_cons (.inl rfl) (frzs_cons (.inl rfl) frzs_nil)))))))))), keep_cells (cs := [.i 4, .i x.heard, .i (-1), .i (dr x), .i (ah d x), .q eI (wk d x)]) (by simp) rfl rfl (frzs_cons (.inl rfl) (frzs_cons (.inl rfl) (frzs_cons (.inl rfl) (frzs_cons (.inl rfl) (frzs_cons (.inl rfl) (frzs_cons (.inl rfl) frzs_nil)))))), trivial⟩ (fz_same 16 (.i (q : Int)) rfl (fz_lend 15 (.ro RR.length (enc eB (RR.set q (!(RR.getD q false) : Bool)))) (lend_s (id := 57) (n := RR.length) (o := ⟨(enc eB (RR.set q (!(RR.getD q false) : Bool))), 4, 1⟩) rfl (enc_len (fun _ => rfl) (by first | rfl | (simp; done)))) (fz_same 13 (.q eB RR) rfl (fz_same 12 (.rp [.one, .q eSec (mkSecs d.form d.len), .one, .q ePnt (mkPts d.form), .one, .one, .one, .one, .one, .one]) rfl (fz_same 11 (.i (x.speed % 10001)) rfl (fz_same 10 (.i (x.heard + x.ticks)) rfl (fz_same 8 (.pt 3 0) rfl (fz_same 7 (.pt 2 0) rfl (fz_same 6 (.b false) rfl fz_none)))))))))).trans ?_
     exact imp_ler [(2, 2), (3, 3)] (lerJ 2 2 3 3 (o := ⟨[.one, .q eSec (mkSecs d.form d.len), .q eIL (mkParts d.form d.jn), .q ePnt (mkPts d.form), .q eIL (fullRoutes d.form d.len d.rs), .i (1 + d.speed % (2 * (10 * (1 + d.len % 20)))), .i (1 + d.mute % 1000), .i (1 + d.wait % 1000), .i (1 + d.cancel), .i (d.stay % 4)], 37, 1⟩) (o2 := ⟨[.i 4, .i x.heard, .i (-1), .i (dr x), .i (ah d x), .q eI (wk d x)], 40, 1⟩) (by decide) (by decide) rfl rfl rfl rfl (sS rfl (sS (by rw [hTU]; show AV.ro RR.length _ = AV.ro (RR.set q (!RR.getD q false)).length _; rw [List.length_set]) (sS rfl (sS rfl (sS rfl (sS rfl (sM rfl (sM rfl (sS rfl sr_none)))))))))) (keep_of rfl)
    refine awp_seq ?_
    refine awp_drawZ (m := 12) (fun b => (updO (updO (updO noOb 2 (.live ⟨[.one, .q eSec (mkSecs d.form d.len), .q eIL (mkParts d.form d.jn), .q ePnt (mkPts d.form), .q eIL (fullRoutes d.form d.len d.rs), .i (1 + d.speed % (2 * (10 * (1 + d.len % 20)))), .i (1 + d.mute % 1000), .i (1 + d.wait % 1000), .i (1 + d.cancel), .i (d.stay % 4)], 37, 1⟩)) 3 (.live ⟨[.i 4, .i x.heard, .i (-1), .i (dr x), .i (ah d x), .q eI (wk d x)], 40, 1⟩)) 58 (cond (b 6) (.live ⟨(enc eI SA.reverse), 3, 1⟩) .free))) (updO (updO (updO noOb 2 (.live ⟨[.one, .q eSec (mkSecs d.form d.len), .q eIL (mkParts d.form d.jn), .q ePnt (mkPts d.form), .q eIL (fullRoutes d.form d.len d.rs), .i (1 + d.speed % (2 * (10 * (1 + d.len % 20)))), .i (1 + d.mute % 1000), .i (1 + d.wait % 1000), .i (1 + d.cancel), .i (d.stay % 4)], 37, 1⟩)) 3 (.live ⟨[.i 4, .i x.heard, .i (-1), .i (dr x), .i (ah d x), .q eI (wk d x)], 40, 1⟩)) 58 (.live ⟨(enc eI SA.reverse), 3, 1⟩)) [6] (funext fun id_ => by by_cases e0_ : id_ = 58 <;> first | (subst e0_; rfl) | simp only [addO, updO, nbeq_ne e0_, cond_false]) (fun b b' h => by simp only [h 6 (by decide)]) (fun b h => by simp only [h 6 (by decide), cond_true]) [(98, .q eB TU), (97, .i (x.speed % 10001)), (96, .i (x.heard + x.ticks)), (95, .agg [.i 4, .i x.heard, .i (-1), .i (dr x), .i (ah d x), .q eI (wk d x)]), (94, .rp [.one, .q eSec (mkSecs d.form d.len), .one, .q ePnt (mkPts d.form), .one, .one, .one, .one, .one, .one]), (93, .sl 58 0 SA.reverse.length), (92, .q eI SA), (91, .q eB RR), (90, .i (x.speed % 10001)), (89, .i (x.heard + x.ticks)), (88, .agg [.i 4, .i x.heard, .i (-1), .i (dr x), .i (ah d x), .q eI (wk d x)]), (87, .rp [.one, .q eSec (mkSecs d.form d.len), .one, .q ePnt (mkPts d.form), .one, .one, .one, .one, .one, .one])] mixed (by kernel_rfl) ?_ ?_
    ·refine ⟨?_, ?_, ?_, ?_, ?_, ?_, ?_, ?_, ?_, ?_, ?_, ?_, trivial⟩
     ·exact sy_pure (by decide) (fun b => ⟨87, rfl, blt_lt rfl, fun st hob hE => aop_move (av := .rp [.one, .q eSec (mkSecs d.form d.len), .one, .q ePnt (mkPts d.form), .one, .one, .one, .one, .one, .one]) (.inl rfl) rfl rfl (hE 12 rfl) (by rw [hob]; rfl)⟩)
     ·exact sy_pure (by decide) (fun b => ⟨88, rfl, blt_lt rfl, fun st hob hE => aop_ldB (cells' := [.i 4, .i x.heard, .i (-1), .i (dr x), .i (ah d x), .q eI (wk d x)]) rfl rfl rfl ag40 sz40 (hE 8 rfl) (by rw [hob]; rfl) rfl rfl (by rw [hob]; rfl)⟩)
     ·exact sy_pure (by decide) (fun b => ⟨89, rfl, blt_lt rfl, fun st hob hE => aop_move (av := .i (x.heard + x.ticks)) (.inl rfl) rfl rfl (hE 10 rfl) (by rw [hob]; rfl)⟩)
     ·exact sy_pure (by decide) (fun b => ⟨90, rfl, blt_lt rfl, fun st hob hE => aop_move (av := .i (x.speed % 10001)) (.inl rfl) rfl rfl (hE 11 rfl) (by rw [hob]; rfl)⟩)
     ·exact sy_pure (by decide) (fun b => ⟨91, rfl, blt_lt rfl, fun st hob hE => aop_move (av := .q eB RR) (.inl rfl) rfl rfl (hE 13 rfl) (by rw [hob]; rfl)⟩)
     ·exact sy_pure (by decide) (fun b => ⟨92, rfl, blt_lt rfl, fun st hob hE => callW_ (show Fn Try.prog 13 [.rp [.one, .q eSec (mkSecs d.form d.len), .one, .q ePnt (mkPts d.form), .one, .one, .one, .one, .one, .one], .agg [.one, .i x.heard, .one, .i (dr x), .i (ah d x), .q eI (wk d x)], .i (x.heard + x.ticks), .i (x.speed % 10001), .q eB RR] (.q eI SA) from (by have h_ := (c_Span (mkSecs d.form d.len) (mkPts d.form) RR (wk d x) (x.heard + x.ticks) x.heard (x.speed % 10001) (dr x) (ah d x) (by omega) (by omega) (by omega) (by omega) (mkSecs_lenB _ _) (by omega) (by omega) (by omega) (by omega)); rw [← hSA] at h_; exact h_)) rfl rfl rfl rfl rfl bd13 (by show Lends _ ([st.env 87, st.env 88, st.env 89, st.env 90, st.env 91] ++ _) _; rw [hE 87 rfl, hE 88 rfl, hE 89 rfl, hE 90 rfl, hE 91 rfl]; exact (lends_cons (lend_n (av := .rp [.one, .q eSec (mkSecs d.form d.len), .one, .q ePnt (mkPts d.form), .one, .one, .one, .one, .one, .one])) (lends_cons (lend_agg (lends_cons (.one _ rfl) (lends_cons (lend_n (av := .i x.heard)) (lends_cons (.one _ rfl) (lends_cons (lend_n (av := .i (dr x))) (lends_cons (lend_n (av := .i (ah d x))) (lends_cons (lend_n (av := .q eI (wk d x))) lends_nil))))))) (lends_cons (lend_n (av := .i (x.heard + x.ticks))) (lends_cons (lend_n (av := .i (x.speed % 10001))) (lends_cons (lend_n (av := .q eB RR)) lends_nil)))))) (by rw [hob]; rfl)⟩)
     ·exact sy_fx (by decide) ⟨rfl, (fun d_ h_ => by cases h_ <;> exact blt_lt rfl), fun b hb_ hdep_ hcl_ st hob hE => by obtain ⟨en_, ob_⟩ := st; have hob_ : ob_ = (updO (updO (updO noOb 2 (.live ⟨[.one, .q eSec (mkSecs d.form d.len), .q eIL (mkParts d.form d.jn), .q ePnt (mkPts d.form), .q eIL (fullRoutes d.form d.len d.rs), .i (1 + d.speed % (2 * (10 * (1 + d.len % 20)))), .i (1 + d.mute % 1000), .i (1 + d.wait % 1000), .i (1 + d.cancel), .i (d.stay % 4)], 37, 1⟩)) 3 (.live ⟨[.i 4, .i x.heard, .i (-1), .i (dr x), .i (ah d x), .q eI (wk d x)], 40, 1⟩)) 58 .free) := Eq.trans hob (by simp only [hb_, cond_false, cond_true]); subst hob_; exact callO_ 58 (r10_Back SA (by omega)) rfl rfl rfl rfl rfl bd19 (by show Lends _ ([en_ 92] ++ _) _; rw [show en_ 92 = _ from hE 92 rfl]; exact (lends_cons (lend_n (av := .q eI SA)) lends_nil)) (.sl _ _ _ trivial) (news1 news0) (free1 rfl) rfl rfl ⟨rfl, fun id_ => by by_cases e0_ : id_ = 58 <;> first | (subst e0_; rfl) | simp only [addO, updO, nbeq_ne e0_, cond_false]⟩⟩
     ·exact sy_pure (by decide) (fun b => ⟨94, rfl, blt_lt rfl, fun st hob hE => aop_move (av := .rp [.one, .q eSec (mkSecs d.form d.len), .one, .q ePnt (mkPts d.form), .one, .one, .one, .one, .one, .one]) (.inl rfl) rfl rfl (hE 12 rfl) (by rw [hob]; rfl)⟩)
     ·exact sy_pure (by decide) (fun b => ⟨95, rfl, blt_lt rfl, fun st hob hE => aop_ldB (cells' := [.i 4, .i x.heard, .i (-1), .i (dr x), .i (ah d x), .q eI (wk d x)]) rfl rfl rfl ag40 sz40 (hE 8 rfl) (by rw [hob]; rfl) rfl rfl (by rw [hob]; rfl)⟩)
     ·exact sy_pure (by decide) (fun b => ⟨96, rfl, blt_lt rfl, fun st hob hE => aop_move (av := .i (x.heard + x.ticks)) (.inl rfl) rfl rfl (hE 10 rfl) (by rw [hob]; rfl)⟩)
     ·exact sy_pure (by decide) (fun b => ⟨97, rfl, blt_lt rfl, fun st hob hE => aop_move (av := .i (x.speed % 10001)) (.inl rfl) rfl rfl (hE 11 rfl) (by rw [hob]; rfl)⟩)
     ·exact sy_pure (by decide) (fun b => ⟨98, rfl, blt_lt rfl, fun st hob hE => aop_move (av := .q eB TU) (.inl rfl) rfl rfl (hE 15 rfl) (by rw [hob]; rfl)⟩)
    refine opG rfl (callW_ (show Fn Try.prog 13 [.rp [.one, .q eSec (mkSecs d.form d.len), .one, .q ePnt (mkPts d.form), .one, .one, .one, .one, .one, .one], .agg [.one, .i x.heard, .one, .i (dr x), .i (ah d x), .q eI (wk d x)], .i (x.heard + x.ticks), .i (x.speed % 10001), .q eB TU] (.q eI SB) from (by have h_ := (c_Span (mkSecs d.form d.len) (mkPts d.form) TU (wk d x) (x.heard + x.ticks) x.heard (x.speed % 10001) (dr x) (ah d x) (by omega) (by omega) (by omega) (by omega) (mkSecs_lenB _ _) (by omega) (by omega) (by omega) (by omega)); rw [← hSB] at h_; exact h_)) rfl rfl rfl rfl rfl bd13 (lends_cons (lend_n (av := .rp [.one, .q eSec (mkSecs d.form d.len), .one, .q ePnt (mkPts d.form), .one, .one, .one, .one, .one, .one])) (lends_cons (lend_agg (lends_cons (.one _ rfl) (lends_cons (lend_n (av := .i x.heard)) (lends_cons (.one _ rfl) (lends_cons (lend_n (av := .i (dr x))) (lends_cons (lend_n (av := .i (ah d x))) (lends_cons (lend_n (av := .q eI (wk d x))) lends_nil))))))) (lends_cons (lend_n (av := .i (x.heard + x.ticks))) (lends_cons (lend_n (av := .i (x.speed % 10001))) (lends_cons (lend_n (av := .q eB TU)) lends_nil))))) ?_)
    refine opG rfl (callO_ 59 (r10_Back SB (by omega)) rfl rfl rfl rfl rfl bd19 (lends_cons (lend_n (av := .q eI SB)) lends_nil) (.sl _ _ _ trivial) (news1 news0) (free1 rfl) rfl rfl ?_)
    refine opG rfl (aop_move (av := .sl 58 0 SA.reverse.length) (.inr rfl) rfl rfl rfl ?_)
    refine opG rfl (aop_move (av := .sl 59 0 SB.reverse.length) (.inr rfl) rfl rfl rfl ?_)
    refine op0 ?_
    refine rs_ (upd (upd (upd (upd (upd (upd none_ 6 (.b false)) 7 (.pt 2 0)) 8 (.pt 3 0)) 16 (.i (q : Int))) 17 (.sl 58 0 SA.reverse.length)) 18 (.sl 59 0 SB.reverse.length)) (updO (updO (updO (updO noOb 2 (.live ⟨[.one, .q eSec (mkSecs d.form d.len), .q eIL (mkParts d.form d.jn), .q ePnt (mkPts d.form), .q eIL (fullRoutes d.form d.len d.rs), .i (1 + d.speed % (2 * (10 * (1 + d.len % 20)))), .i (1 + d.mute % 1000), .i (1 + d.wait % 1000), .i (1 + d.cancel), .i (d.stay % 4)], 37, 1⟩)) 3 (.live ⟨[.i 4, .i x.heard, .i (-1), .i (dr x), .i (ah d x), .q eI (wk d x)], 40, 1⟩)) 58 (.live ⟨(enc eI SA.reverse), 3, 1⟩)) 59 (.live ⟨(enc eI SB.reverse), 3, 1⟩)) (lu rfl (lu rfl (lu rfl (lu rfl (lu rfl (lu rfl ln)))))) rfl ?_
    refine seqR ?_
    refine opG rfl (aop_fieldAddr (av := .pt 2 0) (av' := .pt 2 3) rfl rfl rfl ft37_3 sz35 rfl rfl rfl ?_)
    refine opG rfl (aop_ld (av := .q ePnt (mkPts d.form)) rfl rfl rfl ag35 rfl rfl ?_)
    refine opG rfl (aop_move (av := .i (q : Int)) (.inl rfl) rfl rfl rfl ?_)
    refine opG rfl (aop_ixE dP rfl rfl rfl ut35 sz58 rfl rfl (fun _ => rfl) rfl (by first | omega | (simp; done) | decide | (simp at *; omega)) ?_)
    refine opG rfl (aop_ldB (cells' := [.i (((mkPts d.form).getD q dP).node), .i (((mkPts d.form).getD q dP).stem), .i (((mkPts d.form).getD q dP).left), .i (((mkPts d.form).getD q dP).right)]) rfl rfl rfl ag58 sz58 rfl rfl rfl rfl ?_)
    refine opG rfl (aop_alloc 60 rfl rfl rfl rfl ze58 rfl ?_)
    refine opG rfl (aop_store rfl rfl rfl sz58 rfl rfl rfl rfl rfl (Nat.le_of_ble_eq_true rfl) rfl rfl ?_)
    refine op0 ?_
    refine rs_ (upd (upd (upd (upd (upd none_ 6 (.b false)) 8 (.pt 3 0)) 17 (.sl 58 0 SA.reverse.length)) 18 (.sl 59 0 SB.reverse.length)) 19 (.pt 60 0)) (updO (updO (updO (updO (updO (updO noOb 2 (.live ⟨[.one, .q eSec (mkSecs d.form d.len), .q eIL (mkParts d.form d.jn), .q ePnt (mkPts d.form), .q eIL (fullRoutes d.form d.len d.rs), .i (1 + d.speed % (2 * (10 * (1 + d.len % 20)))), .i (1 + d.mute % 1000), .i (1 + d.wait % 1000), .i (1 + d.cancel), .i (d.stay % 4)], 37, 1⟩)) 3 (.live ⟨[.i 4, .i x.heard, .i (-1), .i (dr x), .i (ah d x), .q eI (wk d x)], 40, 1⟩)) 58 (.live ⟨(enc eI SA.reverse), 3, 1⟩)) 59 (.live ⟨(enc eI SB.reverse), 3, 1⟩)) 60 (.live ⟨[.i 0, .i 0, .i 0, .i 0], 58, 1⟩)) 60 (.live ⟨[.i (((mkPts d.form).getD q dP).node), .i (((mkPts d.form).getD q dP).stem), .i (((mkPts d.form).getD q dP).left), .i (((mkPts d.form).getD q dP).right)], 58, 1⟩)) (lu rfl (lu rfl (lu rfl (lu rfl (lu rfl ln))))) rfl ?_
    refine awp_seq ?_
    refine seqR ?_
    refine opG rfl (aop_move (av := .i 0) (.inr rfl) rfl rfl rfl ?_)
    refine op0 ?_
    refine awp_block ?_
    refine awp_countI (fun i => ⟨(upd (upd (upd (upd (upd (upd none_ 6 (.b false)) 8 (.pt 1 0)) 17 (.sl 2 0 SA.reverse.length)) 18 (.sl 3 0 SB.reverse.length)) 19 (.pt 4 0)) 20 (.i (i : Int))), (updO (updO (updO (updO noOb 1 (.live ⟨[.i 4, .i x.heard, .i (-1), .i (dr x), .i (ah d x), .q eI (wk d x)], 40, 1⟩)) 2 (.live ⟨(enc eI SA.reverse), 3, 1⟩)) 3 (.live ⟨(enc eI SB.reverse), 3, 1⟩)) 4 (.live ⟨[.i (((mkPts d.form).getD q dP).node), .i (((mkPts d.form).getD q dP).stem), .i (((mkPts d.form).getD q dP).left), .i (((mkPts d.form).getD q dP).right)], 58, 1⟩))⟩) (fun i => SA.reverse.take i = SB.reverse.take i) ((min SA.reverse.length SB.reverse.length)) ?_ (by simp) (fun i hk_i hinv => ?_)
    ·skip
     exact imp_ler [(3, 1), (58, 2), (59, 3), (60, 4)] (lerL [(3, 1), (58, 2), (59, 3), (60, 4)] [((3, 1), .live ⟨[.i 4, .i x.heard, .i (-1), .i (dr x), .i (ah d x), .q eI (wk d x)], 40, 1⟩), ((58, 2), .live ⟨(enc eI SA.reverse), 3, 1⟩), ((59, 3), .live ⟨(enc eI SB.reverse), 3, 1⟩), ((60, 4), .live ⟨[.i (((mkPts d.form).getD q dP).node), .i (((mkPts d.form).getD q dP).stem), .i (((mkPts d.form).getD q dP).left), .i (((mkPts d.form).getD q dP).right)], 58, 1⟩)] rfl (by decide) (by decide) ⟨row_no (o := ⟨[.i 4, .i x.heard, .i (-1), .i (dr x), .i (ah d x), .q eI (wk d x)], 40, 1⟩) rfl rfl, row_no (o := ⟨(enc eI SA.reverse), 3, 1⟩) rfl rfl, row_no (o := ⟨(enc eI SB.reverse), 3, 1⟩) rfl rfl, row_no (o := ⟨[.i (((mkPts d.form).getD q dP).node), .i (((mkPts d.form).getD q dP).stem), .i (((mkPts d.form).getD q dP).left), .i (((mkPts d.form).getD q dP).right)], 58, 1⟩) rfl rfl, trivial⟩ (sr_same 20 (.i (0 : Int)) rfl NoI.out (sr_map 19 (.pt 4 0) (by first | exact Ok.sl _ _ _ (by first | decide | simp) | exact Ok.pt _ _ (by first | decide | simp)) rfl (sr_map 18 (.sl 3 0 SB.reverse.length) (by first | exact Ok.sl _ _ _ (by first | decide | simp) | exact Ok.pt _ _ (by first | decide | simp)) rfl (sr_map 17 (.sl 2 0 SA.reverse.length) (by first | exact Ok.sl _ _ _ (by first | decide | simp) | exact Ok.pt _ _ (by first | decide | simp)) rfl (sr_map 8 (.pt 1 0) (by first | exact Ok.sl _ _ _ (by first | decide | simp) | exact Ok.pt _ _ (by first | decide | simp)) rfl (sr_same 6 (.b false) rfl NoI.out sr_none))))))) (keep_of rfl)
    refine awp_seq ?_
    refine seqR ?_
    refine opG rfl (aop_move (av := .i (i : Int)) (.inl rfl) rfl rfl rfl ?_)
    refine opG rfl (aop_move (av := .sl 2 0 SA.reverse.length) (.inl rfl) rfl rfl rfl ?_)
    refine opG rfl (aop_len rfl rfl rfl rfl ut38 (len_sl rfl) ?_)
    refine opG rfl (aop_binI (u := (.bool (decide ((i : Int) < (SA.reverse.length : Int))))) rfl rfl rfl rfl rfl trivial rfl ?_)
    refine opG rfl (aop_move (av := .b (decide ((i : Int) < (SA.reverse.length : Int)))) (.inl rfl) rfl rfl rfl ?_)
    refine aops_grp 5 115 (.b ((decide ((i : Int) < (SA.reverse.length : Int))) && (decide ((i : Int) < (SB.reverse.length : Int))))) ?_ ?_
    ·refine (Bool.eq_false_or_eq_true (decide ((i : Int) < (SA.reverse.length : Int)))).elim (fun hg11 => ?_) (fun hg11 => ?_)
     ·skip
      have hf12 := of_decide_eq_true hg11
      refine opY rfl rfl rfl (by show AV.v (.bool (decide ((i : Int) < (SA.reverse.length : Int)))) = _; rw [hg11]) (aop_move (av := .i (i : Int)) (.inl rfl) rfl rfl rfl ?_)
      refine opY rfl rfl rfl (by show AV.v (.bool (decide ((i : Int) < (SA.reverse.length : Int)))) = _; rw [hg11]) (aop_move (av := .sl 3 0 SB.reverse.length) (.inl rfl) rfl rfl rfl ?_)
      refine opY rfl rfl rfl (by show AV.v (.bool (decide ((i : Int) < (SA.reverse.length : Int)))) = _; rw [hg11]) (aop_len rfl rfl rfl rfl ut38 (len_sl rfl) ?_)
      refine opY rfl rfl rfl (by show AV.v (.bool (decide ((i : Int) < (SA.reverse.length : Int)))) = _; rw [hg11]) (aop_binI (u := (.bool (decide ((i : Int) < (SB.reverse.length : Int))))) rfl rfl rfl rfl rfl trivial rfl ?_)
      refine opG rfl (aop_pick (b := (decide ((i : Int) < (SA.reverse.length : Int)))) (av := .b (decide ((i : Int) < (SB.reverse.length : Int)))) rfl rfl rfl rfl ((congrArg (fun b_ => cond b_ _ _) hg11).trans rfl) ?_)
      refine op0 ?_
      exact imp_env (lee_both 115 _ _ (by rw [hg11] <;> rfl) (lee_out 114 _ rfl (lee_out 113 _ rfl (lee_out 112 _ rfl (lee_out 111 _ rfl (lee_same _))))))
     ·skip
      have hf13 := of_decide_eq_false hg11
      refine opN rfl rfl rfl rfl (by show yv (.bool (decide ((i : Int) < (SA.reverse.length : Int)))) ≠ _; rw [hg11]; intro h; cases h) rfl rfl ?_
      refine opN rfl rfl rfl rfl (by show yv (.bool (decide ((i : Int) < (SA.reverse.length : Int)))) ≠ _; rw [hg11]; intro h; cases h) rfl rfl ?_
      refine opN rfl rfl rfl rfl (by show yv (.bool (decide ((i : Int) < (SA.reverse.length : Int)))) ≠ _; rw [hg11]; intro h; cases h) rfl rfl ?_
      refine opN rfl rfl rfl rfl (by show yv (.bool (decide ((i : Int) < (SA.reverse.length : Int)))) ≠ _; rw [hg11]; intro h; cases h) rfl rfl ?_
      refine opG rfl (aop_pick (b := (decide ((i : Int) < (SA.reverse.length : Int)))) (av := .b false) rfl rfl rfl rfl ((congrArg (fun b_ => cond b_ _ _) hg11).trans rfl) ?_)
      refine op0 ?_
      exact imp_env (lee_both 115 _ _ (by rw [hg11] <;> rfl) (lee_out 114 _ rfl (lee_out 113 _ rfl (lee_out 112 _ rfl (lee_out 111 _ rfl (lee_same _))))))
    refine op0 ?_
    refine rs_ (upd (upd (upd (upd (upd (upd (upd none_ 6 (.b false)) 8 (.pt 1 0)) 17 (.sl 2 0 SA.reverse.length)) 18 (.sl 3 0 SB.reverse.length)) 19 (.pt 4 0)) 20 (.i (i : Int))) 115 (.b ((decide ((i : Int) < (SA.reverse.length : Int))) && (decide ((i : Int) < (SB.reverse.length : Int)))))) (updO (updO (updO (updO noOb 1 (.live ⟨[.i 4, .i x.heard, .i (-1), .i (dr x), .i (ah d x), .q eI (wk d x)], 40, 1⟩)) 2 (.live ⟨(enc eI SA.reverse), 3, 1⟩)) 3 (.live ⟨(enc eI SB.reverse), 3, 1⟩)) 4 (.live ⟨[.i (((mkPts d.form).getD q dP).node), .i (((mkPts d.form).getD q dP).stem), .i (((mkPts d.form).getD q dP).left), .i (((mkPts d.form).getD q dP).right)], 58, 1⟩)) (lu rfl (lu rfl (lu rfl (lu rfl (lu rfl (lu rfl (lu rfl ln))))))) rfl ?_
    refine awp_cond ((decide ((i : Int) < (SA.reverse.length : Int))) && (decide ((i : Int) < (SB.reverse.length : Int)))) rfl rfl (fun hc3 => ?_) (fun hc3 => ?_)
    ·skip
     obtain ⟨hf14a, hf14b⟩ := and_t hc3
     have hf15 := of_decide_eq_true hf14a
     have hf16 := of_decide_eq_true hf14b
     refine awp_skip ?_
     refine awp_seq ?_
     refine awp_block ?_
     refine awp_seq ?_
     refine awp_seq ?_
     refine awp_draw (m := 9) [(126, .b ((SA.reverse.getD i 0) == (SB.reverse.getD i 0))), (125, .i (SB.reverse.getD i 0)), (124, .pt 3 (i * 1)), (123, .i (i : Int)), (122, .sl 3 0 SB.reverse.length), (121, .i (SA.reverse.getD i 0)), (120, .pt 2 (i * 1)), (119, .i (i : Int)), (118, .sl 2 0 SA.reverse.length)] mixed (by kernel_rfl) ?_ ?_
     ·refine ⟨?_, ?_, ?_, ?_, ?_, ?_, ?_, ?_, ?_, trivial⟩
      ·exact ⟨118, rfl, blt_lt rfl, fun st hob hE => aop_move (av := .sl 2 0 SA.reverse.length) (.inl rfl) rfl rfl (hE 17 rfl) (by rw [hob]; rfl)⟩
      ·exact ⟨119, rfl, blt_lt rfl, fun st hob hE => aop_move (av := .i (i : Int)) (.inl rfl) rfl rfl (hE 20 rfl) (by rw [hob]; rfl)⟩
      ·exact ⟨120, rfl, blt_lt rfl, fun st hob hE => aop_ixO (k := i) rfl rfl rfl ut38 sz3 (hE 118 rfl) (hE 119 rfl) (by first | omega | (simp; done) | decide | (simp at *; omega)) (by rw [hob]; rfl)⟩
      ·exact ⟨121, rfl, blt_lt rfl, fun st hob hE => aop_ldO (f := eI) (l := SA.reverse) 0 rfl rfl rfl ag3 (hE 120 rfl) (by rw [hob]; rfl) rfl (fun _ => rfl) (by first | omega | (simp; done) | decide | (simp at *; omega)) rfl (by rw [hob]; rfl)⟩
      ·exact ⟨122, rfl, blt_lt rfl, fun st hob hE => aop_move (av := .sl 3 0 SB.reverse.length) (.inl rfl) rfl rfl (hE 18 rfl) (by rw [hob]; rfl)⟩
      ·exact ⟨123, rfl, blt_lt rfl, fun st hob hE => aop_move (av := .i (i : Int)) (.inl rfl) rfl rfl (hE 20 rfl) (by rw [hob]; rfl)⟩
      ·exact ⟨124, rfl, blt_lt rfl, fun st hob hE => aop_ixO (k := i) rfl rfl rfl ut38 sz3 (hE 122 rfl) (hE 123 rfl) (by first | omega | (simp; done) | decide | (simp at *; omega)) (by rw [hob]; rfl)⟩
      ·exact ⟨125, rfl, blt_lt rfl, fun st hob hE => aop_ldO (f := eI) (l := SB.reverse) 0 rfl rfl rfl ag3 (hE 124 rfl) (by rw [hob]; rfl) rfl (fun _ => rfl) (by first | omega | (simp; done) | decide | (simp at *; omega)) rfl (by rw [hob]; rfl)⟩
      ·exact ⟨126, rfl, blt_lt rfl, fun st hob hE => aop_binI (u := (.bool ((SA.reverse.getD i 0) == (SB.reverse.getD i 0)))) rfl rfl rfl (hE 121 rfl) (hE 125 rfl) trivial rfl (by rw [hob]; rfl)⟩
     refine op0 ?_
     refine awp_cond ((SA.reverse.getD i 0) == (SB.reverse.getD i 0)) rfl rfl (fun hc4 => ?_) (fun hc4 => ?_)
     ·skip
      have hf17 := (beq_iff_eq).1 hc4
      have hgg := (beq_iff_eq).1 hc4
      refine awp_exit ?_
      refine regR ?_
      refine opG rfl (aop_move (av := .i (i : Int)) (.inl rfl) rfl rfl rfl ?_)
      refine opG rfl (aop_binI (u := (.int .i64 ((i + 1 : Nat) : Int))) rfl rfl rfl rfl rfl trivial (addN (by omega)) ?_)
      refine opG rfl (aop_move (av := .i ((i + 1 : Nat) : Int)) (.inr rfl) rfl rfl rfl ?_)
      refine op0 ?_
      show _ ∧ _
      refine ⟨by omega, (take_both (by omega) (by omega) hinv hgg), ?_⟩
      exact imp_ler [(1, 1), (2, 2), (3, 3), (4, 4)] (lerL [(1, 1), (2, 2), (3, 3), (4, 4)] [((1, 1), .live ⟨[.i 4, .i x.heard, .i (-1), .i (dr x), .i (ah d x), .q eI (wk d x)], 40, 1⟩), ((2, 2), .live ⟨(enc eI SA.reverse), 3, 1⟩), ((3, 3), .live ⟨(enc eI SB.reverse), 3, 1⟩), ((4, 4), .live ⟨[.i (((mkPts d.form).getD q dP).node), .i (((mkPts d.form).getD q dP).stem), .i (((mkPts d.form).getD q dP).left), .i (((mkPts d.form).getD q dP).right)], 58, 1⟩)] rfl (by decide) (by decide) ⟨row_no (o := ⟨[.i 4, .i x.heard, .i (-1), .i (dr x), .i (ah d x), .q eI (wk d x)], 40, 1⟩) rfl rfl, row_no (o := ⟨(enc eI SA.reverse), 3, 1⟩) rfl rfl, row_no (o := ⟨(enc eI SB.reverse), 3, 1⟩) rfl rfl, row_no (o := ⟨[.i (((mkPts d.form).getD q dP).node), .i (((mkPts d.form).getD q dP).stem), .i (((mkPts d.form).getD q dP).left), .i (((mkPts d.form).getD q dP).right)], 58, 1⟩) rfl rfl, trivial⟩ (sr_same 20 (.i ((i + 1) : Int)) rfl NoI.out (sr_map 19 (.pt 4 0) (by first | exact Ok.sl _ _ _ (by first | decide | simp) | exact Ok.pt _ _ (by first | decide | simp)) rfl (sr_map 18 (.sl 3 0 SB.reverse.length) (by first | exact Ok.sl _ _ _ (by first | decide | simp) | exact Ok.pt _ _ (by first | decide | simp)) rfl (sr_map 17 (.sl 2 0 SA.reverse.length) (by first | exact Ok.sl _ _ _ (by first | decide | simp) | exact Ok.pt _ _ (by first | decide | simp)) rfl (sr_map 8 (.pt 1 0) (by first | exact Ok.sl _ _ _ (by first | decide | simp) | exact Ok.pt _ _ (by first | decide | simp)) rfl (sr_same 6 (.b false) rfl NoI.out sr_none))))))) (keep_of rfl)
     ·skip
      have hf18 := (beq_eq_false_iff_ne).1 hc4
      have hpa := parts_at hP (by omega) (by omega) hinv ((beq_eq_false_iff_ne).1 hc4)
      refine awp_skip ?_
      refine awp_seq ?_
      refine (Bool.eq_false_or_eq_true (decide ((i : Int) ≥ ((wk d x).length : Int)))).elim (fun hg19 => ?_) (fun hg19 => ?_)
      ·skip
       have hf20 := of_decide_eq_true hg19
       refine (Bool.eq_false_or_eq_true ((SA.reverse.getD i 0) == (((mkPts d.form).getD q dP).left))).elim (fun hg21 => ?_) (fun hg21 => ?_)
       ·skip
        have hf22 := (beq_iff_eq).1 hg21
        refine (Bool.eq_false_or_eq_true ((SB.reverse.getD i 0) == (((mkPts d.form).getD q dP).left))).elim (fun hg23 => ?_) (fun hg23 => ?_)
        ·skip
         have hf24 := (beq_iff_eq).1 hg23
         refine awp_draw (m := 59) [(185, .b true), (184, .b true), (183, .v undef), (182, .v undef), (181, .v undef), (180, .v undef), (179, .v undef), (178, .v undef), (177, .v undef), (176, .b true), (175, .b true), (174, .v undef), (173, .v undef), (172, .v undef), (171, .v undef), (170, .v undef), (169, .v undef), (168, .v undef), (167, .b ((SB.reverse.getD i 0) == (((mkPts d.form).getD q dP).left))), (166, .b ((SB.reverse.getD i 0) == (((mkPts d.form).getD q dP).left))), (165, .i (((mkPts d.form).getD q dP).left)), (164, .pt 4 2), (163, .i (SB.reverse.getD i 0)), (162, .pt 3 (i * 1)), (161, .i (i : Int)), (160, .sl 3 0 SB.reverse.length), (159, .b true), (158, .b true), (157, .b true), (156, .v undef), (155, .v undef), (154, .v undef), (153, .v undef), (152, .v undef), (151, .v undef), (150, .v undef), (149, .b true), (148, .b true), (147, .v undef), (146, .v undef), (145, .v undef), (144, .v undef), (143, .v undef), (142, .v undef), (141, .v undef), (140, .b ((SA.reverse.getD i 0) == (((mkPts d.form).getD q dP).left))), (139, .b ((SA.reverse.getD i 0) == (((mkPts d.form).getD q dP).left))), (138, .i (((mkPts d.form).getD q dP).left)), (137, .pt 4 2), (136, .i (SA.reverse.getD i 0)), (135, .pt 2 (i * 1)), (134, .i (i : Int)), (133, .sl 2 0 SA.reverse.length), (132, .b (decide ((i : Int) ≥ ((wk d x).length : Int)))), (131, .b (decide ((i : Int) ≥ ((wk d x).length : Int)))), (130, .i ((wk d x).length : Int)), (129, .q eI (wk d x)), (128, .pt 1 5), (127, .i (i : Int))] mixed (by kernel_rfl) ?_ ?_
         ·refine ⟨?_, ?_, ?_, ?_, ?_, ?_, ?_, ?_, ?_, ?_, ?_, ?_, ?_, ?_, ?_, ?_, ?_, ?_, ?_, ?_, ?_, ?_, ?_, ?_, ?_, ?_, ?_, ?_, ?_, ?_, ?_, ?_, ?_, ?_, ?_, ?_, ?_, ?_, ?_, ?_, ?_, ?_, ?_, ?_, ?_, ?_, ?_, ?_, ?_, ?_, ?_, ?_, ?_, ?_, ?_, ?_, ?_, ?_, ?_, trivial⟩
          ·exact ⟨127, rfl, blt_lt rfl, fun st hob hE => aop_move (av := .i (i : Int)) (.inl rfl) rfl rfl (hE 20 rfl) (by rw [hob]; rfl)⟩
          ·exact ⟨128, rfl, blt_lt rfl, fun st hob hE => aop_fieldAddr (av := .pt 1 0) (av' := .pt 1 5) rfl rfl rfl ft40_5 sz38 (hE 8 rfl) rfl rfl (by rw [hob]; rfl)⟩
          ·exact ⟨129, rfl, blt_lt rfl, fun st hob hE => aop_ld (av := .q eI (wk d x)) rfl rfl rfl ag38 (hE 128 rfl) (by rw [hob]; rfl) (by rw [hob]; rfl)⟩
          ·exact ⟨130, rfl, blt_lt rfl, fun st hob hE => aop_len rfl rfl rfl rfl ut38 (len_ro (hE 129 rfl)) (by rw [hob]; rfl)⟩
          ·exact ⟨131, rfl, blt_lt rfl, fun st hob hE => aop_binI (u := (.bool (decide ((i : Int) ≥ ((wk d x).length : Int))))) rfl rfl rfl (hE 127 rfl) (hE 130 rfl) trivial rfl (by rw [hob]; rfl)⟩
          ·exact ⟨132, rfl, blt_lt rfl, fun st hob hE => aop_move (av := .b (decide ((i : Int) ≥ ((wk d x).length : Int)))) (.inl rfl) rfl rfl (hE 131 rfl) (by rw [hob]; rfl)⟩
          ·exact gY1 hg19 rfl rfl (blt_lt rfl) rfl ⟨133, rfl, blt_lt rfl, fun st hob hE => aop_move (av := .sl 2 0 SA.reverse.length) (.inl rfl) rfl rfl (hE 17 rfl) (by rw [hob]; rfl)⟩
          ·exact gY1 hg19 rfl rfl (blt_lt rfl) rfl ⟨134, rfl, blt_lt rfl, fun st hob hE => aop_move (av := .i (i : Int)) (.inl rfl) rfl rfl (hE 20 rfl) (by rw [hob]; rfl)⟩
          ·exact gY1 hg19 rfl rfl (blt_lt rfl) rfl ⟨135, rfl, blt_lt rfl, fun st hob hE => aop_ixO (k := i) rfl rfl rfl ut38 sz3 (hE 133 rfl) (hE 134 rfl) (by first | omega | (simp; done) | decide | (simp at *; omega)) (by rw [hob]; rfl)⟩
          ·exact gY1 hg19 rfl rfl (blt_lt rfl) rfl ⟨136, rfl, blt_lt rfl, fun st hob hE => aop_ldO (f := eI) (l := SA.reverse) 0 rfl rfl rfl ag3 (hE 135 rfl) (by rw [hob]; rfl) rfl (fun _ => rfl) (by first | omega | (simp; done) | decide | (simp at *; omega)) rfl (by rw [hob]; rfl)⟩
          ·exact gY1 hg19 rfl rfl (blt_lt rfl) rfl ⟨137, rfl, blt_lt rfl, fun st hob hE => aop_fieldAddr (av := .pt 4 0) (av' := .pt 4 2) rfl rfl rfl ft58_2 sz3 (hE 19 rfl) rfl rfl (by rw [hob]; rfl)⟩
          ·exact gY1 hg19 rfl rfl (blt_lt rfl) rfl ⟨138, rfl, blt_lt rfl, fun st hob hE => aop_ld (av := .i (((mkPts d.form).getD q dP).left)) rfl rfl rfl ag3 (hE 137 rfl) (by rw [hob]; rfl) (by rw [hob]; rfl)⟩
          ·exact gY1 hg19 rfl rfl (blt_lt rfl) rfl ⟨139, rfl, blt_lt rfl, fun st hob hE => aop_binI (u := (.bool ((SA.reverse.getD i 0) == (((mkPts d.form).getD q dP).left)))) rfl rfl rfl (hE 136 rfl) (hE 138 rfl) trivial rfl (by rw [hob]; rfl)⟩
          ·exact gY1 hg19 rfl rfl (blt_lt rfl) rfl ⟨140, rfl, blt_lt rfl, fun st hob hE => aop_move (av := .b ((SA.reverse.getD i 0) == (((mkPts d.form).getD q dP).left))) (.inl rfl) rfl rfl (hE 139 rfl) (by rw [hob]; rfl)⟩
          ·exact gN0 hg21 rfl rfl (blt_lt rfl) rfl rfl (blt_lt rfl) rfl
          ·exact gN0 hg21 rfl rfl (blt_lt rfl) rfl rfl (blt_lt rfl) rfl
          ·exact gN0 hg21 rfl rfl (blt_lt rfl) rfl rfl (blt_lt rfl) rfl
          ·exact gN0 hg21 rfl rfl (blt_lt rfl) rfl rfl (blt_lt rfl) rfl
          ·exact gN0 hg21 rfl rfl (blt_lt rfl) rfl rfl (blt_lt rfl) rfl
          ·exact gN0 hg21 rfl rfl (blt_lt rfl) rfl rfl (blt_lt rfl) rfl
          ·exact gN0 hg21 rfl rfl (blt_lt rfl) rfl rfl (blt_lt rfl) rfl
          ·exact gY1 hg19 rfl rfl (blt_lt rfl) rfl ⟨148, rfl, blt_lt rfl, fun st hob hE => aop_pick (b := ((SA.reverse.getD i 0) == (((mkPts d.form).getD q dP).left))) (av := .b true) rfl rfl rfl (hE 140 rfl) (by rw [hg21]; rfl) (by rw [hob]; rfl)⟩
          ·exact gY1 hg19 rfl rfl (blt_lt rfl) rfl ⟨149, rfl, blt_lt rfl, fun st hob hE => aop_move (av := .b true) (.inl rfl) rfl rfl (hE 148 rfl) (by rw [hob]; rfl)⟩
          ·exact gN0 rfl rfl rfl (blt_lt rfl) rfl rfl (blt_lt rfl) rfl
          ·exact gN0 rfl rfl rfl (blt_lt rfl) rfl rfl (blt_lt rfl) rfl
          ·exact gN0 rfl rfl rfl (blt_lt rfl) rfl rfl (blt_lt rfl) rfl
          ·exact gN0 rfl rfl rfl (blt_lt rfl) rfl rfl (blt_lt rfl) rfl
          ·exact gN0 rfl rfl rfl (blt_lt rfl) rfl rfl (blt_lt rfl) rfl
          ·exact gN0 rfl rfl rfl (blt_lt rfl) rfl rfl (blt_lt rfl) rfl
          ·exact gN0 rfl rfl rfl (blt_lt rfl) rfl rfl (blt_lt rfl) rfl
          ·exact gY1 hg19 rfl rfl (blt_lt rfl) rfl ⟨157, rfl, blt_lt rfl, fun st hob hE => aop_pick (b := true) (av := .b true) rfl rfl rfl (hE 149 rfl) rfl (by rw [hob]; rfl)⟩
          ·exact ⟨158, rfl, blt_lt rfl, fun st hob hE => aop_pick (b := (decide ((i : Int) ≥ ((wk d x).length : Int)))) (av := .b true) rfl rfl rfl (hE 132 rfl) (by rw [hg19]; exact hE 157 rfl) (by rw [hob]; rfl)⟩
          ·exact ⟨159, rfl, blt_lt rfl, fun st hob hE => aop_move (av := .b true) (.inl rfl) rfl rfl (hE 158 rfl) (by rw [hob]; rfl)⟩
          ·exact gY1 rfl rfl rfl (blt_lt rfl) rfl ⟨160, rfl, blt_lt rfl, fun st hob hE => aop_move (av := .sl 3 0 SB.reverse.length) (.inl rfl) rfl rfl (hE 18 rfl) (by rw [hob]; rfl)⟩
          ·exact gY1 rfl rfl rfl (blt_lt rfl) rfl ⟨161, rfl, blt_lt rfl, fun st hob hE => aop_move (av := .i (i : Int)) (.inl rfl) rfl rfl (hE 20 rfl) (by rw [hob]; rfl)⟩
          ·exact gY1 rfl rfl rfl (blt_lt rfl) rfl ⟨162, rfl, blt_lt rfl, fun st hob hE => aop_ixO (k := i) rfl rfl rfl ut38 sz3 (hE 160 rfl) (hE 161 rfl) (by first | omega | (simp; done) | decide | (simp at *; omega)) (by rw [hob]; rfl)⟩
          ·exact gY1 rfl rfl rfl (blt_lt rfl) rfl ⟨163, rfl, blt_lt rfl, fun st hob hE => aop_ldO (f := eI) (l := SB.reverse) 0 rfl rfl rfl ag3 (hE 162 rfl) (by rw [hob]; rfl) rfl (fun _ => rfl) (by first | omega | (simp; done) | decide | (simp at *; omega)) rfl (by rw [hob]; rfl)⟩
          ·exact gY1 rfl rfl rfl (blt_lt rfl) rfl ⟨164, rfl, blt_lt rfl, fun st hob hE => aop_fieldAddr (av := .pt 4 0) (av' := .pt 4 2) rfl rfl rfl ft58_2 sz3 (hE 19 rfl) rfl rfl (by rw [hob]; rfl)⟩
          ·exact gY1 rfl rfl rfl (blt_lt rfl) rfl ⟨165, rfl, blt_lt rfl, fun st hob hE => aop_ld (av := .i (((mkPts d.form).getD q dP).left)) rfl rfl rfl ag3 (hE 164 rfl) (by rw [hob]; rfl) (by rw [hob]; rfl)⟩
          ·exact gY1 rfl rfl rfl (blt_lt rfl) rfl ⟨166, rfl, blt_lt rfl, fun st hob hE => aop_binI (u := (.bool ((SB.reverse.getD i 0) == (((mkPts d.form).getD q dP).left)))) rfl rfl rfl (hE 163 rfl) (hE 165 rfl) trivial rfl (by rw [hob]; rfl)⟩
          ·exact gY1 rfl rfl rfl (blt_lt rfl) rfl ⟨167, rfl, blt_lt rfl, fun st hob hE => aop_move (av := .b ((SB.reverse.getD i 0) == (((mkPts d.form).getD q dP).left))) (.inl rfl) rfl rfl (hE 166 rfl) (by rw [hob]; rfl)⟩
          ·exact gN0 hg23 rfl rfl (blt_lt rfl) rfl rfl (blt_lt rfl) rfl
          ·exact gN0 hg23 rfl rfl (blt_lt rfl) rfl rfl (blt_lt rfl) rfl
          ·exact gN0 hg23 rfl rfl (blt_lt rfl) rfl rfl (blt_lt rfl) rfl
          ·exact gN0 hg23 rfl rfl (blt_lt rfl) rfl rfl (blt_lt rfl) rfl
          ·exact gN0 hg23 rfl rfl (blt_lt rfl) rfl rfl (blt_lt rfl) rfl
          ·exact gN0 hg23 rfl rfl (blt_lt rfl) rfl rfl (blt_lt rfl) rfl
          ·exact gN0 hg23 rfl rfl (blt_lt rfl) rfl rfl (blt_lt rfl) rfl
          ·exact gY1 rfl rfl rfl (blt_lt rfl) rfl ⟨175, rfl, blt_lt rfl, fun st hob hE => aop_pick (b := ((SB.reverse.getD i 0) == (((mkPts d.form).getD q dP).left))) (av := .b true) rfl rfl rfl (hE 167 rfl) (by rw [hg23]; rfl) (by rw [hob]; rfl)⟩
          ·exact gY1 rfl rfl rfl (blt_lt rfl) rfl ⟨176, rfl, blt_lt rfl, fun st hob hE => aop_move (av := .b true) (.inl rfl) rfl rfl (hE 175 rfl) (by rw [hob]; rfl)⟩
          ·exact gN0 rfl rfl rfl (blt_lt rfl) rfl rfl (blt_lt rfl) rfl
          ·exact gN0 rfl rfl rfl (blt_lt rfl) rfl rfl (blt_lt rfl) rfl
          ·exact gN0 rfl rfl rfl (blt_lt rfl) rfl rfl (blt_lt rfl) rfl
          ·exact gN0 rfl rfl rfl (blt_lt rfl) rfl rfl (blt_lt rfl) rfl
          ·exact gN0 rfl rfl rfl (blt_lt rfl) rfl rfl (blt_lt rfl) rfl
          ·exact gN0 rfl rfl rfl (blt_lt rfl) rfl rfl (blt_lt rfl) rfl
          ·exact gN0 rfl rfl rfl (blt_lt rfl) rfl rfl (blt_lt rfl) rfl
          ·exact gY1 rfl rfl rfl (blt_lt rfl) rfl ⟨184, rfl, blt_lt rfl, fun st hob hE => aop_pick (b := true) (av := .b true) rfl rfl rfl (hE 176 rfl) rfl (by rw [hob]; rfl)⟩
          ·exact ⟨185, rfl, blt_lt rfl, fun st hob hE => aop_pick (b := true) (av := .b true) rfl rfl rfl (hE 159 rfl) (hE 184 rfl) (by rw [hob]; rfl)⟩
         refine opG rfl (aop_move (av := .b true) (.inr rfl) rfl rfl rfl ?_)
         refine op0 ?_
         refine awp_ret ?_
         exact fret (av := .v (.bool true)) rfl rfl (by first | rfl | (rw [leg_last hpa.2.2 (by omega) (by omega)]; simp))
        ·skip
         have hf25 := (beq_eq_false_iff_ne).1 hg23
         refine (Bool.eq_false_or_eq_true ((SB.reverse.getD i 0) == (((mkPts d.form).getD q dP).right))).elim (fun hg26 => ?_) (fun hg26 => ?_)
         ·skip
          have hf27 := (beq_iff_eq).1 hg26
          refine awp_draw (m := 59) [(185, .b true), (184, .b true), (183, .v undef), (182, .v undef), (181, .v undef), (180, .v undef), (179, .v undef), (178, .v undef), (177, .v undef), (176, .b ((SB.reverse.getD i 0) == (((mkPts d.form).getD q dP).right))), (175, .b ((SB.reverse.getD i 0) == (((mkPts d.form).getD q dP).right))), (174, .b ((SB.reverse.getD i 0) == (((mkPts d.form).getD q dP).right))), (173, .i (((mkPts d.form).getD q dP).right)), (172, .pt 4 3), (171, .i (SB.reverse.getD i 0)), (170, .pt 3 (i * 1)), (169, .i (i : Int)), (168, .sl 3 0 SB.reverse.length), (167, .b ((SB.reverse.getD i 0) == (((mkPts d.form).getD q dP).left))), (166, .b ((SB.reverse.getD i 0) == (((mkPts d.form).getD q dP).left))), (165, .i (((mkPts d.form).getD q dP).left)), (164, .pt 4 2), (163, .i (SB.reverse.getD i 0)), (162, .pt 3 (i * 1)), (161, .i (i : Int)), (160, .sl 3 0 SB.reverse.length), (159, .b true), (158, .b true), (157, .b true), (156, .v undef), (155, .v undef), (154, .v undef), (153, .v undef), (152, .v undef), (151, .v undef), (150, .v undef), (149, .b true), (148, .b true), (147, .v undef), (146, .v undef), (145, .v undef), (144, .v undef), (143, .v undef), (142, .v undef), (141, .v undef), (140, .b ((SA.reverse.getD i 0) == (((mkPts d.form).getD q dP).left))), (139, .b ((SA.reverse.getD i 0) == (((mkPts d.form).getD q dP).left))), (138, .i (((mkPts d.form).getD q dP).left)), (137, .pt 4 2), (136, .i (SA.reverse.getD i 0)), (135, .pt 2 (i * 1)), (134, .i (i : Int)), (133, .sl 2 0 SA.reverse.length), (132, .b (decide ((i : Int) ≥ ((wk d x).length : Int)))), (131, .b (decide ((i : Int) ≥ ((wk d x).length : Int)))), (130, .i ((wk d x).length : Int)), (129, .q eI (wk d x)), (128, .pt 1 5), (127, .i (i : Int))] mixed (by kernel_rfl) ?_ ?_
          ·refine ⟨?_, ?_, ?_, ?_, ?_, ?_, ?_, ?_, ?_, ?_, ?_, ?_, ?_, ?_, ?_, ?_, ?_, ?_, ?_, ?_, ?_, ?_, ?_, ?_, ?_, ?_, ?_, ?_, ?_, ?_, ?_, ?_, ?_, ?_, ?_, ?_, ?_, ?_, ?_, ?_, ?_, ?_, ?_, ?_, ?_, ?_, ?_, ?_, ?_, ?_, ?_, ?_, ?_, ?_, ?_, ?_, ?_, ?_, ?_, trivial⟩
           ·exact ⟨127, rfl, blt_lt rfl, fun st hob hE => aop_move (av := .i (i : Int)) (.inl rfl) rfl rfl (hE 20 rfl) (by rw [hob]; rfl)⟩
           ·exact ⟨128, rfl, blt_lt rfl, fun st hob hE => aop_fieldAddr (av := .pt 1 0) (av' := .pt 1 5) rfl rfl rfl ft40_5 sz38 (hE 8 rfl) rfl rfl (by rw [hob]; rfl)⟩
           ·exact ⟨129, rfl, blt_lt rfl, fun st hob hE => aop_ld (av := .q eI (wk d x)) rfl rfl rfl ag38 (hE 128 rfl) (by rw [hob]; rfl) (by rw [hob]; rfl)⟩
           ·exact ⟨130, rfl, blt_lt rfl, fun st hob hE => aop_len rfl rfl rfl rfl ut38 (len_ro (hE 129 rfl)) (by rw [hob]; rfl)⟩
           ·exact ⟨131, rfl, blt_lt rfl, fun st hob hE => aop_binI (u := (.bool (decide ((i : Int) ≥ ((wk d x).length : Int))))) rfl rfl rfl (hE 127 rfl) (hE 130 rfl) trivial rfl (by rw [hob]; rfl)⟩
           ·exact ⟨132, rfl, blt_lt rfl, fun st hob hE => aop_move (av := .b (decide ((i : Int) ≥ ((wk d x).length : Int)))) (.inl rfl) rfl rfl (hE 131 rfl) (by rw [hob]; rfl)⟩
           ·exact gY1 hg19 rfl rfl (blt_lt rfl) rfl ⟨133, rfl, blt_lt rfl, fun st hob hE => aop_move (av := .sl 2 0 SA.reverse.length) (.inl rfl) rfl rfl (hE 17 rfl) (by rw [hob]; rfl)⟩
           ·exact gY1 hg19 rfl rfl (blt_lt rfl) rfl ⟨134, rfl, blt_lt rfl, fun st hob hE => aop_move (av := .i (i : Int)) (.inl rfl) rfl rfl (hE 20 rfl) (by rw [hob]; rfl)⟩
           ·exact gY1 hg19 rfl rfl (blt_lt rfl) rfl ⟨135, rfl, blt_lt rfl, fun st hob hE => aop_ixO (k := i) rfl rfl rfl ut38 sz3 (hE 133 rfl) (hE 134 rfl) (by first | omega | (simp; done) | decide | (simp at *; omega)) (by rw [hob]; rfl)⟩
           ·exact gY1 hg19 rfl rfl (blt_lt rfl) rfl ⟨136, rfl, blt_lt rfl, fun st hob hE => aop_ldO (f := eI) (l := SA.reverse) 0 rfl rfl rfl ag3 (hE 135 rfl) (by rw [hob]; rfl) rfl (fun _ => rfl) (by first | omega | (simp; done) | decide | (simp at *; omega)) rfl (by rw [hob]; rfl)⟩
           ·exact gY1 hg19 rfl rfl (blt_lt rfl) rfl ⟨137, rfl, blt_lt rfl, fun st hob hE => aop_fieldAddr (av := .pt 4 0) (av' := .pt 4 2) rfl rfl rfl ft58_2 sz3 (hE 19 rfl) rfl rfl (by rw [hob]; rfl)⟩
           ·exact gY1 hg19 rfl rfl (blt_lt rfl) rfl ⟨138, rfl, blt_lt rfl, fun st hob hE => aop_ld (av := .i (((mkPts d.form).getD q dP).left)) rfl rfl rfl ag3 (hE 137 rfl) (by rw [hob]; rfl) (by rw [hob]; rfl)⟩
           ·exact gY1 hg19 rfl rfl (blt_lt rfl) rfl ⟨139, rfl, blt_lt rfl, fun st hob hE => aop_binI (u := (.bool ((SA.reverse.getD i 0) == (((mkPts d.form).getD q dP).left)))) rfl rfl rfl (hE 136 rfl) (hE 138 rfl) trivial rfl (by rw [hob]; rfl)⟩
           ·exact gY1 hg19 rfl rfl (blt_lt rfl) rfl ⟨140, rfl, blt_lt rfl, fun st hob hE => aop_move (av := .b ((SA.reverse.getD i 0) == (((mkPts d.form).getD q dP).left))) (.inl rfl) rfl rfl (hE 139 rfl) (by rw [hob]; rfl)⟩
           ·exact gN0 hg21 rfl rfl (blt_lt rfl) rfl rfl (blt_lt rfl) rfl
           ·exact gN0 hg21 rfl rfl (blt_lt rfl) rfl rfl (blt_lt rfl) rfl
           ·exact gN0 hg21 rfl rfl (blt_lt rfl) rfl rfl (blt_lt rfl) rfl
           ·exact gN0 hg21 rfl rfl (blt_lt rfl) rfl rfl (blt_lt rfl) rfl
           ·exact gN0 hg21 rfl rfl (blt_lt rfl) rfl rfl (blt_lt rfl) rfl
           ·exact gN0 hg21 rfl rfl (blt_lt rfl) rfl rfl (blt_lt rfl) rfl
           ·exact gN0 hg21 rfl rfl (blt_lt rfl) rfl rfl (blt_lt rfl) rfl
           ·exact gY1 hg19 rfl rfl (blt_lt rfl) rfl ⟨148, rfl, blt_lt rfl, fun st hob hE => aop_pick (b := ((SA.reverse.getD i 0) == (((mkPts d.form).getD q dP).left))) (av := .b true) rfl rfl rfl (hE 140 rfl) (by rw [hg21]; rfl) (by rw [hob]; rfl)⟩
           ·exact gY1 hg19 rfl rfl (blt_lt rfl) rfl ⟨149, rfl, blt_lt rfl, fun st hob hE => aop_move (av := .b true) (.inl rfl) rfl rfl (hE 148 rfl) (by rw [hob]; rfl)⟩
           ·exact gN0 rfl rfl rfl (blt_lt rfl) rfl rfl (blt_lt rfl) rfl
           ·exact gN0 rfl rfl rfl (blt_lt rfl) rfl rfl (blt_lt rfl) rfl
           ·exact gN0 rfl rfl rfl (blt_lt rfl) rfl rfl (blt_lt rfl) rfl
           ·exact gN0 rfl rfl rfl (blt_lt rfl) rfl rfl (blt_lt rfl) rfl
           ·exact gN0 rfl rfl rfl (blt_lt rfl) rfl rfl (blt_lt rfl) rfl
           ·exact gN0 rfl rfl rfl (blt_lt rfl) rfl rfl (blt_lt rfl) rfl
           ·exact gN0 rfl rfl rfl (blt_lt rfl) rfl rfl (blt_lt rfl) rfl
           ·exact gY1 hg19 rfl rfl (blt_lt rfl) rfl ⟨157, rfl, blt_lt rfl, fun st hob hE => aop_pick (b := true) (av := .b true) rfl rfl rfl (hE 149 rfl) rfl (by rw [hob]; rfl)⟩
           ·exact ⟨158, rfl, blt_lt rfl, fun st hob hE => aop_pick (b := (decide ((i : Int) ≥ ((wk d x).length : Int)))) (av := .b true) rfl rfl rfl (hE 132 rfl) (by rw [hg19]; exact hE 157 rfl) (by rw [hob]; rfl)⟩
           ·exact ⟨159, rfl, blt_lt rfl, fun st hob hE => aop_move (av := .b true) (.inl rfl) rfl rfl (hE 158 rfl) (by rw [hob]; rfl)⟩
           ·exact gY1 rfl rfl rfl (blt_lt rfl) rfl ⟨160, rfl, blt_lt rfl, fun st hob hE => aop_move (av := .sl 3 0 SB.reverse.length) (.inl rfl) rfl rfl (hE 18 rfl) (by rw [hob]; rfl)⟩
           ·exact gY1 rfl rfl rfl (blt_lt rfl) rfl ⟨161, rfl, blt_lt rfl, fun st hob hE => aop_move (av := .i (i : Int)) (.inl rfl) rfl rfl (hE 20 rfl) (by rw [hob]; rfl)⟩
           ·exact gY1 rfl rfl rfl (blt_lt rfl) rfl ⟨162, rfl, blt_lt rfl, fun st hob hE => aop_ixO (k := i) rfl rfl rfl ut38 sz3 (hE 160 rfl) (hE 161 rfl) (by first | omega | (simp; done) | decide | (simp at *; omega)) (by rw [hob]; rfl)⟩
           ·exact gY1 rfl rfl rfl (blt_lt rfl) rfl ⟨163, rfl, blt_lt rfl, fun st hob hE => aop_ldO (f := eI) (l := SB.reverse) 0 rfl rfl rfl ag3 (hE 162 rfl) (by rw [hob]; rfl) rfl (fun _ => rfl) (by first | omega | (simp; done) | decide | (simp at *; omega)) rfl (by rw [hob]; rfl)⟩
           ·exact gY1 rfl rfl rfl (blt_lt rfl) rfl ⟨164, rfl, blt_lt rfl, fun st hob hE => aop_fieldAddr (av := .pt 4 0) (av' := .pt 4 2) rfl rfl rfl ft58_2 sz3 (hE 19 rfl) rfl rfl (by rw [hob]; rfl)⟩
           ·exact gY1 rfl rfl rfl (blt_lt rfl) rfl ⟨165, rfl, blt_lt rfl, fun st hob hE => aop_ld (av := .i (((mkPts d.form).getD q dP).left)) rfl rfl rfl ag3 (hE 164 rfl) (by rw [hob]; rfl) (by rw [hob]; rfl)⟩
           ·exact gY1 rfl rfl rfl (blt_lt rfl) rfl ⟨166, rfl, blt_lt rfl, fun st hob hE => aop_binI (u := (.bool ((SB.reverse.getD i 0) == (((mkPts d.form).getD q dP).left)))) rfl rfl rfl (hE 163 rfl) (hE 165 rfl) trivial rfl (by rw [hob]; rfl)⟩
           ·exact gY1 rfl rfl rfl (blt_lt rfl) rfl ⟨167, rfl, blt_lt rfl, fun st hob hE => aop_move (av := .b ((SB.reverse.getD i 0) == (((mkPts d.form).getD q dP).left))) (.inl rfl) rfl rfl (hE 166 rfl) (by rw [hob]; rfl)⟩
           ·exact gY0 hg23 rfl rfl (blt_lt rfl) rfl ⟨168, rfl, blt_lt rfl, fun st hob hE => aop_move (av := .sl 3 0 SB.reverse.length) (.inl rfl) rfl rfl (hE 18 rfl) (by rw [hob]; rfl)⟩
           ·exact gY0 hg23 rfl rfl (blt_lt rfl) rfl ⟨169, rfl, blt_lt rfl, fun st hob hE => aop_move (av := .i (i : Int)) (.inl rfl) rfl rfl (hE 20 rfl) (by rw [hob]; rfl)⟩
           ·exact gY0 hg23 rfl rfl (blt_lt rfl) rfl ⟨170, rfl, blt_lt rfl, fun st hob hE => aop_ixO (k := i) rfl rfl rfl ut38 sz3 (hE 168 rfl) (hE 169 rfl) (by first | omega | (simp; done) | decide | (simp at *; omega)) (by rw [hob]; rfl)⟩
           ·exact gY0 hg23 rfl rfl (blt_lt rfl) rfl ⟨171, rfl, blt_lt rfl, fun st hob hE => aop_ldO (f := eI) (l := SB.reverse) 0 rfl rfl rfl ag3 (hE 170 rfl) (by rw [hob]; rfl) rfl (fun _ => rfl) (by first | omega | (simp; done) | decide | (simp at *; omega)) rfl (by rw [hob]; rfl)⟩
           ·exact gY0 hg23 rfl rfl (blt_lt rfl) rfl ⟨172, rfl, blt_lt rfl, fun st hob hE => aop_fieldAddr (av := .pt 4 0) (av' := .pt 4 3) rfl rfl rfl ft58_3 sz3 (hE 19 rfl) rfl rfl (by rw [hob]; rfl)⟩
           ·exact gY0 hg23 rfl rfl (blt_lt rfl) rfl ⟨173, rfl, blt_lt rfl, fun st hob hE => aop_ld (av := .i (((mkPts d.form).getD q dP).right)) rfl rfl rfl ag3 (hE 172 rfl) (by rw [hob]; rfl) (by rw [hob]; rfl)⟩
           ·exact gY0 hg23 rfl rfl (blt_lt rfl) rfl ⟨174, rfl, blt_lt rfl, fun st hob hE => aop_binI (u := (.bool ((SB.reverse.getD i 0) == (((mkPts d.form).getD q dP).right)))) rfl rfl rfl (hE 171 rfl) (hE 173 rfl) trivial rfl (by rw [hob]; rfl)⟩
           ·exact gY1 rfl rfl rfl (blt_lt rfl) rfl ⟨175, rfl, blt_lt rfl, fun st hob hE => aop_pick (b := ((SB.reverse.getD i 0) == (((mkPts d.form).getD q dP).left))) (av := .b ((SB.reverse.getD i 0) == (((mkPts d.form).getD q dP).right))) rfl rfl rfl (hE 167 rfl) (by rw [hg23]; exact hE 174 rfl) (by rw [hob]; rfl)⟩
           ·exact gY1 rfl rfl rfl (blt_lt rfl) rfl ⟨176, rfl, blt_lt rfl, fun st hob hE => aop_move (av := .b ((SB.reverse.getD i 0) == (((mkPts d.form).getD q dP).right))) (.inl rfl) rfl rfl (hE 175 rfl) (by rw [hob]; rfl)⟩
           ·exact gN0 hg26 rfl rfl (blt_lt rfl) rfl rfl (blt_lt rfl) rfl
           ·exact gN0 hg26 rfl rfl (blt_lt rfl) rfl rfl (blt_lt rfl) rfl
           ·exact gN0 hg26 rfl rfl (blt_lt rfl) rfl rfl (blt_lt rfl) rfl
           ·exact gN0 hg26 rfl rfl (blt_lt rfl) rfl rfl (blt_lt rfl) rfl
           ·exact gN0 hg26 rfl rfl (blt_lt rfl) rfl rfl (blt_lt rfl) rfl
           ·exact gN0 hg26 rfl rfl (blt_lt rfl) rfl rfl (blt_lt rfl) rfl
           ·exact gN0 hg26 rfl rfl (blt_lt rfl) rfl rfl (blt_lt rfl) rfl
           ·exact gY1 rfl rfl rfl (blt_lt rfl) rfl ⟨184, rfl, blt_lt rfl, fun st hob hE => aop_pick (b := ((SB.reverse.getD i 0) == (((mkPts d.form).getD q dP).right))) (av := .b true) rfl rfl rfl (hE 176 rfl) (by rw [hg26]; rfl) (by rw [hob]; rfl)⟩
           ·exact ⟨185, rfl, blt_lt rfl, fun st hob hE => aop_pick (b := true) (av := .b true) rfl rfl rfl (hE 159 rfl) (hE 184 rfl) (by rw [hob]; rfl)⟩
          refine opG rfl (aop_move (av := .b true) (.inr rfl) rfl rfl rfl ?_)
          refine op0 ?_
          refine awp_ret ?_
          exact fret (av := .v (.bool true)) rfl rfl (by first | rfl | (rw [leg_last hpa.2.2 (by omega) (by omega)]; simp))
         ·skip
          have hf28 := (beq_eq_false_iff_ne).1 hg26
          refine awp_draw (m := 59) [(185, .b ((SB.reverse.getD i 0) == (((mkPts d.form).getD q dP).stem))), (184, .b ((SB.reverse.getD i 0) == (((mkPts d.form).getD q dP).stem))), (183, .b ((SB.reverse.getD i 0) == (((mkPts d.form).getD q dP).stem))), (182, .i (((mkPts d.form).getD q dP).stem)), (181, .pt 4 1), (180, .i (SB.reverse.getD i 0)), (179, .pt 3 (i * 1)), (178, .i (i : Int)), (177, .sl 3 0 SB.reverse.length), (176, .b ((SB.reverse.getD i 0) == (((mkPts d.form).getD q dP).right))), (175, .b ((SB.reverse.getD i 0) == (((mkPts d.form).getD q dP).right))), (174, .b ((SB.reverse.getD i 0) == (((mkPts d.form).getD q dP).right))), (173, .i (((mkPts d.form).getD q dP).right)), (172, .pt 4 3), (171, .i (SB.reverse.getD i 0)), (170, .pt 3 (i * 1)), (169, .i (i : Int)), (168, .sl 3 0 SB.reverse.length), (167, .b ((SB.reverse.getD i 0) == (((mkPts d.form).getD q dP).left))), (166, .b ((SB.reverse.getD i 0) == (((mkPts d.form).getD q dP).left))), (165, .i (((mkPts d.form).getD q dP).left)), (164, .pt 4 2), (163, .i (SB.reverse.getD i 0)), (162, .pt 3 (i * 1)), (161, .i (i : Int)), (160, .sl 3 0 SB.reverse.length), (159, .b true), (158, .b true), (157, .b true), (156, .v undef), (155, .v undef), (154, .v undef), (153, .v undef), (152, .v undef), (151, .v undef), (150, .v undef), (149, .b true), (148, .b true), (147, .v undef), (146, .v undef), (145, .v undef), (144, .v undef), (143, .v undef), (142, .v undef), (141, .v undef), (140, .b ((SA.reverse.getD i 0) == (((mkPts d.form).getD q dP).left))), (139, .b ((SA.reverse.getD i 0) == (((mkPts d.form).getD q dP).left))), (138, .i (((mkPts d.form).getD q dP).left)), (137, .pt 4 2), (136, .i (SA.reverse.getD i 0)), (135, .pt 2 (i * 1)), (134, .i (i : Int)), (133, .sl 2 0 SA.reverse.length), (132, .b (decide ((i : Int) ≥ ((wk d x).length : Int)))), (131, .b (decide ((i : Int) ≥ ((wk d x).length : Int)))), (130, .i ((wk d x).length : Int)), (129, .q eI (wk d x)), (128, .pt 1 5), (127, .i (i : Int))] mixed (by kernel_rfl) ?_ ?_
          ·refine ⟨?_, ?_, ?_, ?_, ?_, ?_, ?_, ?_, ?_, ?_, ?_, ?_, ?_, ?_, ?_, ?_, ?_, ?_, ?_, ?_, ?_, ?_, ?_, ?_, ?_, ?_, ?_, ?_, ?_, ?_, ?_, ?_, ?_, ?_, ?_, ?_, ?_, ?_, ?_, ?_, ?_, ?_, ?_, ?_, ?_, ?_, ?_, ?_, ?_, ?_, ?_, ?_, ?_, ?_, ?_, ?_, ?_, ?_, ?_, trivial⟩
           ·exact ⟨127, rfl, blt_lt rfl, fun st hob hE => aop_move (av := .i (i : Int)) (.inl rfl) rfl rfl (hE 20 rfl) (by rw [hob]; rfl)⟩
           ·exact ⟨128, rfl, blt_lt rfl, fun st hob hE => aop_fieldAddr (av := .pt 1 0) (av' := .pt 1 5) rfl rfl rfl ft40_5 sz38 (hE 8 rfl) rfl rfl (by rw [hob]; rfl)⟩
           ·exact ⟨129, rfl, blt_lt rfl, fun st hob hE => aop_ld (av := .q eI (wk d x)) rfl rfl rfl ag38 (hE 128 rfl) (by rw [hob]; rfl) (by rw [hob]; rfl)⟩
           ·exact ⟨130, rfl, blt_lt rfl, fun st hob hE => aop_len rfl rfl rfl rfl ut38 (len_ro (hE 129 rfl)) (by rw [hob]; rfl)⟩
           ·exact ⟨131, rfl, blt_lt rfl, fun st hob hE => aop_binI (u := (.bool (decide ((i : Int) ≥ ((wk d x).length : Int))))) rfl rfl rfl (hE 127 rfl) (hE 130 rfl) trivial rfl (by rw [hob]; rfl)⟩
           ·exact ⟨132, rfl, blt_lt rfl, fun st hob hE => aop_move (av := .b (decide ((i : Int) ≥ ((wk d x).length : Int)))) (.inl rfl) rfl rfl (hE 131 rfl) (by rw [hob]; rfl)⟩
           ·exact gY1 hg19 rfl rfl (blt_lt rfl) rfl ⟨133, rfl, blt_lt rfl, fun st hob hE => aop_move (av := .sl 2 0 SA.reverse.length) (.inl rfl) rfl rfl (hE 17 rfl) (by rw [hob]; rfl)⟩
           ·exact gY1 hg19 rfl rfl (blt_lt rfl) rfl ⟨134, rfl, blt_lt rfl, fun st hob hE => aop_move (av := .i (i : Int)) (.inl rfl) rfl rfl (hE 20 rfl) (by rw [hob]; rfl)⟩
           ·exact gY1 hg19 rfl rfl (blt_lt rfl) rfl ⟨135, rfl, blt_lt rfl, fun st hob hE => aop_ixO (k := i) rfl rfl rfl ut38 sz3 (hE 133 rfl) (hE 134 rfl) (by first | omega | (simp; done) | decide | (simp at *; omega)) (by rw [hob]; rfl)⟩
           ·exact gY1 hg19 rfl rfl (blt_lt rfl) rfl ⟨136, rfl, blt_lt rfl, fun st hob hE => aop_ldO (f := eI) (l := SA.reverse) 0 rfl rfl rfl ag3 (hE 135 rfl) (by rw [hob]; rfl) rfl (fun _ => rfl) (by first | omega | (simp; done) | decide | (simp at *; omega)) rfl (by rw [hob]; rfl)⟩
           ·exact gY1 hg19 rfl rfl (blt_lt rfl) rfl ⟨137, rfl, blt_lt rfl, fun st hob hE => aop_fieldAddr (av := .pt 4 0) (av' := .pt 4 2) rfl rfl rfl ft58_2 sz3 (hE 19 rfl) rfl rfl (by rw [hob]; rfl)⟩
           ·exact gY1 hg19 rfl rfl (blt_lt rfl) rfl ⟨138, rfl, blt_lt rfl, fun st hob hE => aop_ld (av := .i (((mkPts d.form).getD q dP).left)) rfl rfl rfl ag3 (hE 137 rfl) (by rw [hob]; rfl) (by rw [hob]; rfl)⟩
           ·exact gY1 hg19 rfl rfl (blt_lt rfl) rfl ⟨139, rfl, blt_lt rfl, fun st hob hE => aop_binI (u := (.bool ((SA.reverse.getD i 0) == (((mkPts d.form).getD q dP).left)))) rfl rfl rfl (hE 136 rfl) (hE 138 rfl) trivial rfl (by rw [hob]; rfl)⟩
           ·exact gY1 hg19 rfl rfl (blt_lt rfl) rfl ⟨140, rfl, blt_lt rfl, fun st hob hE => aop_move (av := .b ((SA.reverse.getD i 0) == (((mkPts d.form).getD q dP).left))) (.inl rfl) rfl rfl (hE 139 rfl) (by rw [hob]; rfl)⟩
           ·exact gN0 hg21 rfl rfl (blt_lt rfl) rfl rfl (blt_lt rfl) rfl
           ·exact gN0 hg21 rfl rfl (blt_lt rfl) rfl rfl (blt_lt rfl) rfl
           ·exact gN0 hg21 rfl rfl (blt_lt rfl) rfl rfl (blt_lt rfl) rfl
           ·exact gN0 hg21 rfl rfl (blt_lt rfl) rfl rfl (blt_lt rfl) rfl
           ·exact gN0 hg21 rfl rfl (blt_lt rfl) rfl rfl (blt_lt rfl) rfl
           ·exact gN0 hg21 rfl rfl (blt_lt rfl) rfl rfl (blt_lt rfl) rfl
           ·exact gN0 hg21 rfl rfl (blt_lt rfl) rfl rfl (blt_lt rfl) rfl
           ·exact gY1 hg19 rfl rfl (blt_lt rfl) rfl ⟨148, rfl, blt_lt rfl, fun st hob hE => aop_pick (b := ((SA.reverse.getD i 0) == (((mkPts d.form).getD q dP).left))) (av := .b true) rfl rfl rfl (hE 140 rfl) (by rw [hg21]; rfl) (by rw [hob]; rfl)⟩
           ·exact gY1 hg19 rfl rfl (blt_lt rfl) rfl ⟨149, rfl, blt_lt rfl, fun st hob hE => aop_move (av := .b true) (.inl rfl) rfl rfl (hE 148 rfl) (by rw [hob]; rfl)⟩
           ·exact gN0 rfl rfl rfl (blt_lt rfl) rfl rfl (blt_lt rfl) rfl
           ·exact gN0 rfl rfl rfl (blt_lt rfl) rfl rfl (blt_lt rfl) rfl
           ·exact gN0 rfl rfl rfl (blt_lt rfl) rfl rfl (blt_lt rfl) rfl
           ·exact gN0 rfl rfl rfl (blt_lt rfl) rfl rfl (blt_lt rfl) rfl
           ·exact gN0 rfl rfl rfl (blt_lt rfl) rfl rfl (blt_lt rfl) rfl
           ·exact gN0 rfl rfl rfl (blt_lt rfl) rfl rfl (blt_lt rfl) rfl
           ·exact gN0 rfl rfl rfl (blt_lt rfl) rfl rfl (blt_lt rfl) rfl
           ·exact gY1 hg19 rfl rfl (blt_lt rfl) rfl ⟨157, rfl, blt_lt rfl, fun st hob hE => aop_pick (b := true) (av := .b true) rfl rfl rfl (hE 149 rfl) rfl (by rw [hob]; rfl)⟩
           ·exact ⟨158, rfl, blt_lt rfl, fun st hob hE => aop_pick (b := (decide ((i : Int) ≥ ((wk d x).length : Int)))) (av := .b true) rfl rfl rfl (hE 132 rfl) (by rw [hg19]; exact hE 157 rfl) (by rw [hob]; rfl)⟩
           ·exact ⟨159, rfl, blt_lt rfl, fun st hob hE => aop_move (av := .b true) (.inl rfl) rfl rfl (hE 158 rfl) (by rw [hob]; rfl)⟩
           ·exact gY1 rfl rfl rfl (blt_lt rfl) rfl ⟨160, rfl, blt_lt rfl, fun st hob hE => aop_move (av := .sl 3 0 SB.reverse.length) (.inl rfl) rfl rfl (hE 18 rfl) (by rw [hob]; rfl)⟩
           ·exact gY1 rfl rfl rfl (blt_lt rfl) rfl ⟨161, rfl, blt_lt rfl, fun st hob hE => aop_move (av := .i (i : Int)) (.inl rfl) rfl rfl (hE 20 rfl) (by rw [hob]; rfl)⟩
           ·exact gY1 rfl rfl rfl (blt_lt rfl) rfl ⟨162, rfl, blt_lt rfl, fun st hob hE => aop_ixO (k := i) rfl rfl rfl ut38 sz3 (hE 160 rfl) (hE 161 rfl) (by first | omega | (simp; done) | decide | (simp at *; omega)) (by rw [hob]; rfl)⟩
           ·exact gY1 rfl rfl rfl (blt_lt rfl) rfl ⟨163, rfl, blt_lt rfl, fun st hob hE => aop_ldO (f := eI) (l := SB.reverse) 0 rfl rfl rfl ag3 (hE 162 rfl) (by rw [hob]; rfl) rfl (fun _ => rfl) (by first | omega | (simp; done) | decide | (simp at *; omega)) rfl (by rw [hob]; rfl)⟩
           ·exact gY1 rfl rfl rfl (blt_lt rfl) rfl ⟨164, rfl, blt_lt rfl, fun st hob hE => aop_fieldAddr (av := .pt 4 0) (av' := .pt 4 2) rfl rfl rfl ft58_2 sz3 (hE 19 rfl) rfl rfl (by rw [hob]; rfl)⟩
           ·exact gY1 rfl rfl rfl (blt_lt rfl) rfl ⟨165, rfl, blt_lt rfl, fun st hob hE => aop_ld (av := .i (((mkPts d.form).getD q dP).left)) rfl rfl rfl ag3 (hE 164 rfl) (by rw [hob]; rfl) (by rw [hob]; rfl)⟩
           ·exact gY1 rfl rfl rfl (blt_lt rfl) rfl ⟨166, rfl, blt_lt rfl, fun st hob hE => aop_binI (u := (.bool ((SB.reverse.getD i 0) == (((mkPts d.form).getD q dP).left)))) rfl rfl rfl (hE 163 rfl) (hE 165 rfl) trivial rfl (by rw [hob]; rfl)⟩
           ·exact gY1 rfl rfl rfl (blt_lt rfl) rfl ⟨167, rfl, blt_lt rfl, fun st hob hE => aop_move (av := .b ((SB.reverse.getD i 0) == (((mkPts d.form).getD q dP).left))) (.inl rfl) rfl rfl (hE 166 rfl) (by rw [hob]; rfl)⟩
           ·exact gY0 hg23 rfl rfl (blt_lt rfl) rfl ⟨168, rfl, blt_lt rfl, fun st hob hE => aop_move (av := .sl 3 0 SB.reverse.length) (.inl rfl) rfl rfl (hE 18 rfl) (by rw [hob]; rfl)⟩
           ·exact gY0 hg23 rfl rfl (blt_lt rfl) rfl ⟨169, rfl, blt_lt rfl, fun st hob hE => aop_move (av := .i (i : Int)) (.inl rfl) rfl rfl (hE 20 rfl) (by rw [hob]; rfl)⟩
           ·exact gY0 hg23 rfl rfl (blt_lt rfl) rfl ⟨170, rfl, blt_lt rfl, fun st hob hE => aop_ixO (k := i) rfl rfl rfl ut38 sz3 (hE 168 rfl) (hE 169 rfl) (by first | omega | (simp; done) | decide | (simp at *; omega)) (by rw [hob]; rfl)⟩
           ·exact gY0 hg23 rfl rfl (blt_lt rfl) rfl ⟨171, rfl, blt_lt rfl, fun st hob hE => aop_ldO (f := eI) (l := SB.reverse) 0 rfl rfl rfl ag3 (hE 170 rfl) (by rw [hob]; rfl) rfl (fun _ => rfl) (by first | omega | (simp; done) | decide | (simp at *; omega)) rfl (by rw [hob]; rfl)⟩
           ·exact gY0 hg23 rfl rfl (blt_lt rfl) rfl ⟨172, rfl, blt_lt rfl, fun st hob hE => aop_fieldAddr (av := .pt 4 0) (av' := .pt 4 3) rfl rfl rfl ft58_3 sz3 (hE 19 rfl) rfl rfl (by rw [hob]; rfl)⟩
           ·exact gY0 hg23 rfl rfl (blt_lt rfl) rfl ⟨173, rfl, blt_lt rfl, fun st hob hE => aop_ld (av := .i (((mkPts d.form).getD q dP).right)) rfl rfl rfl ag3 (hE 172 rfl) (by rw [hob]; rfl) (by rw [hob]; rfl)⟩
           ·exact gY0 hg23 rfl rfl (blt_lt rfl) rfl ⟨174, rfl, blt_lt rfl, fun st hob hE => aop_binI (u := (.bool ((SB.reverse.getD i 0) == (((mkPts d.form).getD q dP).right)))) rfl rfl rfl (hE 171 rfl) (hE 173 rfl) trivial rfl (by rw [hob]; rfl)⟩
           ·exact gY1 rfl rfl rfl (blt_lt rfl) rfl ⟨175, rfl, blt_lt rfl, fun st hob hE => aop_pick (b := ((SB.reverse.getD i 0) == (((mkPts d.form).getD q dP).left))) (av := .b ((SB.reverse.getD i 0) == (((mkPts d.form).getD q dP).right))) rfl rfl rfl (hE 167 rfl) (by rw [hg23]; exact hE 174 rfl) (by rw [hob]; rfl)⟩
           ·exact gY1 rfl rfl rfl (blt_lt rfl) rfl ⟨176, rfl, blt_lt rfl, fun st hob hE => aop_move (av := .b ((SB.reverse.getD i 0) == (((mkPts d.form).getD q dP).right))) (.inl rfl) rfl rfl (hE 175 rfl) (by rw [hob]; rfl)⟩
           ·exact gY0 hg26 rfl rfl (blt_lt rfl) rfl ⟨177, rfl, blt_lt rfl, fun st hob hE => aop_move (av := .sl 3 0 SB.reverse.length) (.inl rfl) rfl rfl (hE 18 rfl) (by rw [hob]; rfl)⟩
           ·exact gY0 hg26 rfl rfl (blt_lt rfl) rfl ⟨178, rfl, blt_lt rfl, fun st hob hE => aop_move (av := .i (i : Int)) (.inl rfl) rfl rfl (hE 20 rfl) (by rw [hob]; rfl)⟩
           ·exact gY0 hg26 rfl rfl (blt_lt rfl) rfl ⟨179, rfl, blt_lt rfl, fun st hob hE => aop_ixO (k := i) rfl rfl rfl ut38 sz3 (hE 177 rfl) (hE 178 rfl) (by first | omega | (simp; done) | decide | (simp at *; omega)) (by rw [hob]; rfl)⟩
           ·exact gY0 hg26 rfl rfl (blt_lt rfl) rfl ⟨180, rfl, blt_lt rfl, fun st hob hE => aop_ldO (f := eI) (l := SB.reverse) 0 rfl rfl rfl ag3 (hE 179 rfl) (by rw [hob]; rfl) rfl (fun _ => rfl) (by first | omega | (simp; done) | decide | (simp at *; omega)) rfl (by rw [hob]; rfl)⟩
           ·exact gY0 hg26 rfl rfl (blt_lt rfl) rfl ⟨181, rfl, blt_lt rfl, fun st hob hE => aop_fieldAddr (av := .pt 4 0) (av' := .pt 4 1) rfl rfl rfl ft58_1 sz3 (hE 19 rfl) rfl rfl (by rw [hob]; rfl)⟩
           ·exact gY0 hg26 rfl rfl (blt_lt rfl) rfl ⟨182, rfl, blt_lt rfl, fun st hob hE => aop_ld (av := .i (((mkPts d.form).getD q dP).stem)) rfl rfl rfl ag3 (hE 181 rfl) (by rw [hob]; rfl) (by rw [hob]; rfl)⟩
           ·exact gY0 hg26 rfl rfl (blt_lt rfl) rfl ⟨183, rfl, blt_lt rfl, fun st hob hE => aop_binI (u := (.bool ((SB.reverse.getD i 0) == (((mkPts d.form).getD q dP).stem)))) rfl rfl rfl (hE 180 rfl) (hE 182 rfl) trivial rfl (by rw [hob]; rfl)⟩
           ·exact gY1 rfl rfl rfl (blt_lt rfl) rfl ⟨184, rfl, blt_lt rfl, fun st hob hE => aop_pick (b := ((SB.reverse.getD i 0) == (((mkPts d.form).getD q dP).right))) (av := .b ((SB.reverse.getD i 0) == (((mkPts d.form).getD q dP).stem))) rfl rfl rfl (hE 176 rfl) (by rw [hg26]; exact hE 183 rfl) (by rw [hob]; rfl)⟩
           ·exact ⟨185, rfl, blt_lt rfl, fun st hob hE => aop_pick (b := true) (av := .b ((SB.reverse.getD i 0) == (((mkPts d.form).getD q dP).stem))) rfl rfl rfl (hE 159 rfl) (hE 184 rfl) (by rw [hob]; rfl)⟩
          refine opG rfl (aop_move (av := .b ((SB.reverse.getD i 0) == (((mkPts d.form).getD q dP).stem))) (.inr rfl) rfl rfl rfl ?_)
          refine op0 ?_
          refine awp_ret ?_
          exact fret (av := .v (.bool ((SB.reverse.getD i 0) == (((mkPts d.form).getD q dP).stem)))) rfl rfl (by first | rfl | (rw [leg_last hpa.2.2 (by omega) (by omega)]; simp))
       ·skip
        have hf29 := (beq_eq_false_iff_ne).1 hg21
        refine (Bool.eq_false_or_eq_true ((SA.reverse.getD i 0) == (((mkPts d.form).getD q dP).right))).elim (fun hg30 => ?_) (fun hg30 => ?_)
        ·skip
         have hf31 := (beq_iff_eq).1 hg30
         refine (Bool.eq_false_or_eq_true ((SB.reverse.getD i 0) == (((mkPts d.form).getD q dP).left))).elim (fun hg32 => ?_) (fun hg32 => ?_)
         ·skip
          have hf33 := (beq_iff_eq).1 hg32
          refine awp_draw (m := 59) [(185, .b true), (184, .b true), (183, .v undef), (182, .v undef), (181, .v undef), (180, .v undef), (179, .v undef), (178, .v undef), (177, .v undef), (176, .b true), (175, .b true), (174, .v undef), (173, .v undef), (172, .v undef), (171, .v undef), (170, .v undef), (169, .v undef), (168, .v undef), (167, .b ((SB.reverse.getD i 0) == (((mkPts d.form).getD q dP).left))), (166, .b ((SB.reverse.getD i 0) == (((mkPts d.form).getD q dP).left))), (165, .i (((mkPts d.form).getD q dP).left)), (164, .pt 4 2), (163, .i (SB.reverse.getD i 0)), (162, .pt 3 (i * 1)), (161, .i (i : Int)), (160, .sl 3 0 SB.reverse.length), (159, .b true), (158, .b true), (157, .b true), (156, .v undef), (155, .v undef), (154, .v undef), (153, .v undef), (152, .v undef), (151, .v undef), (150, .v undef), (149, .b ((SA.reverse.getD i 0) == (((mkPts d.form).getD q dP).right))), (148, .b ((SA.reverse.getD i 0) == (((mkPts d.form).getD q dP).right))), (147, .b ((SA.reverse.getD i 0) == (((mkPts d.form).getD q dP).right))), (146, .i (((mkPts d.form).getD q dP).right)), (145, .pt 4 3), (144, .i (SA.reverse.getD i 0)), (143, .pt 2 (i * 1)), (142, .i (i : Int)), (141, .sl 2 0 SA.reverse.length), (140, .b ((SA.reverse.getD i 0) == (((mkPts d.form).getD q dP).left))), (139, .b ((SA.reverse.getD i 0) == (((mkPts d.form).getD q dP).left))), (138, .i (((mkPts d.form).getD q dP).left)), (137, .pt 4 2), (136, .i (SA.reverse.getD i 0)), (135, .pt 2 (i * 1)), (134, .i (i : Int)), (133, .sl 2 0 SA.reverse.length), (132, .b (decide ((i : Int) ≥ ((wk d x).length : Int)))), (131, .b (decide ((i : Int) ≥ ((wk d x).length : Int)))), (130, .i ((wk d x).length : Int)), (129, .q eI (wk d x)), (128, .pt 1 5), (127, .i (i : Int))] mixed (by kernel_rfl) ?_ ?_
          ·refine ⟨?_, ?_, ?_, ?_, ?_, ?_, ?_, ?_, ?_, ?_, ?_, ?_, ?_, ?_, ?_, ?_, ?_, ?_, ?_, ?_, ?_, ?_, ?_, ?_, ?_, ?_, ?_, ?_, ?_, ?_, ?_, ?_, ?_, ?_, ?_, ?_, ?_, ?_, ?_, ?_, ?_, ?_, ?_, ?_, ?_, ?_, ?_, ?_, ?_, ?_, ?_, ?_, ?_, ?_, ?_, ?_, ?_, ?_, ?_, trivial⟩
           ·exact ⟨127, rfl, blt_lt rfl, fun st hob hE => aop_move (av := .i (i : Int)) (.inl rfl) rfl rfl (hE 20 rfl) (by rw [hob]; rfl)⟩
           ·exact ⟨128, rfl, blt_lt rfl, fun st hob hE => aop_fieldAddr (av := .pt 1 0) (av' := .pt 1 5) rfl rfl rfl ft40_5 sz38 (hE 8 rfl) rfl rfl (by rw [hob]; rfl)⟩
           ·exact ⟨129, rfl, blt_lt rfl, fun st hob hE => aop_ld (av := .q eI (wk d x)) rfl rfl rfl ag38 (hE 128 rfl) (by rw [hob]; rfl) (by rw [hob]; rfl)⟩
           ·exact ⟨130, rfl, blt_lt rfl, fun st hob hE => aop_len rfl rfl rfl rfl ut38 (len_ro (hE 129 rfl)) (by rw [hob]; rfl)⟩
           ·exact ⟨131, rfl, blt_lt rfl, fun st hob hE => aop_binI (u := (.bool (decide ((i : Int) ≥ ((wk d x).length : Int))))) rfl rfl rfl (hE 127 rfl) (hE 130 rfl) trivial rfl (by rw [hob]; rfl)⟩
           ·exact ⟨132, rfl, blt_lt rfl, fun st hob hE => aop_move (av := .b (decide ((i : Int) ≥ ((wk d x).length : Int)))) (.inl rfl) rfl rfl (hE 131 rfl) (by rw [hob]; rfl)⟩
           ·exact gY1 hg19 rfl rfl (blt_lt rfl) rfl ⟨133, rfl, blt_lt rfl, fun st hob hE => aop_move (av := .sl 2 0 SA.reverse.length) (.inl rfl) rfl rfl (hE 17 rfl) (by rw [hob]; rfl)⟩
           ·exact gY1 hg19 rfl rfl (blt_lt rfl) rfl ⟨134, rfl, blt_lt rfl, fun st hob hE => aop_move (av := .i (i : Int)) (.inl rfl) rfl rfl (hE 20 rfl) (by rw [hob]; rfl)⟩
           ·exact gY1 hg19 rfl rfl (blt_lt rfl) rfl ⟨135, rfl, blt_lt rfl, fun st hob hE => aop_ixO (k := i) rfl rfl rfl ut38 sz3 (hE 133 rfl) (hE 134 rfl) (by first | omega | (simp; done) | decide | (simp at *; omega)) (by rw [hob]; rfl)⟩
           ·exact gY1 hg19 rfl rfl (blt_lt rfl) rfl ⟨136, rfl, blt_lt rfl, fun st hob hE => aop_ldO (f := eI) (l := SA.reverse) 0 rfl rfl rfl ag3 (hE 135 rfl) (by rw [hob]; rfl) rfl (fun _ => rfl) (by first | omega | (simp; done) | decide | (simp at *; omega)) rfl (by rw [hob]; rfl)⟩
           ·exact gY1 hg19 rfl rfl (blt_lt rfl) rfl ⟨137, rfl, blt_lt rfl, fun st hob hE => aop_fieldAddr (av := .pt 4 0) (av' := .pt 4 2) rfl rfl rfl ft58_2 sz3 (hE 19 rfl) rfl rfl (by rw [hob]; rfl)⟩
           ·exact gY1 hg19 rfl rfl (blt_lt rfl) rfl ⟨138, rfl, blt_lt rfl, fun st hob hE => aop_ld (av := .i (((mkPts d.form).getD q dP).left)) rfl rfl rfl ag3 (hE 137 rfl) (by rw [hob]; rfl) (by rw [hob]; rfl)⟩
           ·exact gY1 hg19 rfl rfl (blt_lt rfl) rfl ⟨139, rfl, blt_lt rfl, fun st hob hE => aop_binI (u := (.bool ((SA.reverse.getD i 0) == (((mkPts d.form).getD q dP).left)))) rfl rfl rfl (hE 136 rfl) (hE 138 rfl) trivial rfl (by rw [hob]; rfl)⟩
           ·exact gY1 hg19 rfl rfl (blt_lt rfl) rfl ⟨140, rfl, blt_lt rfl, fun st hob hE => aop_move (av := .b ((SA.reverse.getD i 0) == (((mkPts d.form).getD q dP).left))) (.inl rfl) rfl rfl (hE 139 rfl) (by rw [hob]; rfl)⟩
           ·exact gY0 hg21 rfl rfl (blt_lt rfl) rfl ⟨141, rfl, blt_lt rfl, fun st hob hE => aop_move (av := .sl 2 0 SA.reverse.length) (.inl rfl) rfl rfl (hE 17 rfl) (by rw [hob]; rfl)⟩
           ·exact gY0 hg21 rfl rfl (blt_lt rfl) rfl ⟨142, rfl, blt_lt rfl, fun st hob hE => aop_move (av := .i (i : Int)) (.inl rfl) rfl rfl (hE 20 rfl) (by rw [hob]; rfl)⟩
           ·exact gY0 hg21 rfl rfl (blt_lt rfl) rfl ⟨143, rfl, blt_lt rfl, fun st hob hE => aop_ixO (k := i) rfl rfl rfl ut38 sz3 (hE 141 rfl) (hE 142 rfl) (by first | omega | (simp; done) | decide | (simp at *; omega)) (by rw [hob]; rfl)⟩
           ·exact gY0 hg21 rfl rfl (blt_lt rfl) rfl ⟨144, rfl, blt_lt rfl, fun st hob hE => aop_ldO (f := eI) (l := SA.reverse) 0 rfl rfl rfl ag3 (hE 143 rfl) (by rw [hob]; rfl) rfl (fun _ => rfl) (by first | omega | (simp; done) | decide | (simp at *; omega)) rfl (by rw [hob]; rfl)⟩
           ·exact gY0 hg21 rfl rfl (blt_lt rfl) rfl ⟨145, rfl, blt_lt rfl, fun st hob hE => aop_fieldAddr (av := .pt 4 0) (av' := .pt 4 3) rfl rfl rfl ft58_3 sz3 (hE 19 rfl) rfl rfl (by rw [hob]; rfl)⟩
           ·exact gY0 hg21 rfl rfl (blt_lt rfl) rfl ⟨146, rfl, blt_lt rfl, fun st hob hE => aop_ld (av := .i (((mkPts d.form).getD q dP).right)) rfl rfl rfl ag3 (hE 145 rfl) (by rw [hob]; rfl) (by rw [hob]; rfl)⟩
           ·exact gY0 hg21 rfl rfl (blt_lt rfl) rfl ⟨147, rfl, blt_lt rfl, fun st hob hE => aop_binI (u := (.bool ((SA.reverse.getD i 0) == (((mkPts d.form).getD q dP).right)))) rfl rfl rfl (hE 144 rfl) (hE 146 rfl) trivial rfl (by rw [hob]; rfl)⟩
           ·exact gY1 hg19 rfl rfl (blt_lt rfl) rfl ⟨148, rfl, blt_lt rfl, fun st hob hE => aop_pick (b := ((SA.reverse.getD i 0) == (((mkPts d.form).getD q dP).left))) (av := .b ((SA.reverse.getD i 0) == (((mkPts d.form).getD q dP).right))) rfl rfl rfl (hE 140 rfl) (by rw [hg21]; exact hE 147 rfl) (by rw [hob]; rfl)⟩
           ·exact gY1 hg19 rfl rfl (blt_lt rfl) rfl ⟨149, rfl, blt_lt rfl, fun st hob hE => aop_move (av := .b ((SA.reverse.getD i 0) == (((mkPts d.form).getD q dP).right))) (.inl rfl) rfl rfl (hE 148 rfl) (by rw [hob]; rfl)⟩
           ·exact gN0 hg30 rfl rfl (blt_lt rfl) rfl rfl (blt_lt rfl) rfl
           ·exact gN0 hg30 rfl rfl (blt_lt rfl) rfl rfl (blt_lt rfl) rfl
           ·exact gN0 hg30 rfl rfl (blt_lt rfl) rfl rfl (blt_lt rfl) rfl
           ·exact gN0 hg30 rfl rfl (blt_lt rfl) rfl rfl (blt_lt rfl) rfl
           ·exact gN0 hg30 rfl rfl (blt_lt rfl) rfl rfl (blt_lt rfl) rfl
           ·exact gN0 hg30 rfl rfl (blt_lt rfl) rfl rfl (blt_lt rfl) rfl
           ·exact gN0 hg30 rfl rfl (blt_lt rfl) rfl rfl (blt_lt rfl) rfl
           ·exact gY1 hg19 rfl rfl (blt_lt rfl) rfl ⟨157, rfl, blt_lt rfl, fun st hob hE => aop_pick (b := ((SA.reverse.getD i 0) == (((mkPts d.form).getD q dP).right))) (av := .b true) rfl rfl rfl (hE 149 rfl) (by rw [hg30]; rfl) (by rw [hob]; rfl)⟩
           ·exact ⟨158, rfl, blt_lt rfl, fun st hob hE => aop_pick (b := (decide ((i : Int) ≥ ((wk d x).length : Int)))) (av := .b true) rfl rfl rfl (hE 132 rfl) (by rw [hg19]; exact hE 157 rfl) (by rw [hob]; rfl)⟩
           ·exact ⟨159, rfl, blt_lt rfl, fun st hob hE => aop_move (av := .b true) (.inl rfl) rfl rfl (hE 158 rfl) (by rw [hob]; rfl)⟩
           ·exact gY1 rfl rfl rfl (blt_lt rfl) rfl ⟨160, rfl, blt_lt rfl, fun st hob hE => aop_move (av := .sl 3 0 SB.reverse.length) (.inl rfl) rfl rfl (hE 18 rfl) (by rw [hob]; rfl)⟩
           ·exact gY1 rfl rfl rfl (blt_lt rfl) rfl ⟨161, rfl, blt_lt rfl, fun st hob hE => aop_move (av := .i (i : Int)) (.inl rfl) rfl rfl (hE 20 rfl) (by rw [hob]; rfl)⟩
           ·exact gY1 rfl rfl rfl (blt_lt rfl) rfl ⟨162, rfl, blt_lt rfl, fun st hob hE => aop_ixO (k := i) rfl rfl rfl ut38 sz3 (hE 160 rfl) (hE 161 rfl) (by first | omega | (simp; done) | decide | (simp at *; omega)) (by rw [hob]; rfl)⟩
           ·exact gY1 rfl rfl rfl (blt_lt rfl) rfl ⟨163, rfl, blt_lt rfl, fun st hob hE => aop_ldO (f := eI) (l := SB.reverse) 0 rfl rfl rfl ag3 (hE 162 rfl) (by rw [hob]; rfl) rfl (fun _ => rfl) (by first | omega | (simp; done) | decide | (simp at *; omega)) rfl (by rw [hob]; rfl)⟩
           ·exact gY1 rfl rfl rfl (blt_lt rfl) rfl ⟨164, rfl, blt_lt rfl, fun st hob hE => aop_fieldAddr (av := .pt 4 0) (av' := .pt 4 2) rfl rfl rfl ft58_2 sz3 (hE 19 rfl) rfl rfl (by rw [hob]; rfl)⟩
           ·exact gY1 rfl rfl rfl (blt_lt rfl) rfl ⟨165, rfl, blt_lt rfl, fun st hob hE => aop_ld (av := .i (((mkPts d.form).getD q dP).left)) rfl rfl rfl ag3 (hE 164 rfl) (by rw [hob]; rfl) (by rw [hob]; rfl)⟩
           ·exact gY1 rfl rfl rfl (blt_lt rfl) rfl ⟨166, rfl, blt_lt rfl, fun st hob hE => aop_binI (u := (.bool ((SB.reverse.getD i 0) == (((mkPts d.form).getD q dP).left)))) rfl rfl rfl (hE 163 rfl) (hE 165 rfl) trivial rfl (by rw [hob]; rfl)⟩
           ·exact gY1 rfl rfl rfl (blt_lt rfl) rfl ⟨167, rfl, blt_lt rfl, fun st hob hE => aop_move (av := .b ((SB.reverse.getD i 0) == (((mkPts d.form).getD q dP).left))) (.inl rfl) rfl rfl (hE 166 rfl) (by rw [hob]; rfl)⟩
           ·exact gN0 hg32 rfl rfl (blt_lt rfl) rfl rfl (blt_lt rfl) rfl
           ·exact gN0 hg32 rfl rfl (blt_lt rfl) rfl rfl (blt_lt rfl) rfl
           ·exact gN0 hg32 rfl rfl (blt_lt rfl) rfl rfl (blt_lt rfl) rfl
           ·exact gN0 hg32 rfl rfl (blt_lt rfl) rfl rfl (blt_lt rfl) rfl
           ·exact gN0 hg32 rfl rfl (blt_lt rfl) rfl rfl (blt_lt rfl) rfl
           ·exact gN0 hg32 rfl rfl (blt_lt rfl) rfl rfl (blt_lt rfl) rfl
           ·exact gN0 hg32 rfl rfl (blt_lt rfl) rfl rfl (blt_lt rfl) rfl
           ·exact gY1 rfl rfl rfl (blt_lt rfl) rfl ⟨175, rfl, blt_lt rfl, fun st hob hE => aop_pick (b := ((SB.reverse.getD i 0) == (((mkPts d.form).getD q dP).left))) (av := .b true) rfl rfl rfl (hE 167 rfl) (by rw [hg32]; rfl) (by rw [hob]; rfl)⟩
           ·exact gY1 rfl rfl rfl (blt_lt rfl) rfl ⟨176, rfl, blt_lt rfl, fun st hob hE => aop_move (av := .b true) (.inl rfl) rfl rfl (hE 175 rfl) (by rw [hob]; rfl)⟩
           ·exact gN0 rfl rfl rfl (blt_lt rfl) rfl rfl (blt_lt rfl) rfl
           ·exact gN0 rfl rfl rfl (blt_lt rfl) rfl rfl (blt_lt rfl) rfl
           ·exact gN0 rfl rfl rfl (blt_lt rfl) rfl rfl (blt_lt rfl) rfl
           ·exact gN0 rfl rfl rfl (blt_lt rfl) rfl rfl (blt_lt rfl) rfl
           ·exact gN0 rfl rfl rfl (blt_lt rfl) rfl rfl (blt_lt rfl) rfl
           ·exact gN0 rfl rfl rfl (blt_lt rfl) rfl rfl (blt_lt rfl) rfl
           ·exact gN0 rfl rfl rfl (blt_lt rfl) rfl rfl (blt_lt rfl) rfl
           ·exact gY1 rfl rfl rfl (blt_lt rfl) rfl ⟨184, rfl, blt_lt rfl, fun st hob hE => aop_pick (b := true) (av := .b true) rfl rfl rfl (hE 176 rfl) rfl (by rw [hob]; rfl)⟩
           ·exact ⟨185, rfl, blt_lt rfl, fun st hob hE => aop_pick (b := true) (av := .b true) rfl rfl rfl (hE 159 rfl) (hE 184 rfl) (by rw [hob]; rfl)⟩
          refine opG rfl (aop_move (av := .b true) (.inr rfl) rfl rfl rfl ?_)
          refine op0 ?_
          refine awp_ret ?_
          exact fret (av := .v (.bool true)) rfl rfl (by first | rfl | (rw [leg_last hpa.2.2 (by omega) (by omega)]; simp))
         ·skip
          have hf34 := (beq_eq_false_iff_ne).1 hg32
          refine (Bool.eq_false_or_eq_true ((SB.reverse.getD i 0) == (((mkPts d.form).getD q dP).right))).elim (fun hg35 => ?_) (fun hg35 => ?_)
          ·skip
           have hf36 := (beq_iff_eq).1 hg35
           refine awp_draw (m := 59) [(185, .b true), (184, .b true), (183, .v undef), (182, .v undef), (181, .v undef), (180, .v undef), (179, .v undef), (178, .v undef), (177, .v undef), (176, .b ((SB.reverse.getD i 0) == (((mkPts d.form).getD q dP).right))), (175, .b ((SB.reverse.getD i 0) == (((mkPts d.form).getD q dP).right))), (174, .b ((SB.reverse.getD i 0) == (((mkPts d.form).getD q dP).right))), (173, .i (((mkPts d.form).getD q dP).right)), (172, .pt 4 3), (171, .i (SB.reverse.getD i 0)), (170, .pt 3 (i * 1)), (169, .i (i : Int)), (168, .sl 3 0 SB.reverse.length), (167, .b ((SB.reverse.getD i 0) == (((mkPts d.form).getD q dP).left))), (166, .b ((SB.reverse.getD i 0) == (((mkPts d.form).getD q dP).left))), (165, .i (((mkPts d.form).getD q dP).left)), (164, .pt 4 2), (163, .i (SB.reverse.getD i 0)), (162, .pt 3 (i * 1)), (161, .i (i : Int)), (160, .sl 3 0 SB.reverse.length), (159, .b true), (158, .b true), (157, .b true), (156, .v undef), (155, .v undef), (154, .v undef), (153, .v undef), (152, .v undef), (151, .v undef), (150, .v undef), (149, .b ((SA.reverse.getD i 0) == (((mkPts d.form).getD q dP).right))), (148, .b ((SA.reverse.getD i 0) == (((mkPts d.form).getD q dP).right))), (147, .b ((SA.reverse.getD i 0) == (((mkPts d.form).getD q dP).right))), (146, .i (((mkPts d.form).getD q dP).right)), (145, .pt 4 3), (144, .i (SA.reverse.getD i 0)), (143, .pt 2 (i * 1)), (142, .i (i : Int)), (141, .sl 2 0 SA.reverse.length), (140, .b ((SA.reverse.getD i 0) == (((mkPts d.form).getD q dP).left))), (139, .b ((SA.reverse.getD i 0) == (((mkPts d.form).getD q dP).left))), (138, .i (((mkPts d.form).getD q dP).left)), (137, .pt 4 2), (136, .i (SA.reverse.getD i 0)), (135, .pt 2 (i * 1)), (134, .i (i : Int)), (133, .sl 2 0 SA.reverse.length), (132, .b (decide ((i : Int) ≥ ((wk d x).length : Int)))), (131, .b (decide ((i : Int) ≥ ((wk d x).length : Int)))), (130, .i ((wk d x).length : Int)), (129, .q eI (wk d x)), (128, .pt 1 5), (127, .i (i : Int))] mixed (by kernel_rfl) ?_ ?_
           ·refine ⟨?_, ?_, ?_, ?_, ?_, ?_, ?_, ?_, ?_, ?_, ?_, ?_, ?_, ?_, ?_, ?_, ?_, ?_, ?_, ?_, ?_, ?_, ?_, ?_, ?_, ?_, ?_, ?_, ?_, ?_, ?_, ?_, ?_, ?_, ?_, ?_, ?_, ?_, ?_, ?_, ?_, ?_, ?_, ?_, ?_, ?_, ?_, ?_, ?_, ?_, ?_, ?_, ?_, ?_, ?_, ?_, ?_, ?_, ?_, trivial⟩
            ·exact ⟨127, rfl, blt_lt rfl, fun st hob hE => aop_move (av := .i (i : Int)) (.inl rfl) rfl rfl (hE 20 rfl) (by rw [hob]; rfl)⟩
            ·exact ⟨128, rfl, blt_lt rfl, fun st hob hE => aop_fieldAddr (av := .pt 1 0) (av' := .pt 1 5) rfl rfl rfl ft40_5 sz38 (hE 8 rfl) rfl rfl (by rw [hob]; rfl)⟩
            ·exact ⟨129, rfl, blt_lt rfl, fun st hob hE => aop_ld (av := .q eI (wk d x)) rfl rfl rfl ag38 (hE 128 rfl) (by rw [hob]; rfl) (by rw [hob]; rfl)⟩
            ·exact ⟨130, rfl, blt_lt rfl, fun st hob hE => aop_len rfl rfl rfl rfl ut38 (len_ro (hE 129 rfl)) (by rw [hob]; rfl)⟩
            ·exact ⟨131, rfl, blt_lt rfl, fun st hob hE => aop_binI (u := (.bool (decide ((i : Int) ≥ ((wk d x).length : Int))))) rfl rfl rfl (hE 127 rfl) (hE 130 rfl) trivial rfl (by rw [hob]; rfl)⟩
            ·exact ⟨132, rfl, blt_lt rfl, fun st hob hE => aop_move (av := .b (decide ((i : Int) ≥ ((wk d x).length : Int)))) (.inl rfl) rfl rfl (hE 131 rfl) (by rw [hob]; rfl)⟩
            ·exact gY1 hg19 rfl rfl (blt_lt rfl) rfl ⟨133, rfl, blt_lt rfl, fun st hob hE => aop_move (av := .sl 2 0 SA.reverse.length) (.inl rfl) rfl rfl (hE 17 rfl) (by rw [hob]; rfl)⟩
            ·exact gY1 hg19 rfl rfl (blt_lt rfl) rfl ⟨134, rfl, blt_lt rfl, fun st hob hE => aop_move (av := .i (i : Int)) (.inl rfl) rfl rfl (hE 20 rfl) (by rw [hob]; rfl)⟩
            ·exact gY1 hg19 rfl rfl (blt_lt rfl) rfl ⟨135, rfl, blt_lt rfl, fun st hob hE => aop_ixO (k := i) rfl rfl rfl ut38 sz3 (hE 133 rfl) (hE 134 rfl) (by first | omega | (simp; done) | decide | (simp at *; omega)) (by rw [hob]; rfl)⟩
            ·exact gY1 hg19 rfl rfl (blt_lt rfl) rfl ⟨136, rfl, blt_lt rfl, fun st hob hE => aop_ldO (f := eI) (l := SA.reverse) 0 rfl rfl rfl ag3 (hE 135 rfl) (by rw [hob]; rfl) rfl (fun _ => rfl) (by first | omega | (simp; done) | decide | (simp at *; omega)) rfl (by rw [hob]; rfl)⟩
            ·exact gY1 hg19 rfl rfl (blt_lt rfl) rfl ⟨137, rfl, blt_lt rfl, fun st hob hE => aop_fieldAddr (av := .pt 4 0) (av' := .pt 4 2) rfl rfl rfl ft58_2 sz3 (hE 19 rfl) rfl rfl (by rw [hob]; rfl)⟩
            ·exact gY1 hg19 rfl rfl (blt_lt rfl) rfl ⟨138, rfl, blt_lt rfl, fun st hob hE => aop_ld (av := .i (((mkPts d.form).getD q dP).left)) rfl rfl rfl ag3 (hE 137 rfl) (by rw [hob]; rfl) (by rw [hob]; rfl)⟩
            ·exact gY1 hg19 rfl rfl (blt_lt rfl) rfl ⟨139, rfl, blt_lt rfl, fun st hob hE => aop_binI (u := (.bool ((SA.reverse.getD i 0) == (((mkPts d.form).getD q dP).left)))) rfl rfl rfl (hE 136 rfl) (hE 138 rfl) trivial rfl (by rw [hob]; rfl)⟩
            ·exact gY1 hg19 rfl rfl (blt_lt rfl) rfl ⟨140, rfl, blt_lt rfl, fun st hob hE => aop_move (av := .b ((SA.reverse.getD i 0) == (((mkPts d.form).getD q dP).left))) (.inl rfl) rfl rfl (hE 139 rfl) (by rw [hob]; rfl)⟩
            ·exact gY0 hg21 rfl rfl (blt_lt rfl) rfl ⟨141, rfl, blt_lt rfl, fun st hob hE => aop_move (av := .sl 2 0 SA.reverse.length) (.inl rfl) rfl rfl (hE 17 rfl) (by rw [hob]; rfl)⟩
            ·exact gY0 hg21 rfl rfl (blt_lt rfl) rfl ⟨142, rfl, blt_lt rfl, fun st hob hE => aop_move (av := .i (i : Int)) (.inl rfl) rfl rfl (hE 20 rfl) (by rw [hob]; rfl)⟩
            ·exact gY0 hg21 rfl rfl (blt_lt rfl) rfl ⟨143, rfl, blt_lt rfl, fun st hob hE => aop_ixO (k := i) rfl rfl rfl ut38 sz3 (hE 141 rfl) (hE 142 rfl) (by first | omega | (simp; done) | decide | (simp at *; omega)) (by rw [hob]; rfl)⟩
            ·exact gY0 hg21 rfl rfl (blt_lt rfl) rfl ⟨144, rfl, blt_lt rfl, fun st hob hE => aop_ldO (f := eI) (l := SA.reverse) 0 rfl rfl rfl ag3 (hE 143 rfl) (by rw [hob]; rfl) rfl (fun _ => rfl) (by first | omega | (simp; done) | decide | (simp at *; omega)) rfl (by rw [hob]; rfl)⟩
            ·exact gY0 hg21 rfl rfl (blt_lt rfl) rfl ⟨145, rfl, blt_lt rfl, fun st hob hE => aop_fieldAddr (av := .pt 4 0) (av' := .pt 4 3) rfl rfl rfl ft58_3 sz3 (hE 19 rfl) rfl rfl (by rw [hob]; rfl)⟩
            ·exact gY0 hg21 rfl rfl (blt_lt rfl) rfl ⟨146, rfl, blt_lt rfl, fun st hob hE => aop_ld (av := .i (((mkPts d.form).getD q dP).right)) rfl rfl rfl ag3 (hE 145 rfl) (by rw [hob]; rfl) (by rw [hob]; rfl)⟩
            ·exact gY0 hg21 rfl rfl (blt_lt rfl) rfl ⟨147, rfl, blt_lt rfl, fun st hob hE => aop_binI (u := (.bool ((SA.reverse.getD i 0) == (((mkPts d.form).getD q dP).right)))) rfl rfl rfl (hE 144 rfl) (hE 146 rfl) trivial rfl (by rw [hob]; rfl)⟩
            ·exact gY1 hg19 rfl rfl (blt_lt rfl) rfl ⟨148, rfl, blt_lt rfl, fun st hob hE => aop_pick (b := ((SA.reverse.getD i 0) == (((mkPts d.form).getD q dP).left))) (av := .b ((SA.reverse.getD i 0) == (((mkPts d.form).getD q dP).right))) rfl rfl rfl (hE 140 rfl) (by rw [hg21]; exact hE 147 rfl) (by rw [hob]; rfl)⟩
            ·exact gY1 hg19 rfl rfl (blt_lt rfl) rfl ⟨149, rfl, blt_lt rfl, fun st hob hE => aop_move (av := .b ((SA.reverse.getD i 0) == (((mkPts d.form).getD q dP).right))) (.inl rfl) rfl rfl (hE 148 rfl) (by rw [hob]; rfl)⟩
            ·exact gN0 hg30 rfl rfl (blt_lt rfl) rfl rfl (blt_lt rfl) rfl
            ·exact gN0 hg30 rfl rfl (blt_lt rfl) rfl rfl (blt_lt rfl) rfl
            ·exact gN0 hg30 rfl rfl (blt_lt rfl) rfl rfl (blt_lt rfl) rfl
            ·exact gN0 hg30 rfl rfl (blt_lt rfl) rfl rfl (blt_lt rfl) rfl
            ·exact gN0 hg30 rfl rfl (blt_lt rfl) rfl rfl (blt_lt rfl) rfl
            ·exact gN0 hg30 rfl rfl (blt_lt rfl) rfl rfl (blt_lt rfl) rfl
            ·exact gN0 hg30 rfl rfl (blt_lt rfl) rfl rfl (blt_lt rfl) rfl
            ·exact gY1 hg19 rfl rfl (blt_lt rfl) rfl ⟨157, rfl, blt_lt rfl, fun st hob hE => aop_pick (b := ((SA.reverse.getD i 0) == (((mkPts d.form).getD q dP).right))) (av := .b true) rfl rfl rfl (hE 149 rfl) (by rw [hg30]; rfl) (by rw [hob]; rfl)⟩
            ·exact ⟨158, rfl, blt_lt rfl, fun st hob hE => aop_pick (b := (decide ((i : Int) ≥ ((wk d x).length : Int)))) (av := .b true) rfl rfl rfl (hE 132 rfl) (by rw [hg19]; exact hE 157 rfl) (by rw [hob]; rfl)⟩
            ·exact ⟨159, rfl, blt_lt rfl, fun st hob hE => aop_move (av := .b true) (.inl rfl) rfl rfl (hE 158 rfl) (by rw [hob]; rfl)⟩
            ·exact gY1 rfl rfl rfl (blt_lt rfl) rfl ⟨160, rfl, blt_lt rfl, fun st hob hE => aop_move (av := .sl 3 0 SB.reverse.length) (.inl rfl) rfl rfl (hE 18 rfl) (by rw [hob]; rfl)⟩
            ·exact gY1 rfl rfl rfl (blt_lt rfl) rfl ⟨161, rfl, blt_lt rfl, fun st hob hE => aop_move (av := .i (i : Int)) (.inl rfl) rfl rfl (hE 20 rfl) (by rw [hob]; rfl)⟩
            ·exact gY1 rfl rfl rfl (blt_lt rfl) rfl ⟨162, rfl, blt_lt rfl, fun st hob hE => aop_ixO (k := i) rfl rfl rfl ut38 sz3 (hE 160 rfl) (hE 161 rfl) (by first | omega | (simp; done) | decide | (simp at *; omega)) (by rw [hob]; rfl)⟩
            ·exact gY1 rfl rfl rfl (blt_lt rfl) rfl ⟨163, rfl, blt_lt rfl, fun st hob hE => aop_ldO (f := eI) (l := SB.reverse) 0 rfl rfl rfl ag3 (hE 162 rfl) (by rw [hob]; rfl) rfl (fun _ => rfl) (by first | omega | (simp; done) | decide | (simp at *; omega)) rfl (by rw [hob]; rfl)⟩
            ·exact gY1 rfl rfl rfl (blt_lt rfl) rfl ⟨164, rfl, blt_lt rfl, fun st hob hE => aop_fieldAddr (av := .pt 4 0) (av' := .pt 4 2) rfl rfl rfl ft58_2 sz3 (hE 19 rfl) rfl rfl (by rw [hob]; rfl)⟩
            ·exact gY1 rfl rfl rfl (blt_lt rfl) rfl ⟨165, rfl, blt_lt rfl, fun st hob hE => aop_ld (av := .i (((mkPts d.form).getD q dP).left)) rfl rfl rfl ag3 (hE 164 rfl) (by rw [hob]; rfl) (by rw [hob]; rfl)⟩
            ·exact gY1 rfl rfl rfl (blt_lt rfl) rfl ⟨166, rfl, blt_lt rfl, fun st hob hE => aop_binI (u := (.bool ((SB.reverse.getD i 0) == (((mkPts d.form).getD q dP).left)))) rfl rfl rfl (hE 163 rfl) (hE 165 rfl) trivial rfl (by rw [hob]; rfl)⟩
            ·exact gY1 rfl rfl rfl (blt_lt rfl) rfl ⟨167, rfl, blt_lt rfl, fun st hob hE => aop_move (av := .b ((SB.reverse.getD i 0) == (((mkPts d.form).getD q dP).left))) (.inl rfl) rfl rfl (hE 166 rfl) (by rw [hob]; rfl)⟩
            ·exact gY0 hg32 rfl rfl (blt_lt rfl) rfl ⟨168, rfl, blt_lt rfl, fun st hob hE => aop_move (av := .sl 3 0 SB.reverse.length) (.inl rfl) rfl rfl (hE 18 rfl) (by rw [hob]; rfl)⟩
            ·exact gY0 hg32 rfl rfl (blt_lt rfl) rfl ⟨169, rfl, blt_lt rfl, fun st hob hE => aop_move (av := .i (i : Int)) (.inl rfl) rfl rfl (hE 20 rfl) (by rw [hob]; rfl)⟩
            ·exact gY0 hg32 rfl rfl (blt_lt rfl) rfl ⟨170, rfl, blt_lt rfl, fun st hob hE => aop_ixO (k := i) rfl rfl rfl ut38 sz3 (hE 168 rfl) (hE 169 rfl) (by first | omega | (simp; done) | decide | (simp at *; omega)) (by rw [hob]; rfl)⟩
            ·exact gY0 hg32 rfl rfl (blt_lt rfl) rfl ⟨171, rfl, blt_lt rfl, fun st hob hE => aop_ldO (f := eI) (l := SB.reverse) 0 rfl rfl rfl ag3 (hE 170 rfl) (by rw [hob]; rfl) rfl (fun _ => rfl) (by first | omega | (simp; done) | decide | (simp at *; omega)) rfl (by rw [hob]; rfl)⟩
            ·exact gY0 hg32 rfl rfl (blt_lt rfl) rfl ⟨172, rfl, blt_lt rfl, fun st hob hE => aop_fieldAddr (av := .pt 4 0) (av' := .pt 4 3) rfl rfl rfl ft58_3 sz3 (hE 19 rfl) rfl rfl (by rw [hob]; rfl)⟩
            ·exact gY0 hg32 rfl rfl (blt_lt rfl) rfl ⟨173, rfl, blt_lt rfl, fun st hob hE => aop_ld (av := .i (((mkPts d.form).getD q dP).right)) rfl rfl rfl ag3 (hE 172 rfl) (by rw [hob]; rfl) (by rw [hob]; rfl)⟩
            ·exact gY0 hg32 rfl rfl (blt_lt rfl) rfl ⟨174, rfl, blt_lt rfl, fun st hob hE => aop_binI (u := (.bool ((SB.reverse.getD i 0) == (((mkPts d.form).getD q dP).right)))) rfl rfl rfl (hE 171 rfl) (hE 173 rfl) trivial rfl (by rw [hob]; rfl)⟩
            ·exact gY1 rfl rfl rfl (blt_lt rfl) rfl ⟨175, rfl, blt_lt rfl, fun st hob hE => aop_pick (b := ((SB.reverse.getD i 0) == (((mkPts d.form).getD q dP).left))) (av := .b ((SB.reverse.getD i 0) == (((mkPts d.form).getD q dP).right))) rfl rfl rfl (hE 167 rfl) (by rw [hg32]; exact hE 174 rfl) (by rw [hob]; rfl)⟩
            ·exact gY1 rfl rfl rfl (blt_lt rfl) rfl ⟨176, rfl, blt_lt rfl, fun st hob hE => aop_move (av := .b ((SB.reverse.getD i 0) == (((mkPts d.form).getD q dP).right))) (.inl rfl) rfl rfl (hE 175 rfl) (by rw [hob]; rfl)⟩
            ·exact gN0 hg35 rfl rfl (blt_lt rfl) rfl rfl (blt_lt rfl) rfl
            ·exact gN0 hg35 rfl rfl (blt_lt rfl) rfl rfl (blt_lt rfl) rfl
            ·exact gN0 hg35 rfl rfl (blt_lt rfl) rfl rfl (blt_lt rfl) rfl
            ·exact gN0 hg35 rfl rfl (blt_lt rfl) rfl rfl (blt_lt rfl) rfl
            ·exact gN0 hg35 rfl rfl (blt_lt rfl) rfl rfl (blt_lt rfl) rfl
            ·exact gN0 hg35 rfl rfl (blt_lt rfl) rfl rfl (blt_lt rfl) rfl
            ·exact gN0 hg35 rfl rfl (blt_lt rfl) rfl rfl (blt_lt rfl) rfl
            ·exact gY1 rfl rfl rfl (blt_lt rfl) rfl ⟨184, rfl, blt_lt rfl, fun st hob hE => aop_pick (b := ((SB.reverse.getD i 0) == (((mkPts d.form).getD q dP).right))) (av := .b true) rfl rfl rfl (hE 176 rfl) (by rw [hg35]; rfl) (by rw [hob]; rfl)⟩
            ·exact ⟨185, rfl, blt_lt rfl, fun st hob hE => aop_pick (b := true) (av := .b true) rfl rfl rfl (hE 159 rfl) (hE 184 rfl) (by rw [hob]; rfl)⟩
           refine opG rfl (aop_move (av := .b true) (.inr rfl) rfl rfl rfl ?_)
           refine op0 ?_
           refine awp_ret ?_
           exact fret (av := .v (.bool true)) rfl rfl (by first | rfl | (rw [leg_last hpa.2.2 (by omega) (by omega)]; simp))
          ·skip
           have hf37 := (beq_eq_false_iff_ne).1 hg35
           refine awp_draw (m := 59) [(185, .b ((SB.reverse.getD i 0) == (((mkPts d.form).getD q dP).stem))), (184, .b ((SB.reverse.getD i 0) == (((mkPts d.form).getD q dP).stem))), (183, .b ((SB.reverse.getD i 0) == (((mkPts d.form).getD q dP).stem))), (182, .i (((mkPts d.form).getD q dP).stem)), (181, .pt 4 1), (180, .i (SB.reverse.getD i 0)), (179, .pt 3 (i * 1)), (178, .i (i : Int)), (177, .sl 3 0 SB.reverse.length), (176, .b ((SB.reverse.getD i 0) == (((mkPts d.form).getD q dP).right))), (175, .b ((SB.reverse.getD i 0) == (((mkPts d.form).getD q dP).right))), (174, .b ((SB.reverse.getD i 0) == (((mkPts d.form).getD q dP).right))), (173, .i (((mkPts d.form).getD q dP).right)), (172, .pt 4 3), (171, .i (SB.reverse.getD i 0)), (170, .pt 3 (i * 1)), (169, .i (i : Int)), (168, .sl 3 0 SB.reverse.length), (167, .b ((SB.reverse.getD i 0) == (((mkPts d.form).getD q dP).left))), (166, .b ((SB.reverse.getD i 0) == (((mkPts d.form).getD q dP).left))), (165, .i (((mkPts d.form).getD q dP).left)), (164, .pt 4 2), (163, .i (SB.reverse.getD i 0)), (162, .pt 3 (i * 1)), (161, .i (i : Int)), (160, .sl 3 0 SB.reverse.length), (159, .b true), (158, .b true), (157, .b true), (156, .v undef), (155, .v undef), (154, .v undef), (153, .v undef), (152, .v undef), (151, .v undef), (150, .v undef), (149, .b ((SA.reverse.getD i 0) == (((mkPts d.form).getD q dP).right))), (148, .b ((SA.reverse.getD i 0) == (((mkPts d.form).getD q dP).right))), (147, .b ((SA.reverse.getD i 0) == (((mkPts d.form).getD q dP).right))), (146, .i (((mkPts d.form).getD q dP).right)), (145, .pt 4 3), (144, .i (SA.reverse.getD i 0)), (143, .pt 2 (i * 1)), (142, .i (i : Int)), (141, .sl 2 0 SA.reverse.length), (140, .b ((SA.reverse.getD i 0) == (((mkPts d.form).getD q dP).left))), (139, .b ((SA.reverse.getD i 0) == (((mkPts d.form).getD q dP).left))), (138, .i (((mkPts d.form).getD q dP).left)), (137, .pt 4 2), (136, .i (SA.reverse.getD i 0)), (135, .pt 2 (i * 1)), (134, .i (i : Int)), (133, .sl 2 0 SA.reverse.length), (132, .b (decide ((i : Int) ≥ ((wk d x).length : Int)))), (131, .b (decide ((i : Int) ≥ ((wk d x).length : Int)))), (130, .i ((wk d x).length : Int)), (129, .q eI (wk d x)), (128, .pt 1 5), (127, .i (i : Int))] mixed (by kernel_rfl) ?_ ?_
           ·refine ⟨?_, ?_, ?_, ?_, ?_, ?_, ?_, ?_, ?_, ?_, ?_, ?_, ?_, ?_, ?_, ?_, ?_, ?_, ?_, ?_, ?_, ?_, ?_, ?_, ?_, ?_, ?_, ?_, ?_, ?_, ?_, ?_, ?_, ?_, ?_, ?_, ?_, ?_, ?_, ?_, ?_, ?_, ?_, ?_, ?_, ?_, ?_, ?_, ?_, ?_, ?_, ?_, ?_, ?_, ?_, ?_, ?_, ?_, ?_, trivial⟩
            ·exact ⟨127, rfl, blt_lt rfl, fun st hob hE => aop_move (av := .i (i : Int)) (.inl rfl) rfl rfl (hE 20 rfl) (by rw [hob]; rfl)⟩
            ·exact ⟨128, rfl, blt_lt rfl, fun st hob hE => aop_fieldAddr (av := .pt 1 0) (av' := .pt 1 5) rfl rfl rfl ft40_5 sz38 (hE 8 rfl) rfl rfl (by rw [hob]; rfl)⟩
            ·exact ⟨129, rfl, blt_lt rfl, fun st hob hE => aop_ld (av := .q eI (wk d x)) rfl rfl rfl ag38 (hE 128 rfl) (by rw [hob]; rfl) (by rw [hob]; rfl)⟩
            ·exact ⟨130, rfl, blt_lt rfl, fun st hob hE => aop_len rfl rfl rfl rfl ut38 (len_ro (hE 129 rfl)) (by rw [hob]; rfl)⟩
            ·exact ⟨131, rfl, blt_lt rfl, fun st hob hE => aop_binI (u := (.bool (decide ((i : Int) ≥ ((wk d x).length : Int))))) rfl rfl rfl (hE 127 rfl) (hE 130 rfl) trivial rfl (by rw [hob]; rfl)⟩
            ·exact ⟨132, rfl, blt_lt rfl, fun st hob hE => aop_move (av := .b (decide ((i : Int) ≥ ((wk d x).length : Int)))) (.inl rfl) rfl rfl (hE 131 rfl) (by rw [hob]; rfl)⟩
            ·exact gY1 hg19 rfl rfl (blt_lt rfl) rfl ⟨133, rfl, blt_lt rfl, fun st hob hE => aop_move (av := .sl 2 0 SA.reverse.length) (.inl rfl) rfl rfl (hE 17 rfl) (by rw [hob]; rfl)⟩
            ·exact gY1 hg19 rfl rfl (blt_lt rfl) rfl ⟨134, rfl, blt_lt rfl, fun st hob hE => aop_move (av := .i (i : Int)) (.inl rfl) rfl rfl (hE 20 rfl) (by rw [hob]; rfl)⟩
            ·exact gY1 hg19 rfl rfl (blt_lt rfl) rfl ⟨135, rfl, blt_lt rfl, fun st hob hE => aop_ixO (k := i) rfl rfl rfl ut38 sz3 (hE 133 rfl) (hE 134 rfl) (by first | omega | (simp; done) | decide | (simp at *; omega)) (by rw [hob]; rfl)⟩
            ·exact gY1 hg19 rfl rfl (blt_lt rfl) rfl ⟨136, rfl, blt_lt rfl, fun st hob hE => aop_ldO (f := eI) (l := SA.reverse) 0 rfl rfl rfl ag3 (hE 135 rfl) (by rw [hob]; rfl) rfl (fun _ => rfl) (by first | omega | (simp; done) | decide | (simp at *; omega)) rfl (by rw [hob]; rfl)⟩
            ·exact gY1 hg19 rfl rfl (blt_lt rfl) rfl ⟨137, rfl, blt_lt rfl, fun st hob hE => aop_fieldAddr (av := .pt 4 0) (av' := .pt 4 2) rfl rfl rfl ft58_2 sz3 (hE 19 rfl) rfl rfl (by rw [hob]; rfl)⟩
            ·exact gY1 hg19 rfl rfl (blt_lt rfl) rfl ⟨138, rfl, blt_lt rfl, fun st hob hE => aop_ld (av := .i (((mkPts d.form).getD q dP).left)) rfl rfl rfl ag3 (hE 137 rfl) (by rw [hob]; rfl) (by rw [hob]; rfl)⟩
            ·exact gY1 hg19 rfl rfl (blt_lt rfl) rfl ⟨139, rfl, blt_lt rfl, fun st hob hE => aop_binI (u := (.bool ((SA.reverse.getD i 0) == (((mkPts d.form).getD q dP).left)))) rfl rfl rfl (hE 136 rfl) (hE 138 rfl) trivial rfl (by rw [hob]; rfl)⟩
            ·exact gY1 hg19 rfl rfl (blt_lt rfl) rfl ⟨140, rfl, blt_lt rfl, fun st hob hE => aop_move (av := .b ((SA.reverse.getD i 0) == (((mkPts d.form).getD q dP).left))) (.inl rfl) rfl rfl (hE 139 rfl) (by rw [hob]; rfl)⟩
            ·exact gY0 hg21 rfl rfl (blt_lt rfl) rfl ⟨141, rfl, blt_lt rfl, fun st hob hE => aop_move (av := .sl 2 0 SA.reverse.length) (.inl rfl) rfl rfl (hE 17 rfl) (by rw [hob]; rfl)⟩
            ·exact gY0 hg21 rfl rfl (blt_lt rfl) rfl ⟨142, rfl, blt_lt rfl, fun st hob hE => aop_move (av := .i (i : Int)) (.inl rfl) rfl rfl (hE 20 rfl) (by rw [hob]; rfl)⟩
            ·exact gY0 hg21 rfl rfl (blt_lt rfl) rfl ⟨143, rfl, blt_lt rfl, fun st hob hE => aop_ixO (k := i) rfl rfl rfl ut38 sz3 (hE 141 rfl) (hE 142 rfl) (by first | omega | (simp; done) | decide | (simp at *; omega)) (by rw [hob]; rfl)⟩
            ·exact gY0 hg21 rfl rfl (blt_lt rfl) rfl ⟨144, rfl, blt_lt rfl, fun st hob hE => aop_ldO (f := eI) (l := SA.reverse) 0 rfl rfl rfl ag3 (hE 143 rfl) (by rw [hob]; rfl) rfl (fun _ => rfl) (by first | omega | (simp; done) | decide | (simp at *; omega)) rfl (by rw [hob]; rfl)⟩
            ·exact gY0 hg21 rfl rfl (blt_lt rfl) rfl ⟨145, rfl, blt_lt rfl, fun st hob hE => aop_fieldAddr (av := .pt 4 0) (av' := .pt 4 3) rfl rfl rfl ft58_3 sz3 (hE 19 rfl) rfl rfl (by rw [hob]; rfl)⟩
            ·exact gY0 hg21 rfl rfl (blt_lt rfl) rfl ⟨146, rfl, blt_lt rfl, fun st hob hE => aop_ld (av := .i (((mkPts d.form).getD q dP).right)) rfl rfl rfl ag3 (hE 145 rfl) (by rw [hob]; rfl) (by rw [hob]; rfl)⟩
            ·exact gY0 hg21 rfl rfl (blt_lt rfl) rfl ⟨147, rfl, blt_lt rfl, fun st hob hE => aop_binI (u := (.bool ((SA.reverse.getD i 0) == (((mkPts d.form).getD q dP).right)))) rfl rfl rfl (hE 144 rfl) (hE 146 rfl) trivial rfl (by rw [hob]; rfl)⟩
            ·exact gY1 hg19 rfl rfl (blt_lt rfl) rfl ⟨148, rfl, blt_lt rfl, fun st hob hE => aop_pick (b := ((SA.reverse.getD i 0) == (((mkPts d.form).getD q dP).left))) (av := .b ((SA.reverse.getD i 0) == (((mkPts d.form).getD q dP).right))) rfl rfl rfl (hE 140 rfl) (by rw [hg21]; exact hE 147 rfl) (by rw [hob]; rfl)⟩
            ·exact gY1 hg19 rfl rfl (blt_lt rfl) rfl ⟨149, rfl, blt_lt rfl, fun st hob hE => aop_move (av := .b ((SA.reverse.getD i 0) == (((mkPts d.form).getD q dP).right))) (.inl rfl) rfl rfl (hE 148 rfl) (by rw [hob]; rfl)⟩
            ·exact gN0 hg30 rfl rfl (blt_lt rfl) rfl rfl (blt_lt rfl) rfl
            ·exact gN0 hg30 rfl rfl (blt_lt rfl) rfl rfl (blt_lt rfl) rfl
            ·exact gN0 hg30 rfl rfl (blt_lt rfl) rfl rfl (blt_lt rfl) rfl
            ·exact gN0 hg30 rfl rfl (blt_lt rfl) rfl rfl (blt_lt rfl) rfl
            ·exact gN0 hg30 rfl rfl (blt_lt rfl) rfl rfl (blt_lt rfl) rfl
            ·exact gN0 hg30 rfl rfl (blt_lt rfl) rfl rfl (blt_lt rfl) rfl
            ·exact gN0 hg30 rfl rfl (blt_lt rfl) rfl rfl (blt_lt rfl) rfl
            ·exact gY1 hg19 rfl rfl (blt_lt rfl) rfl ⟨157, rfl, blt_lt rfl, fun st hob hE => aop_pick (b := ((SA.reverse.getD i 0) == (((mkPts d.form).getD q dP).right))) (av := .b true) rfl rfl rfl (hE 149 rfl) (by rw [hg30]; rfl) (by rw [hob]; rfl)⟩
            ·exact ⟨158, rfl, blt_lt rfl, fun st hob hE => aop_pick (b := (decide ((i : Int) ≥ ((wk d x).length : Int)))) (av := .b true) rfl rfl rfl (hE 132 rfl) (by rw [hg19]; exact hE 157 rfl) (by rw [hob]; rfl)⟩
            ·exact ⟨159, rfl, blt_lt rfl, fun st hob hE => aop_move (av := .b true) (.inl rfl) rfl rfl (hE 158 rfl) (by rw [hob]; rfl)⟩
            ·exact gY1 rfl rfl rfl (blt_lt rfl) rfl ⟨160, rfl, blt_lt rfl, fun st hob hE => aop_move (av := .sl 3 0 SB.reverse.length) (.inl rfl) rfl rfl (hE 18 rfl) (by rw [hob]; rfl)⟩
            ·exact gY1 rfl rfl rfl (blt_lt rfl) rfl ⟨161, rfl, blt_lt rfl, fun st hob hE => aop_move (av := .i (i : Int)) (.inl rfl) rfl rfl (hE 20 rfl) (by rw [hob]; rfl)⟩
            ·exact gY1 rfl rfl rfl (blt_lt rfl) rfl ⟨162, rfl, blt_lt rfl, fun st hob hE => aop_ixO (k := i) rfl rfl rfl ut38 sz3 (hE 160 rfl) (hE 161 rfl) (by first | omega | (simp; done) | decide | (simp at *; omega)) (by rw [hob]; rfl)⟩
            ·exact gY1 rfl rfl rfl (blt_lt rfl) rfl ⟨163, rfl, blt_lt rfl, fun st hob hE => aop_ldO (f := eI) (l := SB.reverse) 0 rfl rfl rfl ag3 (hE 162 rfl) (by rw [hob]; rfl) rfl (fun _ => rfl) (by first | omega | (simp; done) | decide | (simp at *; omega)) rfl (by rw [hob]; rfl)⟩
            ·exact gY1 rfl rfl rfl (blt_lt rfl) rfl ⟨164, rfl, blt_lt rfl, fun st hob hE => aop_fieldAddr (av := .pt 4 0) (av' := .pt 4 2) rfl rfl rfl ft58_2 sz3 (hE 19 rfl) rfl rfl (by rw [hob]; rfl)⟩
            ·exact gY1 rfl rfl rfl (blt_lt rfl) rfl ⟨165, rfl, blt_lt rfl, fun st hob hE => aop_ld (av := .i (((mkPts d.form).getD q dP).left)) rfl rfl rfl ag3 (hE 164 rfl) (by rw [hob]; rfl) (by rw [hob]; rfl)⟩
            ·exact gY1 rfl rfl rfl (blt_lt rfl) rfl ⟨166, rfl, blt_lt rfl, fun st hob hE => aop_binI (u := (.bool ((SB.reverse.getD i 0) == (((mkPts d.form).getD q dP).left)))) rfl rfl rfl (hE 163 rfl) (hE 165 rfl) trivial rfl (by rw [hob]; rfl)⟩
            ·exact gY1 rfl rfl rfl (blt_lt rfl) rfl ⟨167, rfl, blt_lt rfl, fun st hob hE => aop_move (av := .b ((SB.reverse.getD i 0) == (((mkPts d.form).getD q dP).left))) (.inl rfl) rfl rfl (hE 166 rfl) (by rw [hob]; rfl)⟩
            ·exact gY0 hg32 rfl rfl (blt_lt rfl) rfl ⟨168, rfl, blt_lt rfl, fun st hob hE => aop_move (av := .sl 3 0 SB.reverse.length) (.inl rfl) rfl rfl (hE 18 rfl) (by rw [hob]; rfl)⟩
            ·exact gY0 hg32 rfl rfl (blt_lt rfl) rfl ⟨169, rfl, blt_lt rfl, fun st hob hE => aop_move (av := .i (i : Int)) (.inl rfl) rfl rfl (hE 20 rfl) (by rw [hob]; rfl)⟩
            ·exact gY0 hg32 rfl rfl (blt_lt rfl) rfl ⟨170, rfl, blt_lt rfl, fun st hob hE => aop_ixO (k := i) rfl rfl rfl ut38 sz3 (hE 168 rfl) (hE 169 rfl) (by first | omega | (simp; done) | decide | (simp at *; omega)) (by rw [hob]; rfl)⟩
            ·exact gY0 hg32 rfl rfl (blt_lt rfl) rfl ⟨171, rfl, blt_lt rfl, fun st hob hE => aop_ldO (f := eI) (l := SB.reverse) 0 rfl rfl rfl ag3 (hE 170 rfl) (by rw [hob]; rfl) rfl (fun _ => rfl) (by first | omega | (simp; done) | decide | (simp at *; omega)) rfl (by rw [hob]; rfl)⟩
            ·exact gY0 hg32 rfl rfl (blt_lt rfl) rfl ⟨172, rfl, blt_lt rfl, fun st hob hE => aop_fieldAddr (av := .pt 4 0) (av' := .pt 4 3) rfl rfl rfl ft58_3 sz3 (hE 19 rfl) rfl rfl (by rw [hob]; rfl)⟩
            ·exact gY0 hg32 rfl rfl (blt_lt rfl) rfl ⟨173, rfl, blt_lt rfl, fun st hob hE => aop_ld (av := .i (((mkPts d.form).getD q dP).right)) rfl rfl rfl ag3 (hE 172 rfl) (by rw [hob]; rfl) (by rw [hob]; rfl)⟩
            ·exact gY0 hg32 rfl rfl (blt_lt rfl) rfl ⟨174, rfl, blt_lt rfl, fun st hob hE => aop_binI (u := (.bool ((SB.reverse.getD i 0) == (((mkPts d.form).getD q dP).right)))) rfl rfl rfl (hE 171 rfl) (hE 173 rfl) trivial rfl (by rw [hob]; rfl)⟩
            ·exact gY1 rfl rfl rfl (blt_lt rfl) rfl ⟨175, rfl, blt_lt rfl, fun st hob hE => aop_pick (b := ((SB.reverse.getD i 0) == (((mkPts d.form).getD q dP).left))) (av := .b ((SB.reverse.getD i 0) == (((mkPts d.form).getD q dP).right))) rfl rfl rfl (hE 167 rfl) (by rw [hg32]; exact hE 174 rfl) (by rw [hob]; rfl)⟩
            ·exact gY1 rfl rfl rfl (blt_lt rfl) rfl ⟨176, rfl, blt_lt rfl, fun st hob hE => aop_move (av := .b ((SB.reverse.getD i 0) == (((mkPts d.form).getD q dP).right))) (.inl rfl) rfl rfl (hE 175 rfl) (by rw [hob]; rfl)⟩
            ·exact gY0 hg35 rfl rfl (blt_lt rfl) rfl ⟨177, rfl, blt_lt rfl, fun st hob hE => aop_move (av := .sl 3 0 SB.reverse.length) (.inl rfl) rfl rfl (hE 18 rfl) (by rw [hob]; rfl)⟩
            ·exact gY0 hg35 rfl rfl (blt_lt rfl) rfl ⟨178, rfl, blt_lt rfl, fun st hob hE => aop_move (av := .i (i : Int)) (.inl rfl) rfl rfl (hE 20 rfl) (by rw [hob]; rfl)⟩
            ·exact gY0 hg35 rfl rfl (blt_lt rfl) rfl ⟨179, rfl, blt_lt rfl, fun st hob hE => aop_ixO (k := i) rfl rfl rfl ut38 sz3 (hE 177 rfl) (hE 178 rfl) (by first | omega | (simp; done) | decide | (simp at *; omega)) (by rw [hob]; rfl)⟩
            ·exact gY0 hg35 rfl rfl (blt_lt rfl) rfl ⟨180, rfl, blt_lt rfl, fun st hob hE => aop_ldO (f := eI) (l := SB.reverse) 0 rfl rfl rfl ag3 (hE 179 rfl) (by rw [hob]; rfl) rfl (fun _ => rfl) (by first | omega | (simp; done) | decide | (simp at *; omega)) rfl (by rw [hob]; rfl)⟩
            ·exact gY0 hg35 rfl rfl (blt_lt rfl) rfl ⟨181, rfl, blt_lt rfl, fun st hob hE => aop_fieldAddr (av := .pt 4 0) (av' := .pt 4 1) rfl rfl rfl ft58_1 sz3 (hE 19 rfl) rfl rfl (by rw [hob]; rfl)⟩
            ·exact gY0 hg35 rfl rfl (blt_lt rfl) rfl ⟨182, rfl, blt_lt rfl, fun st hob hE => aop_ld (av := .i (((mkPts d.form).getD q dP).stem)) rfl rfl rfl ag3 (hE 181 rfl) (by rw [hob]; rfl) (by rw [hob]; rfl)⟩
            ·exact gY0 hg35 rfl rfl (blt_lt rfl) rfl ⟨183, rfl, blt_lt rfl, fun st hob hE => aop_binI (u := (.bool ((SB.reverse.getD i 0) == (((mkPts d.form).getD q dP).stem)))) rfl rfl rfl (hE 180 rfl) (hE 182 rfl) trivial rfl (by rw [hob]; rfl)⟩
            ·exact gY1 rfl rfl rfl (blt_lt rfl) rfl ⟨184, rfl, blt_lt rfl, fun st hob hE => aop_pick (b := ((SB.reverse.getD i 0) == (((mkPts d.form).getD q dP).right))) (av := .b ((SB.reverse.getD i 0) == (((mkPts d.form).getD q dP).stem))) rfl rfl rfl (hE 176 rfl) (by rw [hg35]; exact hE 183 rfl) (by rw [hob]; rfl)⟩
            ·exact ⟨185, rfl, blt_lt rfl, fun st hob hE => aop_pick (b := true) (av := .b ((SB.reverse.getD i 0) == (((mkPts d.form).getD q dP).stem))) rfl rfl rfl (hE 159 rfl) (hE 184 rfl) (by rw [hob]; rfl)⟩
           refine opG rfl (aop_move (av := .b ((SB.reverse.getD i 0) == (((mkPts d.form).getD q dP).stem))) (.inr rfl) rfl rfl rfl ?_)
           refine op0 ?_
           refine awp_ret ?_
           exact fret (av := .v (.bool ((SB.reverse.getD i 0) == (((mkPts d.form).getD q dP).stem)))) rfl rfl (by first | rfl | (rw [leg_last hpa.2.2 (by omega) (by omega)]; simp))
        ·skip
         have hf38 := (beq_eq_false_iff_ne).1 hg30
         refine (Bool.eq_false_or_eq_true ((SA.reverse.getD i 0) == (((mkPts d.form).getD q dP).stem))).elim (fun hg39 => ?_) (fun hg39 => ?_)
         ·skip
          have hf40 := (beq_iff_eq).1 hg39
          refine (Bool.eq_false_or_eq_true ((SB.reverse.getD i 0) == (((mkPts d.form).getD q dP).left))).elim (fun hg41 => ?_) (fun hg41 => ?_)
          ·skip
           have hf42 := (beq_iff_eq).1 hg41
           refine awp_draw (m := 59) [(185, .b true), (184, .b true), (183, .v undef), (182, .v undef), (181, .v undef), (180, .v undef), (179, .v undef), (178, .v undef), (177, .v undef), (176, .b true), (175, .b true), (174, .v undef), (173, .v undef), (172, .v undef), (171, .v undef), (170, .v undef), (169, .v undef), (168, .v undef), (167, .b ((SB.reverse.getD i 0) == (((mkPts d.form).getD q dP).left))), (166, .b ((SB.reverse.getD i 0) == (((mkPts d.form).getD q dP).left))), (165, .i (((mkPts d.form).getD q dP).left)), (164, .pt 4 2), (163, .i (SB.reverse.getD i 0)), (162, .pt 3 (i * 1)), (161, .i (i : Int)), (160, .sl 3 0 SB.reverse.length), (159, .b ((SA.reverse.getD i 0) == (((mkPts d.form).getD q dP).stem))), (158, .b ((SA.reverse.getD i 0) == (((mkPts d.form).getD q dP).stem))), (157, .b ((SA.reverse.getD i 0) == (((mkPts d.form).getD q dP).stem))), (156, .b ((SA.reverse.getD i 0) == (((mkPts d.form).getD q dP).stem))), (155, .i (((mkPts d.form).getD q dP).stem)), (154, .pt 4 1), (153, .i (SA.reverse.getD i 0)), (152, .pt 2 (i * 1)), (151, .i (i : Int)), (150, .sl 2 0 SA.reverse.length), (149, .b ((SA.reverse.getD i 0) == (((mkPts d.form).getD q dP).right))), (148, .b ((SA.reverse.getD i 0) == (((mkPts d.form).getD q dP).right))), (147, .b ((SA.reverse.getD i 0) == (((mkPts d.form).getD q dP).right))), (146, .i (((mkPts d.form).getD q dP).right)), (145, .pt 4 3), (144, .i (SA.reverse.getD i 0)), (143, .pt 2 (i * 1)), (142, .i (i : Int)), (141, .sl 2 0 SA.reverse.length), (140, .b ((SA.reverse.getD i 0) == (((mkPts d.form).getD q dP).left))), (139, .b ((SA.reverse.getD i 0) == (((mkPts d.form).getD q dP).left))), (138, .i (((mkPts d.form).getD q dP).left)), (137, .pt 4 2), (136, .i (SA.reverse.getD i 0)), (135, .pt 2 (i * 1)), (134, .i (i : Int)), (133, .sl 2 0 SA.reverse.length), (132, .b (decide ((i : Int) ≥ ((wk d x).length : Int)))), (131, .b (decide ((i : Int) ≥ ((wk d x).length : Int)))), (130, .i ((wk d x).length : Int)), (129, .q eI (wk d x)), (128, .pt 1 5), (127, .i (i : Int))] mixed (by kernel_rfl) ?_ ?_
           ·refine ⟨?_, ?_, ?_, ?_, ?_, ?_, ?_, ?_, ?_, ?_, ?_, ?_, ?_, ?_, ?_, ?_, ?_, ?_, ?_, ?_, ?_, ?_, ?_, ?_, ?_, ?_, ?_, ?_, ?_, ?_, ?_, ?_, ?_, ?_, ?_, ?_, ?_, ?_, ?_, ?_, ?_, ?_, ?_, ?_, ?_, ?_, ?_, ?_, ?_, ?_, ?_, ?_, ?_, ?_, ?_, ?_, ?_, ?_, ?_, trivial⟩
            ·exact ⟨127, rfl, blt_lt rfl, fun st hob hE => aop_move (av := .i (i : Int)) (.inl rfl) rfl rfl (hE 20 rfl) (by rw [hob]; rfl)⟩
            ·exact ⟨128, rfl, blt_lt rfl, fun st hob hE => aop_fieldAddr (av := .pt 1 0) (av' := .pt 1 5) rfl rfl rfl ft40_5 sz38 (hE 8 rfl) rfl rfl (by rw [hob]; rfl)⟩
            ·exact ⟨129, rfl, blt_lt rfl, fun st hob hE => aop_ld (av := .q eI (wk d x)) rfl rfl rfl ag38 (hE 128 rfl) (by rw [hob]; rfl) (by rw [hob]; rfl)⟩
            ·exact ⟨130, rfl, blt_lt rfl, fun st hob hE => aop_len rfl rfl rfl rfl ut38 (len_ro (hE 129 rfl)) (by rw [hob]; rfl)⟩
            ·exact ⟨131, rfl, blt_lt rfl, fun st hob hE => aop_binI (u := (.bool (decide ((i : Int) ≥ ((wk d x).length : Int))))) rfl rfl rfl (hE 127 rfl) (hE 130 rfl) trivial rfl (by rw [hob]; rfl)⟩
            ·exact ⟨132, rfl, blt_lt rfl, fun st hob hE => aop_move (av := .b (decide ((i : Int) ≥ ((wk d x).length : Int)))) (.inl rfl) rfl rfl (hE 131 rfl) (by rw [hob]; rfl)⟩
            ·exact gY1 hg19 rfl rfl (blt_lt rfl) rfl ⟨133, rfl, blt_lt rfl, fun st hob hE => aop_move (av := .sl 2 0 SA.reverse.length) (.inl rfl) rfl rfl (hE 17 rfl) (by rw [hob]; rfl)⟩
            ·exact gY1 hg19 rfl rfl (blt_lt rfl) rfl ⟨134, rfl, blt_lt rfl, fun st hob hE => aop_move (av := .i (i : Int)) (.inl rfl) rfl rfl (hE 20 rfl) (by rw [hob]; rfl)⟩
            ·exact gY1 hg19 rfl rfl (blt_lt rfl) rfl ⟨135, rfl, blt_lt rfl, fun st hob hE => aop_ixO (k := i) rfl rfl rfl ut38 sz3 (hE 133 rfl) (hE 134 rfl) (by first | omega | (simp; done) | decide | (simp at *; omega)) (by rw [hob]; rfl)⟩
            ·exact gY1 hg19 rfl rfl (blt_lt rfl) rfl ⟨136, rfl, blt_lt rfl, fun st hob hE => aop_ldO (f := eI) (l := SA.reverse) 0 rfl rfl rfl ag3 (hE 135 rfl) (by rw [hob]; rfl) rfl (fun _ => rfl) (by first | omega | (simp; done) | decide | (simp at *; omega)) rfl (by rw [hob]; rfl)⟩
            ·exact gY1 hg19 rfl rfl (blt_lt rfl) rfl ⟨137, rfl, blt_lt rfl, fun st hob hE => aop_fieldAddr (av := .pt 4 0) (av' := .pt 4 2) rfl rfl rfl ft58_2 sz3 (hE 19 rfl) rfl rfl (by rw [hob]; rfl)⟩
            ·exact gY1 hg19 rfl rfl (blt_lt rfl) rfl ⟨138, rfl, blt_lt rfl, fun st hob hE => aop_ld (av := .i (((mkPts d.form).getD q dP).left)) rfl rfl rfl ag3 (hE 137 rfl) (by rw [hob]; rfl) (by rw [hob]; rfl)⟩
            ·exact gY1 hg19 rfl rfl (blt_lt rfl) rfl ⟨139, rfl, blt_lt rfl, fun st hob hE => aop_binI (u := (.bool ((SA.reverse.getD i 0) == (((mkPts d.form).getD q dP).left)))) rfl rfl rfl (hE 136 rfl) (hE 138 rfl) trivial rfl (by rw [hob]; rfl)⟩
            ·exact gY1 hg19 rfl rfl (blt_lt rfl) rfl ⟨140, rfl, blt_lt rfl, fun st hob hE => aop_move (av := .b ((SA.reverse.getD i 0) == (((mkPts d.form).getD q dP).left))) (.inl rfl) rfl rfl (hE 139 rfl) (by rw [hob]; rfl)⟩
            ·exact gY0 hg21 rfl rfl (blt_lt rfl) rfl ⟨141, rfl, blt_lt rfl, fun st hob hE => aop_move (av := .sl 2 0 SA.reverse.length) (.inl rfl) rfl rfl (hE 17 rfl) (by rw [hob]; rfl)⟩
            ·exact gY0 hg21 rfl rfl (blt_lt rfl) rfl ⟨142, rfl, blt_lt rfl, fun st hob hE => aop_move (av := .i (i : Int)) (.inl rfl) rfl rfl (hE 20 rfl) (by rw [hob]; rfl)⟩
            ·exact gY0 hg21 rfl rfl (blt_lt rfl) rfl ⟨143, rfl, blt_lt rfl, fun st hob hE => aop_ixO (k := i) rfl rfl rfl ut38 sz3 (hE 141 rfl) (hE 142 rfl) (by first | omega | (simp; done) | decide | (simp at *; omega)) (by rw [hob]; rfl)⟩
            ·exact gY0 hg21 rfl rfl (blt_lt rfl) rfl ⟨144, rfl, blt_lt rfl, fun st hob hE => aop_ldO (f := eI) (l := SA.reverse) 0 rfl rfl rfl ag3 (hE 143 rfl) (by rw [hob]; rfl) rfl (fun _ => rfl) (by first | omega | (simp; done) | decide | (simp at *; omega)) rfl (by rw [hob]; rfl)⟩
            ·exact gY0 hg21 rfl rfl (blt_lt rfl) rfl ⟨145, rfl, blt_lt rfl, fun st hob hE => aop_fieldAddr (av := .pt 4 0) (av' := .pt 4 3) rfl rfl rfl ft58_3 sz3 (hE 19 rfl) rfl rfl (by rw [hob]; rfl)⟩
            ·exact gY0 hg21 rfl rfl (blt_lt rfl) rfl ⟨146, rfl, blt_lt rfl, fun st hob hE => aop_ld (av := .i (((mkPts d.form).getD q dP).right)) rfl rfl rfl ag3 (hE 145 rfl) (by rw [hob]; rfl) (by rw [hob]; rfl)⟩
            ·exact gY0 hg21 rfl rfl (blt_lt rfl) rfl ⟨147, rfl, blt_lt rfl, fun st hob hE => aop_binI (u := (.bool ((SA.reverse.getD i 0) == (((mkPts d.form).getD q dP).right)))) rfl rfl rfl (hE 144 rfl) (hE 146 rfl) trivial rfl (by rw [hob]; rfl)⟩
            ·exact gY1 hg19 rfl rfl (blt_lt rfl) rfl ⟨148, rfl, blt_lt rfl, fun st hob hE => aop_pick (b := ((SA.reverse.getD i 0) == (((mkPts d.form).getD q dP).left))) (av := .b ((SA.reverse.getD i 0) == (((mkPts d.form).getD q dP).right))) rfl rfl rfl (hE 140 rfl) (by rw [hg21]; exact hE 147 rfl) (by rw [hob]; rfl)⟩
            ·exact gY1 hg19 rfl rfl (blt_lt rfl) rfl ⟨149, rfl, blt_lt rfl, fun st hob hE => aop_move (av := .b ((SA.reverse.getD i 0) == (((mkPts d.form).getD q dP).right))) (.inl rfl) rfl rfl (hE 148 rfl) (by rw [hob]; rfl)⟩
            ·exact gY0 hg30 rfl rfl (blt_lt rfl) rfl ⟨150, rfl, blt_lt rfl, fun st hob hE => aop_move (av := .sl 2 0 SA.reverse.length) (.inl rfl) rfl rfl (hE 17 rfl) (by rw [hob]; rfl)⟩
            ·exact gY0 hg30 rfl rfl (blt_lt rfl) rfl ⟨151, rfl, blt_lt rfl, fun st hob hE => aop_move (av := .i (i : Int)) (.inl rfl) rfl rfl (hE 20 rfl) (by rw [hob]; rfl)⟩
            ·exact gY0 hg30 rfl rfl (blt_lt rfl) rfl ⟨152, rfl, blt_lt rfl, fun st hob hE => aop_ixO (k := i) rfl rfl rfl ut38 sz3 (hE 150 rfl) (hE 151 rfl) (by first | omega | (simp; done) | decide | (simp at *; omega)) (by rw [hob]; rfl)⟩
            ·exact gY0 hg30 rfl rfl (blt_lt rfl) rfl ⟨153, rfl, blt_lt rfl, fun st hob hE => aop_ldO (f := eI) (l := SA.reverse) 0 rfl rfl rfl ag3 (hE 152 rfl) (by rw [hob]; rfl) rfl (fun _ => rfl) (by first | omega | (simp; done) | decide | (simp at *; omega)) rfl (by rw [hob]; rfl)⟩
            ·exact gY0 hg30 rfl rfl (blt_lt rfl) rfl ⟨154, rfl, blt_lt rfl, fun st hob hE => aop_fieldAddr (av := .pt 4 0) (av' := .pt 4 1) rfl rfl rfl ft58_1 sz3 (hE 19 rfl) rfl rfl (by rw [hob]; rfl)⟩
            ·exact gY0 hg30 rfl rfl (blt_lt rfl) rfl ⟨155, rfl, blt_lt rfl, fun st hob hE => aop_ld (av := .i (((mkPts d.form).getD q dP).stem)) rfl rfl rfl ag3 (hE 154 rfl) (by rw [hob]; rfl) (by rw [hob]; rfl)⟩
            ·exact gY0 hg30 rfl rfl (blt_lt rfl) rfl ⟨156, rfl, blt_lt rfl, fun st hob hE => aop_binI (u := (.bool ((SA.reverse.getD i 0) == (((mkPts d.form).getD q dP).stem)))) rfl rfl rfl (hE 153 rfl) (hE 155 rfl) trivial rfl (by rw [hob]; rfl)⟩
            ·exact gY1 hg19 rfl rfl (blt_lt rfl) rfl ⟨157, rfl, blt_lt rfl, fun st hob hE => aop_pick (b := ((SA.reverse.getD i 0) == (((mkPts d.form).getD q dP).right))) (av := .b ((SA.reverse.getD i 0) == (((mkPts d.form).getD q dP).stem))) rfl rfl rfl (hE 149 rfl) (by rw [hg30]; exact hE 156 rfl) (by rw [hob]; rfl)⟩
            ·exact ⟨158, rfl, blt_lt rfl, fun st hob hE => aop_pick (b := (decide ((i : Int) ≥ ((wk d x).length : Int)))) (av := .b ((SA.reverse.getD i 0) == (((mkPts d.form).getD q dP).stem))) rfl rfl rfl (hE 132 rfl) (by rw [hg19]; exact hE 157 rfl) (by rw [hob]; rfl)⟩
            ·exact ⟨159, rfl, blt_lt rfl, fun st hob hE => aop_move (av := .b ((SA.reverse.getD i 0) == (((mkPts d.form).getD q dP).stem))) (.inl rfl) rfl rfl (hE 158 rfl) (by rw [hob]; rfl)⟩
            ·exact gY1 hg39 rfl rfl (blt_lt rfl) rfl ⟨160, rfl, blt_lt rfl, fun st hob hE => aop_move (av := .sl 3 0 SB.reverse.length) (.inl rfl) rfl rfl (hE 18 rfl) (by rw [hob]; rfl)⟩
            ·exact gY1 hg39 rfl rfl (blt_lt rfl) rfl ⟨161, rfl, blt_lt rfl, fun st hob hE => aop_move (av := .i (i : Int)) (.inl rfl) rfl rfl (hE 20 rfl) (by rw [hob]; rfl)⟩
            ·exact gY1 hg39 rfl rfl (blt_lt rfl) rfl ⟨162, rfl, blt_lt rfl, fun st hob hE => aop_ixO (k := i) rfl rfl rfl ut38 sz3 (hE 160 rfl) (hE 161 rfl) (by first | omega | (simp; done) | decide | (simp at *; omega)) (by rw [hob]; rfl)⟩
            ·exact gY1 hg39 rfl rfl (blt_lt rfl) rfl ⟨163, rfl, blt_lt rfl, fun st hob hE => aop_ldO (f := eI) (l := SB.reverse) 0 rfl rfl rfl ag3 (hE 162 rfl) (by rw [hob]; rfl) rfl (fun _ => rfl) (by first | omega | (simp; done) | decide | (simp at *; omega)) rfl (by rw [hob]; rfl)⟩
            ·exact gY1 hg39 rfl rfl (blt_lt rfl) rfl ⟨164, rfl, blt_lt rfl, fun st hob hE => aop_fieldAddr (av := .pt 4 0) (av' := .pt 4 2) rfl rfl rfl ft58_2 sz3 (hE 19 rfl) rfl rfl (by rw [hob]; rfl)⟩
            ·exact gY1 hg39 rfl rfl (blt_lt rfl) rfl ⟨165, rfl, blt_lt rfl, fun st hob hE => aop_ld (av := .i (((mkPts d.form).getD q dP).left)) rfl rfl rfl ag3 (hE 164 rfl) (by rw [hob]; rfl) (by rw [hob]; rfl)⟩
            ·exact gY1 hg39 rfl rfl (blt_lt rfl) rfl ⟨166, rfl, blt_lt rfl, fun st hob hE => aop_binI (u := (.bool ((SB.reverse.getD i 0) == (((mkPts d.form).getD q dP).left)))) rfl rfl rfl (hE 163 rfl) (hE 165 rfl) trivial rfl (by rw [hob]; rfl)⟩
            ·exact gY1 hg39 rfl rfl (blt_lt rfl) rfl ⟨167, rfl, blt_lt rfl, fun st hob hE => aop_move (av := .b ((SB.reverse.getD i 0) == (((mkPts d.form).getD q dP).left))) (.inl rfl) rfl rfl (hE 166 rfl) (by rw [hob]; rfl)⟩
            ·exact gN0 hg41 rfl rfl (blt_lt rfl) rfl rfl (blt_lt rfl) rfl
            ·exact gN0 hg41 rfl rfl (blt_lt rfl) rfl rfl (blt_lt rfl) rfl
            ·exact gN0 hg41 rfl rfl (blt_lt rfl) rfl rfl (blt_lt rfl) rfl
            ·exact gN0 hg41 rfl rfl (blt_lt rfl) rfl rfl (blt_lt rfl) rfl
            ·exact gN0 hg41 rfl rfl (blt_lt rfl) rfl rfl (blt_lt rfl) rfl
            ·exact gN0 hg41 rfl rfl (blt_lt rfl) rfl rfl (blt_lt rfl) rfl
            ·exact gN0 hg41 rfl rfl (blt_lt rfl) rfl rfl (blt_lt rfl) rfl
            ·exact gY1 hg39 rfl rfl (blt_lt rfl) rfl ⟨175, rfl, blt_lt rfl, fun st hob hE => aop_pick (b := ((SB.reverse.getD i 0) == (((mkPts d.form).getD q dP).left))) (av := .b true) rfl rfl rfl (hE 167 rfl) (by rw [hg41]; rfl) (by rw [hob]; rfl)⟩
            ·exact gY1 hg39 rfl rfl (blt_lt rfl) rfl ⟨176, rfl, blt_lt rfl, fun st hob hE => aop_move (av := .b true) (.inl rfl) rfl rfl (hE 175 rfl) (by rw [hob]; rfl)⟩
            ·exact gN0 rfl rfl rfl (blt_lt rfl) rfl rfl (blt_lt rfl) rfl
            ·exact gN0 rfl rfl rfl (blt_lt rfl) rfl rfl (blt_lt rfl) rfl
            ·exact gN0 rfl rfl rfl (blt_lt rfl) rfl rfl (blt_lt rfl) rfl
            ·exact gN0 rfl rfl rfl (blt_lt rfl) rfl rfl (blt_lt rfl) rfl
            ·exact gN0 rfl rfl rfl (blt_lt rfl) rfl rfl (blt_lt rfl) rfl
            ·exact gN0 rfl rfl rfl (blt_lt rfl) rfl rfl (blt_lt rfl) rfl
            ·exact gN0 rfl rfl rfl (blt_lt rfl) rfl rfl (blt_lt rfl) rfl
            ·exact gY1 hg39 rfl rfl (blt_lt rfl) rfl ⟨184, rfl, blt_lt rfl, fun st hob hE => aop_pick (b := true) (av := .b true) rfl rfl rfl (hE 176 rfl) rfl (by rw [hob]; rfl)⟩
            ·exact ⟨185, rfl, blt_lt rfl, fun st hob hE => aop_pick (b := ((SA.reverse.getD i 0) == (((mkPts d.form).getD q dP).stem))) (av := .b true) rfl rfl rfl (hE 159 rfl) (by rw [hg39]; exact hE 184 rfl) (by rw [hob]; rfl)⟩
           refine opG rfl (aop_move (av := .b true) (.inr rfl) rfl rfl rfl ?_)
           refine op0 ?_
           refine awp_ret ?_
           exact fret (av := .v (.bool true)) rfl rfl (by first | rfl | (rw [leg_last hpa.2.2 (by omega) (by omega)]; simp))
          ·skip
           have hf43 := (beq_eq_false_iff_ne).1 hg41
           refine (Bool.eq_false_or_eq_true ((SB.reverse.getD i 0) == (((mkPts d.form).getD q dP).right))).elim (fun hg44 => ?_) (fun hg44 => ?_)
           ·skip
            have hf45 := (beq_iff_eq).1 hg44
            refine awp_draw (m := 59) [(185, .b true), (184, .b true), (183, .v undef), (182, .v undef), (181, .v undef), (180, .v undef), (179, .v undef), (178, .v undef), (177, .v undef), (176, .b ((SB.reverse.getD i 0) == (((mkPts d.form).getD q dP).right))), (175, .b ((SB.reverse.getD i 0) == (((mkPts d.form).getD q dP).right))), (174, .b ((SB.reverse.getD i 0) == (((mkPts d.form).getD q dP).right))), (173, .i (((mkPts d.form).getD q dP).right)), (172, .pt 4 3), (171, .i (SB.reverse.getD i 0)), (170, .pt 3 (i * 1)), (169, .i (i : Int)), (168, .sl 3 0 SB.reverse.length), (167, .b ((SB.reverse.getD i 0) == (((mkPts d.form).getD q dP).left))), (166, .b ((SB.reverse.getD i 0) == (((mkPts d.form).getD q dP).left))), (165, .i (((mkPts d.form).getD q dP).left)), (164, .pt 4 2), (163, .i (SB.reverse.getD i 0)), (162, .pt 3 (i * 1)), (161, .i (i : Int)), (160, .sl 3 0 SB.reverse.length), (159, .b ((SA.reverse.getD i 0) == (((mkPts d.form).getD q dP).stem))), (158, .b ((SA.reverse.getD i 0) == (((mkPts d.form).getD q dP).stem))), (157, .b ((SA.reverse.getD i 0) == (((mkPts d.form).getD q dP).stem))), (156, .b ((SA.reverse.getD i 0) == (((mkPts d.form).getD q dP).stem))), (155, .i (((mkPts d.form).getD q dP).stem)), (154, .pt 4 1), (153, .i (SA.reverse.getD i 0)), (152, .pt 2 (i * 1)), (151, .i (i : Int)), (150, .sl 2 0 SA.reverse.length), (149, .b ((SA.reverse.getD i 0) == (((mkPts d.form).getD q dP).right))), (148, .b ((SA.reverse.getD i 0) == (((mkPts d.form).getD q dP).right))), (147, .b ((SA.reverse.getD i 0) == (((mkPts d.form).getD q dP).right))), (146, .i (((mkPts d.form).getD q dP).right)), (145, .pt 4 3), (144, .i (SA.reverse.getD i 0)), (143, .pt 2 (i * 1)), (142, .i (i : Int)), (141, .sl 2 0 SA.reverse.length), (140, .b ((SA.reverse.getD i 0) == (((mkPts d.form).getD q dP).left))), (139, .b ((SA.reverse.getD i 0) == (((mkPts d.form).getD q dP).left))), (138, .i (((mkPts d.form).getD q dP).left)), (137, .pt 4 2), (136, .i (SA.reverse.getD i 0)), (135, .pt 2 (i * 1)), (134, .i (i : Int)), (133, .sl 2 0 SA.reverse.length), (132, .b (decide ((i : Int) ≥ ((wk d x).length : Int)))), (131, .b (decide ((i : Int) ≥ ((wk d x).length : Int)))), (130, .i ((wk d x).length : Int)), (129, .q eI (wk d x)), (128, .pt 1 5), (127, .i (i : Int))] mixed (by kernel_rfl) ?_ ?_
            ·refine ⟨?_, ?_, ?_, ?_, ?_, ?_, ?_, ?_, ?_, ?_, ?_, ?_, ?_, ?_, ?_, ?_, ?_, ?_, ?_, ?_, ?_, ?_, ?_, ?_, ?_, ?_, ?_, ?_, ?_, ?_, ?_, ?_, ?_, ?_, ?_, ?_, ?_, ?_, ?_, ?_, ?_, ?_, ?_, ?_, ?_, ?_, ?_, ?_, ?_, ?_, ?_, ?_, ?_, ?_, ?_, ?_, ?_, ?_, ?_, trivial⟩
             ·exact ⟨127, rfl, blt_lt rfl, fun st hob hE => aop_move (av := .i (i : Int)) (.inl rfl) rfl rfl (hE 20 rfl) (by rw [hob]; rfl)⟩
             ·exact ⟨128, rfl, blt_lt rfl, fun st hob hE => aop_fieldAddr (av := .pt 1 0) (av' := .pt 1 5) rfl rfl rfl ft40_5 sz38 (hE 8 rfl) rfl rfl (by rw [hob]; rfl)⟩
             ·exact ⟨129, rfl, blt_lt rfl, fun st hob hE => aop_ld (av := .q eI (wk d x)) rfl rfl rfl ag38 (hE 128 rfl) (by rw [hob]; rfl) (by rw [hob]; rfl)⟩
             ·exact ⟨130, rfl, blt_lt rfl, fun st hob hE => aop_len rfl rfl rfl rfl ut38 (len_ro (hE 129 rfl)) (by rw [hob]; rfl)⟩
             ·exact ⟨131, rfl, blt_lt rfl, fun st hob hE => aop_binI (u := (.bool (decide ((i : Int) ≥ ((wk d x).length : Int))))) rfl rfl rfl (hE 127 rfl) (hE 130 rfl) trivial rfl (by rw [hob]; rfl)⟩
             ·exact ⟨132, rfl, blt_lt rfl, fun st hob hE => aop_move (av := .b (decide ((i : Int) ≥ ((wk d x).length : Int)))) (.inl rfl) rfl rfl (hE 131 rfl) (by rw [hob]; rfl)⟩
             ·exact gY1 hg19 rfl rfl (blt_lt rfl) rfl ⟨133, rfl, blt_lt rfl, fun st hob hE => aop_move (av := .sl 2 0 SA.reverse.length) (.inl rfl) rfl rfl (hE 17 rfl) (by rw [hob]; rfl)⟩
             ·exact gY1 hg19 rfl rfl (blt_lt rfl) rfl ⟨134, rfl, blt_lt rfl, fun st hob hE => aop_move (av := .i (i : Int)) (.inl rfl) rfl rfl (hE 20 rfl) (by rw [hob]; rfl)⟩
             ·exact gY1 hg19 rfl rfl (blt_lt rfl) rfl ⟨135, rfl, blt_lt rfl, fun st hob hE => aop_ixO (k := i) rfl rfl rfl ut38 sz3 (hE 133 rfl) (hE 134 rfl) (by first | omega | (simp; done) | decide | (simp at *; omega)) (by rw [hob]; rfl)⟩
             ·exact gY1 hg19 rfl rfl (blt_lt rfl) rfl ⟨136, rfl, blt_lt rfl, fun st hob hE => aop_ldO (f := eI) (l := SA.reverse) 0 rfl rfl rfl ag3 (hE 135 rfl) (by rw [hob]; rfl) rfl (fun _ => rfl) (by first | omega | (simp; done) | decide | (simp at *; omega)) rfl (by rw [hob]; rfl)⟩
             ·exact gY1 hg19 rfl rfl (blt_lt rfl) rfl ⟨137, rfl, blt_lt rfl, fun st hob hE => aop_fieldAddr (av := .pt 4 0) (av' := .pt 4 2) rfl rfl rfl ft58_2 sz3 (hE 19 rfl) rfl rfl (by rw [hob]; rfl)⟩
             ·exact gY1 hg19 rfl rfl (blt_lt rfl) rfl ⟨138, rfl, blt_lt rfl, fun st hob hE => aop_ld (av := .i (((mkPts d.form).getD q dP).left)) rfl rfl rfl ag3 (hE 137 rfl) (by rw [hob]; rfl) (by rw [hob]; rfl)⟩
             ·exact gY1 hg19 rfl rfl (blt_lt rfl) rfl ⟨139, rfl, blt_lt rfl, fun st hob hE => aop_binI (u := (.bool ((SA.reverse.getD i 0) == (((mkPts d.form).getD q dP).left)))) rfl rfl rfl (hE 136 rfl) (hE 138 rfl) trivial rfl (by rw [hob]; rfl)⟩
             ·exact gY1 hg19 rfl rfl (blt_lt rfl) rfl ⟨140, rfl, blt_lt rfl, fun st hob hE => aop_move (av := .b ((SA.reverse.getD i 0) == (((mkPts d.form).getD q dP).left))) (.inl rfl) rfl rfl (hE 139 rfl) (by rw [hob]; rfl)⟩
             ·exact gY0 hg21 rfl rfl (blt_lt rfl) rfl ⟨141, rfl, blt_lt rfl, fun st hob hE => aop_move (av := .sl 2 0 SA.reverse.length) (.inl rfl) rfl rfl (hE 17 rfl) (by rw [hob]; rfl)⟩
             ·exact gY0 hg21 rfl rfl (blt_lt rfl) rfl ⟨142, rfl, blt_lt rfl, fun st hob hE => aop_move (av := .i (i : Int)) (.inl rfl) rfl rfl (hE 20 rfl) (by rw [hob]; rfl)⟩
             ·exact gY0 hg21 rfl rfl (blt_lt rfl) rfl ⟨143, rfl, blt_lt rfl, fun st hob hE => aop_ixO (k := i) rfl rfl rfl ut38 sz3 (hE 141 rfl) (hE 142 rfl) (by first | omega | (simp; done) | decide | (simp at *; omega)) (by rw [hob]; rfl)⟩
             ·exact gY0 hg21 rfl rfl (blt_lt rfl) rfl ⟨144, rfl, blt_lt rfl, fun st hob hE => aop_ldO (f := eI) (l := SA.reverse) 0 rfl rfl rfl ag3 (hE 143 rfl) (by rw [hob]; rfl) rfl (fun _ => rfl) (by first | omega | (simp; done) | decide | (simp at *; omega)) rfl (by rw [hob]; rfl)⟩
             ·exact gY0 hg21 rfl rfl (blt_lt rfl) rfl ⟨145, rfl, blt_lt rfl, fun st hob hE => aop_fieldAddr (av := .pt 4 0) (av' := .pt 4 3) rfl rfl rfl ft58_3 sz3 (hE 19 rfl) rfl rfl (by rw [hob]; rfl)⟩
             ·exact gY0 hg21 rfl rfl (blt_lt rfl) rfl ⟨146, rfl, blt_lt rfl, fun st hob hE => aop_ld (av := .i (((mkPts d.form).getD q dP).right)) rfl rfl rfl ag3 (hE 145 rfl) (by rw [hob]; rfl) (by rw [hob]; rfl)⟩
             ·exact gY0 hg21 rfl rfl (blt_lt rfl) rfl ⟨147, rfl, blt_lt rfl, fun st hob hE => aop_binI (u := (.bool ((SA.reverse.getD i 0) == (((mkPts d.form).getD q dP).right)))) rfl rfl rfl (hE 144 rfl) (hE 146 rfl) trivial rfl (by rw [hob]; rfl)⟩
             ·exact gY1 hg19 rfl rfl (blt_lt rfl) rfl ⟨148, rfl, blt_lt rfl, fun st hob hE => aop_pick (b := ((SA.reverse.getD i 0) == (((mkPts d.form).getD q dP).left))) (av := .b ((SA.reverse.getD i 0) == (((mkPts d.form).getD q dP).right))) rfl rfl rfl (hE 140 rfl) (by rw [hg21]; exact hE 147 rfl) (by rw [hob]; rfl)⟩
             ·exact gY1 hg19 rfl rfl (blt_lt rfl) rfl ⟨149, rfl, blt_lt rfl, fun st hob hE => aop_move (av := .b ((SA.reverse.getD i 0) == (((mkPts d.form).getD q dP).right))) (.inl rfl) rfl rfl (hE 148 rfl) (by rw [hob]; rfl)⟩
             ·exact gY0 hg30 rfl rfl (blt_lt rfl) rfl ⟨150, rfl, blt_lt rfl, fun st hob hE => aop_move (av := .sl 2 0 SA.reverse.length) (.inl rfl) rfl rfl (hE 17 rfl) (by rw [hob]; rfl)⟩
             ·exact gY0 hg30 rfl rfl (blt_lt rfl) rfl ⟨151, rfl, blt_lt rfl, fun st hob hE => aop_move (av := .i (i : Int)) (.inl rfl) rfl rfl (hE 20 rfl) (by rw [hob]; rfl)⟩
             ·exact gY0 hg30 rfl rfl (blt_lt rfl) rfl ⟨152, rfl, blt_lt rfl, fun st hob hE => aop_ixO (k := i) rfl rfl rfl ut38 sz3 (hE 150 rfl) (hE 151 rfl) (by first | omega | (simp; done) | decide | (simp at *; omega)) (by rw [hob]; rfl)⟩
             ·exact gY0 hg30 rfl rfl (blt_lt rfl) rfl ⟨153, rfl, blt_lt rfl, fun st hob hE => aop_ldO (f := eI) (l := SA.reverse) 0 rfl rfl rfl ag3 (hE 152 rfl) (by rw [hob]; rfl) rfl (fun _ => rfl) (by first | omega | (simp; done) | decide | (simp at *; omega)) rfl (by rw [hob]; rfl)⟩
             ·exact gY0 hg30 rfl rfl (blt_lt rfl) rfl ⟨154, rfl, blt_lt rfl, fun st hob hE => aop_fieldAddr (av := .pt 4 0) (av' := .pt 4 1) rfl rfl rfl ft58_1 sz3 (hE 19 rfl) rfl rfl (by rw [hob]; rfl)⟩
             ·exact gY0 hg30 rfl rfl (blt_lt rfl) rfl ⟨155, rfl, blt_lt rfl, fun st hob hE => aop_ld (av := .i (((mkPts d.form).getD q dP).stem)) rfl rfl rfl ag3 (hE 154 rfl) (by rw [hob]; rfl) (by rw [hob]; rfl)⟩
             ·exact gY0 hg30 rfl rfl (blt_lt rfl) rfl ⟨156, rfl, blt_lt rfl, fun st hob hE => aop_binI (u := (.bool ((SA.reverse.getD i 0) == (((mkPts d.form).getD q dP).stem)))) rfl rfl rfl (hE 153 rfl) (hE 155 rfl) trivial rfl (by rw [hob]; rfl)⟩
             ·exact gY1 hg19 rfl rfl (blt_lt rfl) rfl ⟨157, rfl, blt_lt rfl, fun st hob hE => aop_pick (b := ((SA.reverse.getD i 0) == (((mkPts d.form).getD q dP).right))) (av := .b ((SA.reverse.getD i 0) == (((mkPts d.form).getD q dP).stem))) rfl rfl rfl (hE 149 rfl) (by rw [hg30]; exact hE 156 rfl) (by rw [hob]; rfl)⟩
             ·exact ⟨158, rfl, blt_lt rfl, fun st hob hE => aop_pick (b := (decide ((i : Int) ≥ ((wk d x).length : Int)))) (av := .b ((SA.reverse.getD i 0) == (((mkPts d.form).getD q dP).stem))) rfl rfl rfl (hE 132 rfl) (by rw [hg19]; exact hE 157 rfl) (by rw [hob]; rfl)⟩
             ·exact ⟨159, rfl, blt_lt rfl, fun st hob hE => aop_move (av := .b ((SA.reverse.getD i 0) == (((mkPts d.form).getD q dP).stem))) (.inl rfl) rfl rfl (hE 158 rfl) (by rw [hob]; rfl)⟩
             ·exact gY1 hg39 rfl rfl (blt_lt rfl) rfl ⟨160, rfl, blt_lt rfl, fun st hob hE => aop_move (av := .sl 3 0 SB.reverse.length) (.inl rfl) rfl rfl (hE 18 rfl) (by rw [hob]; rfl)⟩
             ·exact gY1 hg39 rfl rfl (blt_lt rfl) rfl ⟨161, rfl, blt_lt rfl, fun st hob hE => aop_move (av := .i (i : Int)) (.inl rfl) rfl rfl (hE 20 rfl) (by rw [hob]; rfl)⟩
             ·exact gY1 hg39 rfl rfl (blt_lt rfl) rfl ⟨162, rfl, blt_lt rfl, fun st hob hE => aop_ixO (k := i) rfl rfl rfl ut38 sz3 (hE 160 rfl) (hE 161 rfl) (by first | omega | (simp; done) | decide | (simp at *; omega)) (by rw [hob]; rfl)⟩
             ·exact gY1 hg39 rfl rfl (blt_lt rfl) rfl ⟨163, rfl, blt_lt rfl, fun st hob hE => aop_ldO (f := eI) (l := SB.reverse) 0 rfl rfl rfl ag3 (hE 162 rfl) (by rw [hob]; rfl) rfl (fun _ => rfl) (by first | omega | (simp; done) | decide | (simp at *; omega)) rfl (by rw [hob]; rfl)⟩
             ·exact gY1 hg39 rfl rfl (blt_lt rfl) rfl ⟨164, rfl, blt_lt rfl, fun st hob hE => aop_fieldAddr (av := .pt 4 0) (av' := .pt 4 2) rfl rfl rfl ft58_2 sz3 (hE 19 rfl) rfl rfl (by rw [hob]; rfl)⟩
             ·exact gY1 hg39 rfl rfl (blt_lt rfl) rfl ⟨165, rfl, blt_lt rfl, fun st hob hE => aop_ld (av := .i (((mkPts d.form).getD q dP).left)) rfl rfl rfl ag3 (hE 164 rfl) (by rw [hob]; rfl) (by rw [hob]; rfl)⟩
             ·exact gY1 hg39 rfl rfl (blt_lt rfl) rfl ⟨166, rfl, blt_lt rfl, fun st hob hE => aop_binI (u := (.bool ((SB.reverse.getD i 0) == (((mkPts d.form).getD q dP).left)))) rfl rfl rfl (hE 163 rfl) (hE 165 rfl) trivial rfl (by rw [hob]; rfl)⟩
             ·exact gY1 hg39 rfl rfl (blt_lt rfl) rfl ⟨167, rfl, blt_lt rfl, fun st hob hE => aop_move (av := .b ((SB.reverse.getD i 0) == (((mkPts d.form).getD q dP).left))) (.inl rfl) rfl rfl (hE 166 rfl) (by rw [hob]; rfl)⟩
             ·exact gY0 hg41 rfl rfl (blt_lt rfl) rfl ⟨168, rfl, blt_lt rfl, fun st hob hE => aop_move (av := .sl 3 0 SB.reverse.length) (.inl rfl) rfl rfl (hE 18 rfl) (by rw [hob]; rfl)⟩
             ·exact gY0 hg41 rfl rfl (blt_lt rfl) rfl ⟨169, rfl, blt_lt rfl, fun st hob hE => aop_move (av := .i (i : Int)) (.inl rfl) rfl rfl (hE 20 rfl) (by rw [hob]; rfl)⟩
             ·exact gY0 hg41 rfl rfl (blt_lt rfl) rfl ⟨170, rfl, blt_lt rfl, fun st hob hE => aop_ixO (k := i) rfl rfl rfl ut38 sz3 (hE 168 rfl) (hE 169 rfl) (by first | omega | (simp; done) | decide | (simp at *; omega)) (by rw [hob]; rfl)⟩
             ·exact gY0 hg41 rfl rfl (blt_lt rfl) rfl ⟨171, rfl, blt_lt rfl, fun st hob hE => aop_ldO (f := eI) (l := SB.reverse) 0 rfl rfl rfl ag3 (hE 170 rfl) (by rw [hob]; rfl) rfl (fun _ => rfl) (by first | omega | (simp; done) | decide | (simp at *; omega)) rfl (by rw [hob]; rfl)⟩
             ·exact gY0 hg41 rfl rfl (blt_lt rfl) rfl ⟨172, rfl, blt_lt rfl, fun st hob hE => aop_fieldAddr (av := .pt 4 0) (av' := .pt 4 3) rfl rfl rfl ft58_3 sz3 (hE 19 rfl) rfl rfl (by rw [hob]; rfl)⟩
             ·exact gY0 hg41 rfl rfl (blt_lt rfl) rfl ⟨173, rfl, blt_lt rfl, fun st hob hE => aop_ld (av := .i (((mkPts d.form).getD q dP).right)) rfl rfl rfl ag3 (hE 172 rfl) (by rw [hob]; rfl) (by rw [hob]; rfl)⟩
             ·exact gY0 hg41 rfl rfl (blt_lt rfl) rfl ⟨174, rfl, blt_lt rfl, fun st hob hE => aop_binI (u := (.bool ((SB.reverse.getD i 0) == (((mkPts d.form).getD q dP).right)))) rfl rfl rfl (hE 171 rfl) (hE 173 rfl) trivial rfl (by rw [hob]; rfl)⟩
             ·exact gY1 hg39 rfl rfl (blt_lt rfl) rfl ⟨175, rfl, blt_lt rfl, fun st hob hE => aop_pick (b := ((SB.reverse.getD i 0) == (((mkPts d.form).getD q dP).left))) (av := .b ((SB.reverse.getD i 0) == (((mkPts d.form).getD q dP).right))) rfl rfl rfl (hE 167 rfl) (by rw [hg41]; exact hE 174 rfl) (by rw [hob]; rfl)⟩
             ·exact gY1 hg39 rfl rfl (blt_lt rfl) rfl ⟨176, rfl, blt_lt rfl, fun st hob hE => aop_move (av := .b ((SB.reverse.getD i 0) == (((mkPts d.form).getD q dP).right))) (.inl rfl) rfl rfl (hE 175 rfl) (by rw [hob]; rfl)⟩
             ·exact gN0 hg44 rfl rfl (blt_lt rfl) rfl rfl (blt_lt rfl) rfl
             ·exact gN0 hg44 rfl rfl (blt_lt rfl) rfl rfl (blt_lt rfl) rfl
             ·exact gN0 hg44 rfl rfl (blt_lt rfl) rfl rfl (blt_lt rfl) rfl
             ·exact gN0 hg44 rfl rfl (blt_lt rfl) rfl rfl (blt_lt rfl) rfl
             ·exact gN0 hg44 rfl rfl (blt_lt rfl) rfl rfl (blt_lt rfl) rfl
             ·exact gN0 hg44 rfl rfl (blt_lt rfl) rfl rfl (blt_lt rfl) rfl
             ·exact gN0 hg44 rfl rfl (blt_lt rfl) rfl rfl (blt_lt rfl) rfl
             ·exact gY1 hg39 rfl rfl (blt_lt rfl) rfl ⟨184, rfl, blt_lt rfl, fun st hob hE => aop_pick (b := ((SB.reverse.getD i 0) == (((mkPts d.form).getD q dP).right))) (av := .b true) rfl rfl rfl (hE 176 rfl) (by rw [hg44]; rfl) (by rw [hob]; rfl)⟩
             ·exact ⟨185, rfl, blt_lt rfl, fun st hob hE => aop_pick (b := ((SA.reverse.getD i 0) == (((mkPts d.form).getD q dP).stem))) (av := .b true) rfl rfl rfl (hE 159 rfl) (by rw [hg39]; exact hE 184 rfl) (by rw [hob]; rfl)⟩
            refine opG rfl (aop_move (av := .b true) (.inr rfl) rfl rfl rfl ?_)
            refine op0 ?_
            refine awp_ret ?_
            exact fret (av := .v (.bool true)) rfl rfl (by first | rfl | (rw [leg_last hpa.2.2 (by omega) (by omega)]; simp))
           ·skip
            have hf46 := (beq_eq_false_iff_ne).1 hg44
            refine awp_draw (m := 59) [(185, .b ((SB.reverse.getD i 0) == (((mkPts d.form).getD q dP).stem))), (184, .b ((SB.reverse.getD i 0) == (((mkPts d.form).getD q dP).stem))), (183, .b ((SB.reverse.getD i 0) == (((mkPts d.form).getD q dP).stem))), (182, .i (((mkPts d.form).getD q dP).stem)), (181, .pt 4 1), (180, .i (SB.reverse.getD i 0)), (179, .pt 3 (i * 1)), (178, .i (i : Int)), (177, .sl 3 0 SB.reverse.length), (176, .b ((SB.reverse.getD i 0) == (((mkPts d.form).getD q dP).right))), (175, .b ((SB.reverse.getD i 0) == (((mkPts d.form).getD q dP).right))), (174, .b ((SB.reverse.getD i 0) == (((mkPts d.form).getD q dP).right))), (173, .i (((mkPts d.form).getD q dP).right)), (172, .pt 4 3), (171, .i (SB.reverse.getD i 0)), (170, .pt 3 (i * 1)), (169, .i (i : Int)), (168, .sl 3 0 SB.reverse.length), (167, .b ((SB.reverse.getD i 0) == (((mkPts d.form).getD q dP).left))), (166, .b ((SB.reverse.getD i 0) == (((mkPts d.form).getD q dP).left))), (165, .i (((mkPts d.form).getD q dP).left)), (164, .pt 4 2), (163, .i (SB.reverse.getD i 0)), (162, .pt 3 (i * 1)), (161, .i (i : Int)), (160, .sl 3 0 SB.reverse.length), (159, .b ((SA.reverse.getD i 0) == (((mkPts d.form).getD q dP).stem))), (158, .b ((SA.reverse.getD i 0) == (((mkPts d.form).getD q dP).stem))), (157, .b ((SA.reverse.getD i 0) == (((mkPts d.form).getD q dP).stem))), (156, .b ((SA.reverse.getD i 0) == (((mkPts d.form).getD q dP).stem))), (155, .i (((mkPts d.form).getD q dP).stem)), (154, .pt 4 1), (153, .i (SA.reverse.getD i 0)), (152, .pt 2 (i * 1)), (151, .i (i : Int)), (150, .sl 2 0 SA.reverse.length), (149, .b ((SA.reverse.getD i 0) == (((mkPts d.form).getD q dP).right))), (148, .b ((SA.reverse.getD i 0) == (((mkPts d.form).getD q dP).right))), (147, .b ((SA.reverse.getD i 0) == (((mkPts d.form).getD q dP).right))), (146, .i (((mkPts d.form).getD q dP).right)), (145, .pt 4 3), (144, .i (SA.reverse.getD i 0)), (143, .pt 2 (i * 1)), (142, .i (i : Int)), (141, .sl 2 0 SA.reverse.length), (140, .b ((SA.reverse.getD i 0) == (((mkPts d.form).getD q dP).left))), (139, .b ((SA.reverse.getD i 0) == (((mkPts d.form).getD q dP).left))), (138, .i (((mkPts d.form).getD q dP).left)), (137, .pt 4 2), (136, .i (SA.reverse.getD i 0)), (135, .pt 2 (i * 1)), (134, .i (i : Int)), (133, .sl 2 0 SA.reverse.length), (132, .b (decide ((i : Int) ≥ ((wk d x).length : Int)))), (131, .b (decide ((i : Int) ≥ ((wk d x).length : Int)))), (130, .i ((wk d x).length : Int)), (129, .q eI (wk d x)), (128, .pt 1 5), (127, .i (i : Int))] mixed (by kernel_rfl) ?_ ?_
            ·refine ⟨?_, ?_, ?_, ?_, ?_, ?_, ?_, ?_, ?_, ?_, ?_, ?_, ?_, ?_, ?_, ?_, ?_, ?_, ?_, ?_, ?_, ?_, ?_, ?_, ?_, ?_, ?_, ?_, ?_, ?_, ?_, ?_, ?_, ?_, ?_, ?_, ?_, ?_, ?_, ?_, ?_, ?_, ?_, ?_, ?_, ?_, ?_, ?_, ?_, ?_, ?_, ?_, ?_, ?_, ?_, ?_, ?_, ?_, ?_, trivial⟩
             ·exact ⟨127, rfl, blt_lt rfl, fun st hob hE => aop_move (av := .i (i : Int)) (.inl rfl) rfl rfl (hE 20 rfl) (by rw [hob]; rfl)⟩
             ·exact ⟨128, rfl, blt_lt rfl, fun st hob hE => aop_fieldAddr (av := .pt 1 0) (av' := .pt 1 5) rfl rfl rfl ft40_5 sz38 (hE 8 rfl) rfl rfl (by rw [hob]; rfl)⟩
             ·exact ⟨129, rfl, blt_lt rfl, fun st hob hE => aop_ld (av := .q eI (wk d x)) rfl rfl rfl ag38 (hE 128 rfl) (by rw [hob]; rfl) (by rw [hob]; rfl)⟩
             ·exact ⟨130, rfl, blt_lt rfl, fun st hob hE => aop_len rfl rfl rfl rfl ut38 (len_ro (hE 129 rfl)) (by rw [hob]; rfl)⟩
             ·exact ⟨131, rfl, blt_lt rfl, fun st hob hE => aop_binI (u := (.bool (decide ((i : Int) ≥ ((wk d x).length : Int))))) rfl rfl rfl (hE 127 rfl) (hE 130 rfl) trivial rfl (by rw [hob]; rfl)⟩
             ·exact ⟨132, rfl, blt_lt rfl, fun st hob hE => aop_move (av := .b (decide ((i : Int) ≥ ((wk d x).length : Int)))) (.inl rfl) rfl rfl (hE 131 rfl) (by rw [hob]; rfl)⟩
             ·exact gY1 hg19 rfl rfl (blt_lt rfl) rfl ⟨133, rfl, blt_lt rfl, fun st hob hE => aop_move (av := .sl 2 0 SA.reverse.length) (.inl rfl) rfl rfl (hE 17 rfl) (by rw [hob]; rfl)⟩
             ·exact gY1 hg19 rfl rfl (blt_lt rfl) rfl ⟨134, rfl, blt_lt rfl, fun st hob hE => aop_move (av := .i (i : Int)) (.inl rfl) rfl rfl (hE 20 rfl) (by rw [hob]; rfl)⟩
             ·exact gY1 hg19 rfl rfl (blt_lt rfl) rfl ⟨135, rfl, blt_lt rfl, fun st hob hE => aop_ixO (k := i) rfl rfl rfl ut38 sz3 (hE 133 rfl) (hE 134 rfl) (by first | omega | (simp; done) | decide | (simp at *; omega)) (by rw [hob]; rfl)⟩
             ·exact gY1 hg19 rfl rfl (blt_lt rfl) rfl ⟨136, rfl, blt_lt rfl, fun st hob hE => aop_ldO (f := eI) (l := SA.reverse) 0 rfl rfl rfl ag3 (hE 135 rfl) (by rw [hob]; rfl) rfl (fun _ => rfl) (by first | omega | (simp; done) | decide | (simp at *; omega)) rfl (by rw [hob]; rfl)⟩
             ·exact gY1 hg19 rfl rfl (blt_lt rfl) rfl ⟨137, rfl, blt_lt rfl, fun st hob hE => aop_fieldAddr (av := .pt 4 0) (av' := .pt 4 2) rfl rfl rfl ft58_2 sz3 (hE 19 rfl) rfl rfl (by rw [hob]; rfl)⟩
             ·exact gY1 hg19 rfl rfl (blt_lt rfl) rfl ⟨138, rfl, blt_lt rfl, fun st hob hE => aop_ld (av := .i (((mkPts d.form).getD q dP).left)) rfl rfl rfl ag3 (hE 137 rfl) (by rw [hob]; rfl) (by rw [hob]; rfl)⟩
             ·exact gY1 hg19 rfl rfl (blt_lt rfl) rfl ⟨139, rfl, blt_lt rfl, fun st hob hE => aop_binI (u := (.bool ((SA.reverse.getD i 0) == (((mkPts d.form).getD q dP).left)))) rfl rfl rfl (hE 136 rfl) (hE 138 rfl) trivial rfl (by rw [hob]; rfl)⟩
             ·exact gY1 hg19 rfl rfl (blt_lt rfl) rfl ⟨140, rfl, blt_lt rfl, fun st hob hE => aop_move (av := .b ((SA.reverse.getD i 0) == (((mkPts d.form).getD q dP).left))) (.inl rfl) rfl rfl (hE 139 rfl) (by rw [hob]; rfl)⟩
             ·exact gY0 hg21 rfl rfl (blt_lt rfl) rfl ⟨141, rfl, blt_lt rfl, fun st hob hE => aop_move (av := .sl 2 0 SA.reverse.length) (.inl rfl) rfl rfl (hE 17 rfl) (by rw [hob]; rfl)⟩
             ·exact gY0 hg21 rfl rfl (blt_lt rfl) rfl ⟨142, rfl, blt_lt rfl, fun st hob hE => aop_move (av := .i (i : Int)) (.inl rfl) rfl rfl (hE 20 rfl) (by rw [hob]; rfl)⟩
             ·exact gY0 hg21 rfl rfl (blt_lt rfl) rfl ⟨143, rfl, blt_lt rfl, fun st hob hE => aop_ixO (k := i) rfl rfl rfl ut38 sz3 (hE 141 rfl) (hE 142 rfl) (by first | omega | (simp; done) | decide | (simp at *; omega)) (by rw [hob]; rfl)⟩
             ·exact gY0 hg21 rfl rfl (blt_lt rfl) rfl ⟨144, rfl, blt_lt rfl, fun st hob hE => aop_ldO (f := eI) (l := SA.reverse) 0 rfl rfl rfl ag3 (hE 143 rfl) (by rw [hob]; rfl) rfl (fun _ => rfl) (by first | omega | (simp; done) | decide | (simp at *; omega)) rfl (by rw [hob]; rfl)⟩
             ·exact gY0 hg21 rfl rfl (blt_lt rfl) rfl ⟨145, rfl, blt_lt rfl, fun st hob hE => aop_fieldAddr (av := .pt 4 0) (av' := .pt 4 3) rfl rfl rfl ft58_3 sz3 (hE 19 rfl) rfl rfl (by rw [hob]; rfl)⟩
             ·exact gY0 hg21 rfl rfl (blt_lt rfl) rfl ⟨146, rfl, blt_lt rfl, fun st hob hE => aop_ld (av := .i (((mkPts d.form).getD q dP).right)) rfl rfl rfl ag3 (hE 145 rfl) (by rw [hob]; rfl) (by rw [hob]; rfl)⟩
             ·exact gY0 hg21 rfl rfl (blt_lt rfl) rfl ⟨147, rfl, blt_lt rfl, fun st hob hE => aop_binI (u := (.bool ((SA.reverse.getD i 0) == (((mkPts d.form).getD q dP).right)))) rfl rfl rfl (hE 144 rfl) (hE 146 rfl) trivial rfl (by rw [hob]; rfl)⟩
             ·exact gY1 hg19 rfl rfl (blt_lt rfl) rfl ⟨148, rfl, blt_lt rfl, fun st hob hE => aop_pick (b := ((SA.reverse.getD i 0) == (((mkPts d.form).getD q dP).left))) (av := .b ((SA.reverse.getD i 0) == (((mkPts d.form).getD q dP).right))) rfl rfl rfl (hE 140 rfl) (by rw [hg21]; exact hE 147 rfl) (by rw [hob]; rfl)⟩
             ·exact gY1 hg19 rfl rfl (blt_lt rfl) rfl ⟨149, rfl, blt_lt rfl, fun st hob hE => aop_move (av := .b ((SA.reverse.getD i 0) == (((mkPts d.form).getD q dP).right))) (.inl rfl) rfl rfl (hE 148 rfl) (by rw [hob]; rfl)⟩
             ·exact gY0 hg30 rfl rfl (blt_lt rfl) rfl ⟨150, rfl, blt_lt rfl, fun st hob hE => aop_move (av := .sl 2 0 SA.reverse.length) (.inl rfl) rfl rfl (hE 17 rfl) (by rw [hob]; rfl)⟩
             ·exact gY0 hg30 rfl rfl (blt_lt rfl) rfl ⟨151, rfl, blt_lt rfl, fun st hob hE => aop_move (av := .i (i : Int)) (.inl rfl) rfl rfl (hE 20 rfl) (by rw [hob]; rfl)⟩
             ·exact gY0 hg30 rfl rfl (blt_lt rfl) rfl ⟨152, rfl, blt_lt rfl, fun st hob hE => aop_ixO (k := i) rfl rfl rfl ut38 sz3 (hE 150 rfl) (hE 151 rfl) (by first | omega | (simp; done) | decide | (simp at *; omega)) (by rw [hob]; rfl)⟩
             ·exact gY0 hg30 rfl rfl (blt_lt rfl) rfl ⟨153, rfl, blt_lt rfl, fun st hob hE => aop_ldO (f := eI) (l := SA.reverse) 0 rfl rfl rfl ag3 (hE 152 rfl) (by rw [hob]; rfl) rfl (fun _ => rfl) (by first | omega | (simp; done) | decide | (simp at *; omega)) rfl (by rw [hob]; rfl)⟩
             ·exact gY0 hg30 rfl rfl (blt_lt rfl) rfl ⟨154, rfl, blt_lt rfl, fun st hob hE => aop_fieldAddr (av := .pt 4 0) (av' := .pt 4 1) rfl rfl rfl ft58_1 sz3 (hE 19 rfl) rfl rfl (by rw [hob]; rfl)⟩
             ·exact gY0 hg30 rfl rfl (blt_lt rfl) rfl ⟨155, rfl, blt_lt rfl, fun st hob hE => aop_ld (av := .i (((mkPts d.form).getD q dP).stem)) rfl rfl rfl ag3 (hE 154 rfl) (by rw [hob]; rfl) (by rw [hob]; rfl)⟩
             ·exact gY0 hg30 rfl rfl (blt_lt rfl) rfl ⟨156, rfl, blt_lt rfl, fun st hob hE => aop_binI (u := (.bool ((SA.reverse.getD i 0) == (((mkPts d.form).getD q dP).stem)))) rfl rfl rfl (hE 153 rfl) (hE 155 rfl) trivial rfl (by rw [hob]; rfl)⟩
             ·exact gY1 hg19 rfl rfl (blt_lt rfl) rfl ⟨157, rfl, blt_lt rfl, fun st hob hE => aop_pick (b := ((SA.reverse.getD i 0) == (((mkPts d.form).getD q dP).right))) (av := .b ((SA.reverse.getD i 0) == (((mkPts d.form).getD q dP).stem))) rfl rfl rfl (hE 149 rfl) (by rw [hg30]; exact hE 156 rfl) (by rw [hob]; rfl)⟩
             ·exact ⟨158, rfl, blt_lt rfl, fun st hob hE => aop_pick (b := (decide ((i : Int) ≥ ((wk d x).length : Int)))) (av := .b ((SA.reverse.getD i 0) == (((mkPts d.form).getD q dP).stem))) rfl rfl rfl (hE 132 rfl) (by rw [hg19]; exact hE 157 rfl) (by rw [hob]; rfl)⟩
             ·exact ⟨159, rfl, blt_lt rfl, fun st hob hE => aop_move (av := .b ((SA.reverse.getD i 0) == (((mkPts d.form).getD q dP).stem))) (.inl rfl) rfl rfl (hE 158 rfl) (by rw [hob]; rfl)⟩
             ·exact gY1 hg39 rfl rfl (blt_lt rfl) rfl ⟨160, rfl, blt_lt rfl, fun st hob hE => aop_move (av := .sl 3 0 SB.reverse.length) (.inl rfl) rfl rfl (hE 18 rfl) (by rw [hob]; rfl)⟩
             ·exact gY1 hg39 rfl rfl (blt_lt rfl) rfl ⟨161, rfl, blt_lt rfl, fun st hob hE => aop_move (av := .i (i : Int)) (.inl rfl) rfl rfl (hE 20 rfl) (by rw [hob]; rfl)⟩
             ·exact gY1 hg39 rfl rfl (blt_lt rfl) rfl ⟨162, rfl, blt_lt rfl, fun st hob hE => aop_ixO (k := i) rfl rfl rfl ut38 sz3 (hE 160 rfl) (hE 161 rfl) (by first | omega | (simp; done) | decide | (simp at *; omega)) (by rw [hob]; rfl)⟩
             ·exact gY1 hg39 rfl rfl (blt_lt rfl) rfl ⟨163, rfl, blt_lt rfl, fun st hob hE => aop_ldO (f := eI) (l := SB.reverse) 0 rfl rfl rfl ag3 (hE 162 rfl) (by rw [hob]; rfl) rfl (fun _ => rfl) (by first | omega | (simp; done) | decide | (simp at *; omega)) rfl (by rw [hob]; rfl)⟩
             ·exact gY1 hg39 rfl rfl (blt_lt rfl) rfl ⟨164, rfl, blt_lt rfl, fun st hob hE => aop_fieldAddr (av := .pt 4 0) (av' := .pt 4 2) rfl rfl rfl ft58_2 sz3 (hE 19 rfl) rfl rfl (by rw [hob]; rfl)⟩
             ·exact gY1 hg39 rfl rfl (blt_lt rfl) rfl ⟨165, rfl, blt_lt rfl, fun st hob hE => aop_ld (av := .i (((mkPts d.form).getD q dP).left)) rfl rfl rfl ag3 (hE 164 rfl) (by rw [hob]; rfl) (by rw [hob]; rfl)⟩
             ·exact gY1 hg39 rfl rfl (blt_lt rfl) rfl ⟨166, rfl, blt_lt rfl, fun st hob hE => aop_binI (u := (.bool ((SB.reverse.getD i 0) == (((mkPts d.form).getD q dP).left)))) rfl rfl rfl (hE 163 rfl) (hE 165 rfl) trivial rfl (by rw [hob]; rfl)⟩
             ·exact gY1 hg39 rfl rfl (blt_lt rfl) rfl ⟨167, rfl, blt_lt rfl, fun st hob hE => aop_move (av := .b ((SB.reverse.getD i 0) == (((mkPts d.form).getD q dP).left))) (.inl rfl) rfl rfl (hE 166 rfl) (by rw [hob]; rfl)⟩
             ·exact gY0 hg41 rfl rfl (blt_lt rfl) rfl ⟨168, rfl, blt_lt rfl, fun st hob hE => aop_move (av := .sl 3 0 SB.reverse.length) (.inl rfl) rfl rfl (hE 18 rfl) (by rw [hob]; rfl)⟩
             ·exact gY0 hg41 rfl rfl (blt_lt rfl) rfl ⟨169, rfl, blt_lt rfl, fun st hob hE => aop_move (av := .i (i : Int)) (.inl rfl) rfl rfl (hE 20 rfl) (by rw [hob]; rfl)⟩
             ·exact gY0 hg41 rfl rfl (blt_lt rfl) rfl ⟨170, rfl, blt_lt rfl, fun st hob hE => aop_ixO (k := i) rfl rfl rfl ut38 sz3 (hE 168 rfl) (hE 169 rfl) (by first | omega | (simp; done) | decide | (simp at *; omega)) (by rw [hob]; rfl)⟩
             ·exact gY0 hg41 rfl rfl (blt_lt rfl) rfl ⟨171, rfl, blt_lt rfl, fun st hob hE => aop_ldO (f := eI) (l := SB.reverse) 0 rfl rfl rfl ag3 (hE 170 rfl) (by rw [hob]; rfl) rfl (fun _ => rfl) (by first | omega | (simp; done) | decide | (simp at *; omega)) rfl (by rw [hob]; rfl)⟩
             ·exact gY0 hg41 rfl rfl (blt_lt rfl) rfl ⟨172, rfl, blt_lt rfl, fun st hob hE => aop_fieldAddr (av := .pt 4 0) (av' := .pt 4 3) rfl rfl rfl ft58_3 sz3 (hE 19 rfl) rfl rfl (by rw [hob]; rfl)⟩
             ·exact gY0 hg41 rfl rfl (blt_lt rfl) rfl ⟨173, rfl, blt_lt rfl, fun st hob hE => aop_ld (av := .i (((mkPts d.form).getD q dP).right)) rfl rfl rfl ag3 (hE 172 rfl) (by rw [hob]; rfl) (by rw [hob]; rfl)⟩
             ·exact gY0 hg41 rfl rfl (blt_lt rfl) rfl ⟨174, rfl, blt_lt rfl, fun st hob hE => aop_binI (u := (.bool ((SB.reverse.getD i 0) == (((mkPts d.form).getD q dP).right)))) rfl rfl rfl (hE 171 rfl) (hE 173 rfl) trivial rfl (by rw [hob]; rfl)⟩
             ·exact gY1 hg39 rfl rfl (blt_lt rfl) rfl ⟨175, rfl, blt_lt rfl, fun st hob hE => aop_pick (b := ((SB.reverse.getD i 0) == (((mkPts d.form).getD q dP).left))) (av := .b ((SB.reverse.getD i 0) == (((mkPts d.form).getD q dP).right))) rfl rfl rfl (hE 167 rfl) (by rw [hg41]; exact hE 174 rfl) (by rw [hob]; rfl)⟩
             ·exact gY1 hg39 rfl rfl (blt_lt rfl) rfl ⟨176, rfl, blt_lt rfl, fun st hob hE => aop_move (av := .b ((SB.reverse.getD i 0) == (((mkPts d.form).getD q dP).right))) (.inl rfl) rfl rfl (hE 175 rfl) (by rw [hob]; rfl)⟩
             ·exact gY0 hg44 rfl rfl (blt_lt rfl) rfl ⟨177, rfl, blt_lt rfl, fun st hob hE => aop_move (av := .sl 3 0 SB.reverse.length) (.inl rfl) rfl rfl (hE 18 rfl) (by rw [hob]; rfl)⟩
             ·exact gY0 hg44 rfl rfl (blt_lt rfl) rfl ⟨178, rfl, blt_lt rfl, fun st hob hE => aop_move (av := .i (i : Int)) (.inl rfl) rfl rfl (hE 20 rfl) (by rw [hob]; rfl)⟩
             ·exact gY0 hg44 rfl rfl (blt_lt rfl) rfl ⟨179, rfl, blt_lt rfl, fun st hob hE => aop_ixO (k := i) rfl rfl rfl ut38 sz3 (hE 177 rfl) (hE 178 rfl) (by first | omega | (simp; done) | decide | (simp at *; omega)) (by rw [hob]; rfl)⟩
             ·exact gY0 hg44 rfl rfl (blt_lt rfl) rfl ⟨180, rfl, blt_lt rfl, fun st hob hE => aop_ldO (f := eI) (l := SB.reverse) 0 rfl rfl rfl ag3 (hE 179 rfl) (by rw [hob]; rfl) rfl (fun _ => rfl) (by first | omega | (simp; done) | decide | (simp at *; omega)) rfl (by rw [hob]; rfl)⟩
             ·exact gY0 hg44 rfl rfl (blt_lt rfl) rfl ⟨181, rfl, blt_lt rfl, fun st hob hE => aop_fieldAddr (av := .pt 4 0) (av' := .pt 4 1) rfl rfl rfl ft58_1 sz3 (hE 19 rfl) rfl rfl (by rw [hob]; rfl)⟩
             ·exact gY0 hg44 rfl rfl (blt_lt rfl) rfl ⟨182, rfl, blt_lt rfl, fun st hob hE => aop_ld (av := .i (((mkPts d.form).getD q dP).stem)) rfl rfl rfl ag3 (hE 181 rfl) (by rw [hob]; rfl) (by rw [hob]; rfl)⟩
             ·exact gY0 hg44 rfl rfl (blt_lt rfl) rfl ⟨183, rfl, blt_lt rfl, fun st hob hE => aop_binI (u := (.bool ((SB.reverse.getD i 0) == (((mkPts d.form).getD q dP).stem)))) rfl rfl rfl (hE 180 rfl) (hE 182 rfl) trivial rfl (by rw [hob]; rfl)⟩
             ·exact gY1 hg39 rfl rfl (blt_lt rfl) rfl ⟨184, rfl, blt_lt rfl, fun st hob hE => aop_pick (b := ((SB.reverse.getD i 0) == (((mkPts d.form).getD q dP).right))) (av := .b ((SB.reverse.getD i 0) == (((mkPts d.form).getD q dP).stem))) rfl rfl rfl (hE 176 rfl) (by rw [hg44]; exact hE 183 rfl) (by rw [hob]; rfl)⟩
             ·exact ⟨185, rfl, blt_lt rfl, fun st hob hE => aop_pick (b := ((SA.reverse.getD i 0) == (((mkPts d.form).getD q dP).stem))) (av := .b ((SB.reverse.getD i 0) == (((mkPts d.form).getD q dP).stem))) rfl rfl rfl (hE 159 rfl) (by rw [hg39]; exact hE 184 rfl) (by rw [hob]; rfl)⟩
            refine opG rfl (aop_move (av := .b ((SB.reverse.getD i 0) == (((mkPts d.form).getD q dP).stem))) (.inr rfl) rfl rfl rfl ?_)
            refine op0 ?_
            refine awp_ret ?_
            exact fret (av := .v (.bool ((SB.reverse.getD i 0) == (((mkPts d.form).getD q dP).stem)))) rfl rfl (by first | rfl | (rw [leg_last hpa.2.2 (by omega) (by omega)]; simp))
         ·skip
          have hf47 := (beq_eq_false_iff_ne).1 hg39
          exfalso; first | omega | (rcases hpa.2.1 with h | h | h <;> omega)
      ·skip
       have hf48 := of_decide_eq_false hg19
       exfalso; first | omega | (rcases hpa.2.1 with h | h | h <;> omega)
    ·skip
     have hex : ¬ ((i : Int) < (SA.reverse.length : Int) ∧ (i : Int) < (SB.reverse.length : Int)) := fun h => by rw [decide_eq_true h.1, decide_eq_true h.2] at hc3; cases hc3
     have hpe : SA.reverse.length ≠ SB.reverse.length → (wk d x).length ≤ i ∧ Leg3 ((mkPts d.form).getD q dP) (SA.reverse.getD ((i : Int) - 1).toNat 0) := fun h => by rw [show ((i : Int) - 1).toNat = i - 1 by omega]; exact parts_end hP hw1 h (by omega) hinv
     refine awp_exit ?_
     refine seqR ?_
     refine opG rfl (aop_move (av := .sl 2 0 SA.reverse.length) (.inl rfl) rfl rfl rfl ?_)
     refine opG rfl (aop_len rfl rfl rfl rfl ut38 (len_sl rfl) ?_)
     refine opG rfl (aop_move (av := .i (SA.reverse.length : Int)) (.inr rfl) rfl rfl rfl ?_)
     refine op0 ?_
     refine awp_seq ?_
     refine seqR ?_
     refine opG rfl (aop_move (av := .sl 3 0 SB.reverse.length) (.inl rfl) rfl rfl rfl ?_)
     refine opG rfl (aop_len rfl rfl rfl rfl ut38 (len_sl rfl) ?_)
     refine opG rfl (aop_move (av := .i (SA.reverse.length : Int)) (.inl rfl) rfl rfl rfl ?_)
     refine opG rfl (aop_binI (u := (.bool (decide ((SB.reverse.length : Int) < (SA.reverse.length : Int))))) rfl rfl rfl rfl rfl trivial rfl ?_)
     refine op0 ?_
     refine rs_ (upd (upd (upd (upd (upd (upd (upd none_ 6 (.b false)) 8 (.pt 1 0)) 17 (.sl 2 0 SA.reverse.length)) 18 (.sl 3 0 SB.reverse.length)) 19 (.pt 4 0)) 21 (.i (SA.reverse.length : Int))) 191 (.b (decide ((SB.reverse.length : Int) < (SA.reverse.length : Int))))) (updO (updO (updO (updO noOb 1 (.live ⟨[.i 4, .i x.heard, .i (-1), .i (dr x), .i (ah d x), .q eI (wk d x)], 40, 1⟩)) 2 (.live ⟨(enc eI SA.reverse), 3, 1⟩)) 3 (.live ⟨(enc eI SB.reverse), 3, 1⟩)) 4 (.live ⟨[.i (((mkPts d.form).getD q dP).node), .i (((mkPts d.form).getD q dP).stem), .i (((mkPts d.form).getD q dP).left), .i (((mkPts d.form).getD q dP).right)], 58, 1⟩)) (lu rfl (lu rfl (lu rfl (lu rfl (lu rfl (lu rfl (lu rfl ln))))))) rfl ?_
     refine cutG ⟨(upd (upd (upd (upd (upd (upd none_ 6 (.b false)) 8 (.pt 1 0)) 17 (.sl 2 0 SA.reverse.length)) 18 (.sl 3 0 SB.reverse.length)) 19 (.pt 4 0)) 21 (.i (i : Int))), (updO (updO (updO (updO noOb 1 (.live ⟨[.i 4, .i x.heard, .i (-1), .i (dr x), .i (ah d x), .q eI (wk d x)], 40, 1⟩)) 2 (.live ⟨(enc eI SA.reverse), 3, 1⟩)) 3 (.live ⟨(enc eI SB.reverse), 3, 1⟩)) 4 (.live ⟨[.i (((mkPts d.form).getD q dP).node), .i (((mkPts d.form).getD q dP).stem), .i (((mkPts d.form).getD q dP).left), .i (((mkPts d.form).getD q dP).right)], 58, 1⟩))⟩ (fun s h => h) ?_ ?_
     ·skip
      refine awp_cond (decide ((SB.reverse.length : Int) < (SA.reverse.length : Int))) rfl rfl (fun hc5 => ?_) (fun hc5 => ?_)
      ·skip
       have hf49 := of_decide_eq_true hc5
       refine regR ?_
       refine opG rfl (aop_move (av := .sl 3 0 SB.reverse.length) (.inl rfl) rfl rfl rfl ?_)
       refine opG rfl (aop_len rfl rfl rfl rfl ut38 (len_sl rfl) ?_)
       refine opG rfl (aop_move (av := .i (SB.reverse.length : Int)) (.inr rfl) rfl rfl rfl ?_)
       refine op0 ?_
       show Imp _ _ _
       exact imp_ler [(1, 1), (2, 2), (3, 3), (4, 4)] (lerL [(1, 1), (2, 2), (3, 3), (4, 4)] [((1, 1), .live ⟨[.i 4, .i x.heard, .i (-1), .i (dr x), .i (ah d x), .q eI (wk d x)], 40, 1⟩), ((2, 2), .live ⟨(enc eI SA.reverse), 3, 1⟩), ((3, 3), .live ⟨(enc eI SB.reverse), 3, 1⟩), ((4, 4), .live ⟨[.i (((mkPts d.form).getD q dP).node), .i (((mkPts d.form).getD q dP).stem), .i (((mkPts d.form).getD q dP).left), .i (((mkPts d.form).getD q dP).right)], 58, 1⟩)] rfl (by decide) (by decide) ⟨row_no (o := ⟨[.i 4, .i x.heard, .i (-1), .i (dr x), .i (ah d x), .q eI (wk d x)], 40, 1⟩) rfl rfl, row_no (o := ⟨(enc eI SA.reverse), 3, 1⟩) rfl rfl, row_no (o := ⟨(enc eI SB.reverse), 3, 1⟩) rfl rfl, row_no (o := ⟨[.i (((mkPts d.form).getD q dP).node), .i (((mkPts d.form).getD q dP).stem), .i (((mkPts d.form).getD q dP).left), .i (((mkPts d.form).getD q dP).right)], 58, 1⟩) rfl rfl, trivial⟩ (sr_same 21 (.i (i : Int)) (by exact congrArg (fun n_ : Int => AV.v (.int .i64 n_)) (by omega)) NoI.out (sr_map 19 (.pt 4 0) (by first | exact Ok.sl _ _ _ (by first | decide | simp) | exact Ok.pt _ _ (by first | decide | simp)) rfl (sr_map 18 (.sl 3 0 SB.reverse.length) (by first | exact Ok.sl _ _ _ (by first | decide | simp) | exact Ok.pt _ _ (by first | decide | simp)) rfl (sr_map 17 (.sl 2 0 SA.reverse.length) (by first | exact Ok.sl _ _ _ (by first | decide | simp) | exact Ok.pt _ _ (by first | decide | simp)) rfl (sr_map 8 (.pt 1 0) (by first | exact Ok.sl _ _ _ (by first | decide | simp) | exact Ok.pt _ _ (by first | decide | simp)) rfl (sr_same 6 (.b false) rfl NoI.out sr_none))))))) (keep_of rfl)
      ·skip
       have hf50 := of_decide_eq_false hc5
       refine awp_skip ?_
       show Imp _ _ _
       exact imp_ler [(1, 1), (2, 2), (3, 3), (4, 4)] (lerL [(1, 1), (2, 2), (3, 3), (4, 4)] [((1, 1), .live ⟨[.i 4, .i x.heard, .i (-1), .i (dr x), .i (ah d x), .q eI (wk d x)], 40, 1⟩), ((2, 2), .live ⟨(enc eI SA.reverse), 3, 1⟩), ((3, 3), .live ⟨(enc eI SB.reverse), 3, 1⟩), ((4, 4), .live ⟨[.i (((mkPts d.form).getD q dP).node), .i (((mkPts d.form).getD q dP).stem), .i (((mkPts d.form).getD q dP).left), .i (((mkPts d.form).getD q dP).right)], 58, 1⟩)] rfl (by decide) (by decide) ⟨row_no (o := ⟨[.i 4, .i x.heard, .i (-1), .i (dr x), .i (ah d x), .q eI (wk d x)], 40, 1⟩) rfl rfl, row_no (o := ⟨(enc eI SA.reverse), 3, 1⟩) rfl rfl, row_no (o := ⟨(enc eI SB.reverse), 3, 1⟩) rfl rfl, row_no (o := ⟨[.i (((mkPts d.form).getD q dP).node), .i (((mkPts d.form).getD q dP).stem), .i (((mkPts d.form).getD q dP).left), .i (((mkPts d.form).getD q dP).right)], 58, 1⟩) rfl rfl, trivial⟩ (sr_same 21 (.i (i : Int)) (by exact congrArg (fun n_ : Int => AV.v (.int .i64 n_)) (by omega)) NoI.out (sr_map 19 (.pt 4 0) (by first | exact Ok.sl _ _ _ (by first | decide | simp) | exact Ok.pt _ _ (by first | decide | simp)) rfl (sr_map 18 (.sl 3 0 SB.reverse.length) (by first | exact Ok.sl _ _ _ (by first | decide | simp) | exact Ok.pt _ _ (by first | decide | simp)) rfl (sr_map 17 (.sl 2 0 SA.reverse.length) (by first | exact Ok.sl _ _ _ (by first | decide | simp) | exact Ok.pt _ _ (by first | decide | simp)) rfl (sr_map 8 (.pt 1 0) (by first | exact Ok.sl _ _ _ (by first | decide | simp) | exact Ok.pt _ _ (by first | decide | simp)) rfl (sr_same 6 (.b false) rfl NoI.out sr_none))))))) (keep_of rfl)
     refine awp_seq ?_
     refine (Bool.eq_false_or_eq_true ((SA.reverse.length : Int) == (SB.reverse.length : Int))).elim (fun hg51 => ?_) (fun hg51 => ?_)
     ·skip
      have hf52 := (beq_iff_eq).1 hg51
      refine awp_draw (m := 42) [(235, .b true), (234, .v undef), (233, .v undef), (232, .v undef), (231, .v undef), (230, .v undef), (229, .v undef), (228, .v undef), (227, .v undef), (226, .v undef), (225, .v undef), (224, .v undef), (223, .v undef), (222, .v undef), (221, .v undef), (220, .v undef), (219, .v undef), (218, .v undef), (217, .v undef), (216, .v undef), (215, .v undef), (214, .v undef), (213, .v undef), (212, .v undef), (211, .v undef), (210, .v undef), (209, .v undef), (208, .v undef), (207, .v undef), (206, .v undef), (205, .v undef), (204, .v undef), (203, .v undef), (202, .v undef), (201, .v undef), (200, .v undef), (199, .b ((SA.reverse.length : Int) == (SB.reverse.length : Int))), (198, .b ((SA.reverse.length : Int) == (SB.reverse.length : Int))), (197, .i (SB.reverse.length : Int)), (196, .sl 3 0 SB.reverse.length), (195, .i (SA.reverse.length : Int)), (194, .sl 2 0 SA.reverse.length)] mixed (by kernel_rfl) ?_ ?_
      ·refine ⟨?_, ?_, ?_, ?_, ?_, ?_, ?_, ?_, ?_, ?_, ?_, ?_, ?_, ?_, ?_, ?_, ?_, ?_, ?_, ?_, ?_, ?_, ?_, ?_, ?_, ?_, ?_, ?_, ?_, ?_, ?_, ?_, ?_, ?_, ?_, ?_, ?_, ?_, ?_, ?_, ?_, ?_, trivial⟩
       ·exact ⟨194, rfl, blt_lt rfl, fun st hob hE => aop_move (av := .sl 2 0 SA.reverse.length) (.inl rfl) rfl rfl (hE 17 rfl) (by rw [hob]; rfl)⟩
       ·exact ⟨195, rfl, blt_lt rfl, fun st hob hE => aop_len rfl rfl rfl rfl ut38 (len_sl (hE 194 rfl)) (by rw [hob]; rfl)⟩
       ·exact ⟨196, rfl, blt_lt rfl, fun st hob hE => aop_move (av := .sl 3 0 SB.reverse.length) (.inl rfl) rfl rfl (hE 18 rfl) (by rw [hob]; rfl)⟩
       ·exact ⟨197, rfl, blt_lt rfl, fun st hob hE => aop_len rfl rfl rfl rfl ut38 (len_sl (hE 196 rfl)) (by rw [hob]; rfl)⟩
       ·exact ⟨198, rfl, blt_lt rfl, fun st hob hE => aop_binI (u := (.bool ((SA.reverse.length : Int) == (SB.reverse.length : Int)))) rfl rfl rfl (hE 195 rfl) (hE 197 rfl) trivial rfl (by rw [hob]; rfl)⟩
       ·exact ⟨199, rfl, blt_lt rfl, fun st hob hE => aop_move (av := .b ((SA.reverse.length : Int) == (SB.reverse.length : Int))) (.inl rfl) rfl rfl (hE 198 rfl) (by rw [hob]; rfl)⟩
       ·exact gN0 hg51 rfl rfl (blt_lt rfl) rfl rfl (blt_lt rfl) rfl
       ·exact gN0 hg51 rfl rfl (blt_lt rfl) rfl rfl (blt_lt rfl) rfl
       ·exact gN0 hg51 rfl rfl (blt_lt rfl) rfl rfl (blt_lt rfl) rfl
       ·exact gN0 hg51 rfl rfl (blt_lt rfl) rfl rfl (blt_lt rfl) rfl
       ·exact gN0 hg51 rfl rfl (blt_lt rfl) rfl rfl (blt_lt rfl) rfl
       ·exact gN0 hg51 rfl rfl (blt_lt rfl) rfl rfl (blt_lt rfl) rfl
       ·exact ⟨205, undef, rfl, blt_lt rfl, rfl, (fun h => by cases h), (fun _ => ⟨206, rfl, blt_lt rfl, .inr rfl⟩)⟩
       ·exact ⟨205, undef, rfl, blt_lt rfl, rfl, (fun h => by cases h), (fun _ => ⟨207, rfl, blt_lt rfl, .inr rfl⟩)⟩
       ·exact ⟨205, undef, rfl, blt_lt rfl, rfl, (fun h => by cases h), (fun _ => ⟨208, rfl, blt_lt rfl, .inr rfl⟩)⟩
       ·exact ⟨205, undef, rfl, blt_lt rfl, rfl, (fun h => by cases h), (fun _ => ⟨209, rfl, blt_lt rfl, .inr rfl⟩)⟩
       ·exact ⟨205, undef, rfl, blt_lt rfl, rfl, (fun h => by cases h), (fun _ => ⟨210, rfl, blt_lt rfl, .inr rfl⟩)⟩
       ·exact ⟨205, undef, rfl, blt_lt rfl, rfl, (fun h => by cases h), (fun _ => ⟨211, rfl, blt_lt rfl, .inr rfl⟩)⟩
       ·exact ⟨205, undef, rfl, blt_lt rfl, rfl, (fun h => by cases h), (fun _ => ⟨212, rfl, blt_lt rfl, .inr rfl⟩)⟩
       ·exact ⟨205, undef, rfl, blt_lt rfl, rfl, (fun h => by cases h), (fun _ => ⟨213, rfl, blt_lt rfl, .inr rfl⟩)⟩
       ·exact ⟨205, undef, rfl, blt_lt rfl, rfl, (fun h => by cases h), (fun _ => ⟨214, rfl, blt_lt rfl, .inr rfl⟩)⟩
       ·exact ⟨214, undef, rfl, blt_lt rfl, rfl, (fun h => by cases h), (fun _ => ⟨215, rfl, blt_lt rfl, .inr rfl⟩)⟩
       ·exact ⟨214, undef, rfl, blt_lt rfl, rfl, (fun h => by cases h), (fun _ => ⟨216, rfl, blt_lt rfl, .inr rfl⟩)⟩
       ·exact ⟨214, undef, rfl, blt_lt rfl, rfl, (fun h => by cases h), (fun _ => ⟨217, rfl, blt_lt rfl, .inr rfl⟩)⟩
       ·exact ⟨214, undef, rfl, blt_lt rfl, rfl, (fun h => by cases h), (fun _ => ⟨218, rfl, blt_lt rfl, .inr rfl⟩)⟩
       ·exact ⟨214, undef, rfl, blt_lt rfl, rfl, (fun h => by cases h), (fun _ => ⟨219, rfl, blt_lt rfl, .inr rfl⟩)⟩
       ·exact ⟨214, undef, rfl, blt_lt rfl, rfl, (fun h => by cases h), (fun _ => ⟨220, rfl, blt_lt rfl, .inr rfl⟩)⟩
       ·exact ⟨214, undef, rfl, blt_lt rfl, rfl, (fun h => by cases h), (fun _ => ⟨221, rfl, blt_lt rfl, .inr rfl⟩)⟩
       ·exact ⟨214, undef, rfl, blt_lt rfl, rfl, (fun h => by cases h), (fun _ => ⟨222, rfl, blt_lt rfl, .inr rfl⟩)⟩
       ·exact ⟨205, undef, rfl, blt_lt rfl, rfl, (fun h => by cases h), (fun _ => ⟨223, rfl, blt_lt rfl, .inr rfl⟩)⟩
       ·exact ⟨205, undef, rfl, blt_lt rfl, rfl, (fun h => by cases h), (fun _ => ⟨224, rfl, blt_lt rfl, .inr rfl⟩)⟩
       ·exact ⟨224, undef, rfl, blt_lt rfl, rfl, (fun h => by cases h), (fun _ => ⟨225, rfl, blt_lt rfl, .inr rfl⟩)⟩
       ·exact ⟨224, undef, rfl, blt_lt rfl, rfl, (fun h => by cases h), (fun _ => ⟨226, rfl, blt_lt rfl, .inr rfl⟩)⟩
       ·exact ⟨224, undef, rfl, blt_lt rfl, rfl, (fun h => by cases h), (fun _ => ⟨227, rfl, blt_lt rfl, .inr rfl⟩)⟩
       ·exact ⟨224, undef, rfl, blt_lt rfl, rfl, (fun h => by cases h), (fun _ => ⟨228, rfl, blt_lt rfl, .inr rfl⟩)⟩
       ·exact ⟨224, undef, rfl, blt_lt rfl, rfl, (fun h => by cases h), (fun _ => ⟨229, rfl, blt_lt rfl, .inr rfl⟩)⟩
       ·exact ⟨224, undef, rfl, blt_lt rfl, rfl, (fun h => by cases h), (fun _ => ⟨230, rfl, blt_lt rfl, .inr rfl⟩)⟩
       ·exact ⟨224, undef, rfl, blt_lt rfl, rfl, (fun h => by cases h), (fun _ => ⟨231, rfl, blt_lt rfl, .inr rfl⟩)⟩
       ·exact ⟨224, undef, rfl, blt_lt rfl, rfl, (fun h => by cases h), (fun _ => ⟨232, rfl, blt_lt rfl, .inr rfl⟩)⟩
       ·exact ⟨205, undef, rfl, blt_lt rfl, rfl, (fun h => by cases h), (fun _ => ⟨233, rfl, blt_lt rfl, .inr rfl⟩)⟩
       ·exact gN0 hg51 rfl rfl (blt_lt rfl) rfl rfl (blt_lt rfl) rfl
       ·exact ⟨235, rfl, blt_lt rfl, fun st hob hE => aop_pick (b := ((SA.reverse.length : Int) == (SB.reverse.length : Int))) (av := .b true) rfl rfl rfl (hE 199 rfl) (by rw [hg51]; rfl) (by rw [hob]; rfl)⟩
      refine opG rfl (aop_move (av := .b true) (.inr rfl) rfl rfl rfl ?_)
      refine op0 ?_
      refine awp_ret ?_
      exact fret (av := .v (.bool true)) rfl rfl (by first | rfl | (rw [leg_last hp9.2 (by omega) (by omega)]; simp))
     ·skip
      have hf53 := (beq_eq_false_iff_ne).1 hg51
      have hp9 := hpe (by omega)
      refine (Bool.eq_false_or_eq_true (decide ((i : Int) ≥ ((wk d x).length : Int)))).elim (fun hg54 => ?_) (fun hg54 => ?_)
      ·skip
       have hf55 := of_decide_eq_true hg54
       refine (Bool.eq_false_or_eq_true ((SA.reverse.getD (((i : Int) - 1).toNat) 0) == (((mkPts d.form).getD q dP).left))).elim (fun hg56 => ?_) (fun hg56 => ?_)
       ·skip
        have hf57 := (beq_iff_eq).1 hg56
        refine awp_draw (m := 42) [(235, .b true), (234, .b true), (233, .b true), (232, .v undef), (231, .v undef), (230, .v undef), (229, .v undef), (228, .v undef), (227, .v undef), (226, .v undef), (225, .v undef), (224, .b true), (223, .b true), (222, .v undef), (221, .v undef), (220, .v undef), (219, .v undef), (218, .v undef), (217, .v undef), (216, .v undef), (215, .v undef), (214, .b ((SA.reverse.getD (((i : Int) - 1).toNat) 0) == (((mkPts d.form).getD q dP).left))), (213, .b ((SA.reverse.getD (((i : Int) - 1).toNat) 0) == (((mkPts d.form).getD q dP).left))), (212, .i (((mkPts d.form).getD q dP).left)), (211, .pt 4 2), (210, .i (SA.reverse.getD (((i : Int) - 1).toNat) 0)), (209, .pt 2 (((i : Int) - 1).toNat * 1)), (208, .i ((i : Int) - 1)), (207, .i (i : Int)), (206, .sl 2 0 SA.reverse.length), (205, .b (decide ((i : Int) ≥ ((wk d x).length : Int)))), (204, .b (decide ((i : Int) ≥ ((wk d x).length : Int)))), (203, .i ((wk d x).length : Int)), (202, .q eI (wk d x)), (201, .pt 1 5), (200, .i (i : Int)), (199, .b ((SA.reverse.length : Int) == (SB.reverse.length : Int))), (198, .b ((SA.reverse.length : Int) == (SB.reverse.length : Int))), (197, .i (SB.reverse.length : Int)), (196, .sl 3 0 SB.reverse.length), (195, .i (SA.reverse.length : Int)), (194, .sl 2 0 SA.reverse.length)] mixed (by kernel_rfl) ?_ ?_
        ·refine ⟨?_, ?_, ?_, ?_, ?_, ?_, ?_, ?_, ?_, ?_, ?_, ?_, ?_, ?_, ?_, ?_, ?_, ?_, ?_, ?_, ?_, ?_, ?_, ?_, ?_, ?_, ?_, ?_, ?_, ?_, ?_, ?_, ?_, ?_, ?_, ?_, ?_, ?_, ?_, ?_, ?_, ?_, trivial⟩
         ·exact ⟨194, rfl, blt_lt rfl, fun st hob hE => aop_move (av := .sl 2 0 SA.reverse.length) (.inl rfl) rfl rfl (hE 17 rfl) (by rw [hob]; rfl)⟩
         ·exact ⟨195, rfl, blt_lt rfl, fun st hob hE => aop_len rfl rfl rfl rfl ut38 (len_sl (hE 194 rfl)) (by rw [hob]; rfl)⟩
         ·exact ⟨196, rfl, blt_lt rfl, fun st hob hE => aop_move (av := .sl 3 0 SB.reverse.length) (.inl rfl) rfl rfl (hE 18 rfl) (by rw [hob]; rfl)⟩
         ·exact ⟨197, rfl, blt_lt rfl, fun st hob hE => aop_len rfl rfl rfl rfl ut38 (len_sl (hE 196 rfl)) (by rw [hob]; rfl)⟩
         ·exact ⟨198, rfl, blt_lt rfl, fun st hob hE => aop_binI (u := (.bool ((SA.reverse.length : Int) == (SB.reverse.length : Int)))) rfl rfl rfl (hE 195 rfl) (hE 197 rfl) trivial rfl (by rw [hob]; rfl)⟩
         ·exact ⟨199, rfl, blt_lt rfl, fun st hob hE => aop_move (av := .b ((SA.reverse.length : Int) == (SB.reverse.length : Int))) (.inl rfl) rfl rfl (hE 198 rfl) (by rw [hob]; rfl)⟩
         ·exact gY0 hg51 rfl rfl (blt_lt rfl) rfl ⟨200, rfl, blt_lt rfl, fun st hob hE => aop_move (av := .i (i : Int)) (.inl rfl) rfl rfl (hE 21 rfl) (by rw [hob]; rfl)⟩
         ·exact gY0 hg51 rfl rfl (blt_lt rfl) rfl ⟨201, rfl, blt_lt rfl, fun st hob hE => aop_fieldAddr (av := .pt 1 0) (av' := .pt 1 5) rfl rfl rfl ft40_5 sz38 (hE 8 rfl) rfl rfl (by rw [hob]; rfl)⟩
         ·exact gY0 hg51 rfl rfl (blt_lt rfl) rfl ⟨202, rfl, blt_lt rfl, fun st hob hE => aop_ld (av := .q eI (wk d x)) rfl rfl rfl ag38 (hE 201 rfl) (by rw [hob]; rfl) (by rw [hob]; rfl)⟩
         ·exact gY0 hg51 rfl rfl (blt_lt rfl) rfl ⟨203, rfl, blt_lt rfl, fun st hob hE => aop_len rfl rfl rfl rfl ut38 (len_ro (hE 202 rfl)) (by rw [hob]; rfl)⟩
         ·exact gY0 hg51 rfl rfl (blt_lt rfl) rfl ⟨204, rfl, blt_lt rfl, fun st hob hE => aop_binI (u := (.bool (decide ((i : Int) ≥ ((wk d x).length : Int))))) rfl rfl rfl (hE 200 rfl) (hE 203 rfl) trivial rfl (by rw [hob]; rfl)⟩
         ·exact gY0 hg51 rfl rfl (blt_lt rfl) rfl ⟨205, rfl, blt_lt rfl, fun st hob hE => aop_move (av := .b (decide ((i : Int) ≥ ((wk d x).length : Int)))) (.inl rfl) rfl rfl (hE 204 rfl) (by rw [hob]; rfl)⟩
         ·exact gY1 hg54 rfl rfl (blt_lt rfl) rfl ⟨206, rfl, blt_lt rfl, fun st hob hE => aop_move (av := .sl 2 0 SA.reverse.length) (.inl rfl) rfl rfl (hE 17 rfl) (by rw [hob]; rfl)⟩
         ·exact gY1 hg54 rfl rfl (blt_lt rfl) rfl ⟨207, rfl, blt_lt rfl, fun st hob hE => aop_move (av := .i (i : Int)) (.inl rfl) rfl rfl (hE 21 rfl) (by rw [hob]; rfl)⟩
         ·exact gY1 hg54 rfl rfl (blt_lt rfl) rfl ⟨208, rfl, blt_lt rfl, fun st hob hE => aop_binI (u := (.int .i64 ((i : Int) - 1))) rfl rfl rfl (hE 207 rfl) rfl trivial (subI (by omega)) (by rw [hob]; rfl)⟩
         ·exact gY1 hg54 rfl rfl (blt_lt rfl) rfl ⟨209, rfl, blt_lt rfl, fun st hob hE => aop_ixOI rfl rfl rfl ut38 sz3 (hE 206 rfl) (hE 208 rfl) (by omega) (by first | omega | (simp; done) | decide | (simp at *; omega)) (by rw [hob]; rfl)⟩
         ·exact gY1 hg54 rfl rfl (blt_lt rfl) rfl ⟨210, rfl, blt_lt rfl, fun st hob hE => aop_ldO (f := eI) (l := SA.reverse) 0 rfl rfl rfl ag3 (hE 209 rfl) (by rw [hob]; rfl) rfl (fun _ => rfl) (by first | omega | (simp; done) | decide | (simp at *; omega)) rfl (by rw [hob]; rfl)⟩
         ·exact gY1 hg54 rfl rfl (blt_lt rfl) rfl ⟨211, rfl, blt_lt rfl, fun st hob hE => aop_fieldAddr (av := .pt 4 0) (av' := .pt 4 2) rfl rfl rfl ft58_2 sz3 (hE 19 rfl) rfl rfl (by rw [hob]; rfl)⟩
         ·exact gY1 hg54 rfl rfl (blt_lt rfl) rfl ⟨212, rfl, blt_lt rfl, fun st hob hE => aop_ld (av := .i (((mkPts d.form).getD q dP).left)) rfl rfl rfl ag3 (hE 211 rfl) (by rw [hob]; rfl) (by rw [hob]; rfl)⟩
         ·exact gY1 hg54 rfl rfl (blt_lt rfl) rfl ⟨213, rfl, blt_lt rfl, fun st hob hE => aop_binI (u := (.bool ((SA.reverse.getD (((i : Int) - 1).toNat) 0) == (((mkPts d.form).getD q dP).left)))) rfl rfl rfl (hE 210 rfl) (hE 212 rfl) trivial rfl (by rw [hob]; rfl)⟩
         ·exact gY1 hg54 rfl rfl (blt_lt rfl) rfl ⟨214, rfl, blt_lt rfl, fun st hob hE => aop_move (av := .b ((SA.reverse.getD (((i : Int) - 1).toNat) 0) == (((mkPts d.form).getD q dP).left))) (.inl rfl) rfl rfl (hE 213 rfl) (by rw [hob]; rfl)⟩
         ·exact gN0 hg56 rfl rfl (blt_lt rfl) rfl rfl (blt_lt rfl) rfl
         ·exact gN0 hg56 rfl rfl (blt_lt rfl) rfl rfl (blt_lt rfl) rfl
         ·exact gN0 hg56 rfl rfl (blt_lt rfl) rfl rfl (blt_lt rfl) rfl
         ·exact gN0 hg56 rfl rfl (blt_lt rfl) rfl rfl (blt_lt rfl) rfl
         ·exact gN0 hg56 rfl rfl (blt_lt rfl) rfl rfl (blt_lt rfl) rfl
         ·exact gN0 hg56 rfl rfl (blt_lt rfl) rfl rfl (blt_lt rfl) rfl
         ·exact gN0 hg56 rfl rfl (blt_lt rfl) rfl rfl (blt_lt rfl) rfl
         ·exact gN0 hg56 rfl rfl (blt_lt rfl) rfl rfl (blt_lt rfl) rfl
         ·exact gY1 hg54 rfl rfl (blt_lt rfl) rfl ⟨223, rfl, blt_lt rfl, fun st hob hE => aop_pick (b := ((SA.reverse.getD (((i : Int) - 1).toNat) 0) == (((mkPts d.form).getD q dP).left))) (av := .b true) rfl rfl rfl (hE 214 rfl) (by rw [hg56]; rfl) (by rw [hob]; rfl)⟩
         ·exact gY1 hg54 rfl rfl (blt_lt rfl) rfl ⟨224, rfl, blt_lt rfl, fun st hob hE => aop_move (av := .b true) (.inl rfl) rfl rfl (hE 223 rfl) (by rw [hob]; rfl)⟩
         ·exact gN0 rfl rfl rfl (blt_lt rfl) rfl rfl (blt_lt rfl) rfl
         ·exact gN0 rfl rfl rfl (blt_lt rfl) rfl rfl (blt_lt rfl) rfl
         ·exact gN0 rfl rfl rfl (blt_lt rfl) rfl rfl (blt_lt rfl) rfl
         ·exact gN0 rfl rfl rfl (blt_lt rfl) rfl rfl (blt_lt rfl) rfl
         ·exact gN0 rfl rfl rfl (blt_lt rfl) rfl rfl (blt_lt rfl) rfl
         ·exact gN0 rfl rfl rfl (blt_lt rfl) rfl rfl (blt_lt rfl) rfl
         ·exact gN0 rfl rfl rfl (blt_lt rfl) rfl rfl (blt_lt rfl) rfl
         ·exact gN0 rfl rfl rfl (blt_lt rfl) rfl rfl (blt_lt rfl) rfl
         ·exact gY1 hg54 rfl rfl (blt_lt rfl) rfl ⟨233, rfl, blt_lt rfl, fun st hob hE => aop_pick (b := true) (av := .b true) rfl rfl rfl (hE 224 rfl) rfl (by rw [hob]; rfl)⟩
         ·exact gY0 hg51 rfl rfl (blt_lt rfl) rfl ⟨234, rfl, blt_lt rfl, fun st hob hE => aop_pick (b := (decide ((i : Int) ≥ ((wk d x).length : Int)))) (av := .b true) rfl rfl rfl (hE 205 rfl) (by rw [hg54]; exact hE 233 rfl) (by rw [hob]; rfl)⟩
         ·exact ⟨235, rfl, blt_lt rfl, fun st hob hE => aop_pick (b := ((SA.reverse.length : Int) == (SB.reverse.length : Int))) (av := .b true) rfl rfl rfl (hE 199 rfl) (by rw [hg51]; exact hE 234 rfl) (by rw [hob]; rfl)⟩
        refine opG rfl (aop_move (av := .b true) (.inr rfl) rfl rfl rfl ?_)
        refine op0 ?_
        refine awp_ret ?_
        exact fret (av := .v (.bool true)) rfl rfl (by first | rfl | (rw [leg_last hp9.2 (by omega) (by omega)]; simp))
       ·skip
        have hf58 := (beq_eq_false_iff_ne).1 hg56
        have hp9 := hpe (by omega)
        refine (Bool.eq_false_or_eq_true ((SA.reverse.getD (((i : Int) - 1).toNat) 0) == (((mkPts d.form).getD q dP).right))).elim (fun hg59 => ?_) (fun hg59 => ?_)
        ·skip
         have hf60 := (beq_iff_eq).1 hg59
         refine awp_draw (m := 42) [(235, .b true), (234, .b true), (233, .b true), (232, .v undef), (231, .v undef), (230, .v undef), (229, .v undef), (228, .v undef), (227, .v undef), (226, .v undef), (225, .v undef), (224, .b ((SA.reverse.getD (((i : Int) - 1).toNat) 0) == (((mkPts d.form).getD q dP).right))), (223, .b ((SA.reverse.getD (((i : Int) - 1).toNat) 0) == (((mkPts d.form).getD q dP).right))), (222, .b ((SA.reverse.getD (((i : Int) - 1).toNat) 0) == (((mkPts d.form).getD q dP).right))), (221, .i (((mkPts d.form).getD q dP).right)), (220, .pt 4 3), (219, .i (SA.reverse.getD (((i : Int) - 1).toNat) 0)), (218, .pt 2 (((i : Int) - 1).toNat * 1)), (217, .i ((i : Int) - 1)), (216, .i (i : Int)), (215, .sl 2 0 SA.reverse.length), (214, .b ((SA.reverse.getD (((i : Int) - 1).toNat) 0) == (((mkPts d.form).getD q dP).left))), (213, .b ((SA.reverse.getD (((i : Int) - 1).toNat) 0) == (((mkPts d.form).getD q dP).left))), (212, .i (((mkPts d.form).getD q dP).left)), (211, .pt 4 2), (210, .i (SA.reverse.getD (((i : Int) - 1).toNat) 0)), (209, .pt 2 (((i : Int) - 1).toNat * 1)), (208, .i ((i : Int) - 1)), (207, .i (i : Int)), (206, .sl 2 0 SA.reverse.length), (205, .b (decide ((i : Int) ≥ ((wk d x).length : Int)))), (204, .b (decide ((i : Int) ≥ ((wk d x).length : Int)))), (203, .i ((wk d x).length : Int)), (202, .q eI (wk d x)), (201, .pt 1 5), (200, .i (i : Int)), (199, .b ((SA.reverse.length : Int) == (SB.reverse.length : Int))), (198, .b ((SA.reverse.length : Int) == (SB.reverse.length : Int))), (197, .i (SB.reverse.length : Int)), (196, .sl 3 0 SB.reverse.length), (195, .i (SA.reverse.length : Int)), (194, .sl 2 0 SA.reverse.length)] mixed (by kernel_rfl) ?_ ?_
         ·refine ⟨?_, ?_, ?_, ?_, ?_, ?_, ?_, ?_, ?_, ?_, ?_, ?_, ?_, ?_, ?_, ?_, ?_, ?_, ?_, ?_, ?_, ?_, ?_, ?_, ?_, ?_, ?_, ?_, ?_, ?_, ?_, ?_, ?_, ?_, ?_, ?_, ?_, ?_, ?_, ?_, ?_, ?_, trivial⟩
          ·exact ⟨194, rfl, blt_lt rfl, fun st hob hE => aop_move (av := .sl 2 0 SA.reverse.length) (.inl rfl) rfl rfl (hE 17 rfl) (by rw [hob]; rfl)⟩
          ·exact ⟨195, rfl, blt_lt rfl, fun st hob hE => aop_len rfl rfl rfl rfl ut38 (len_sl (hE 194 rfl)) (by rw [hob]; rfl)⟩
          ·exact ⟨196, rfl, blt_lt rfl, fun st hob hE => aop_move (av := .sl 3 0 SB.reverse.length) (.inl rfl) rfl rfl (hE 18 rfl) (by rw [hob]; rfl)⟩
          ·exact ⟨197, rfl, blt_lt rfl, fun st hob hE => aop_len rfl rfl rfl rfl ut38 (len_sl (hE 196 rfl)) (by rw [hob]; rfl)⟩
          ·exact ⟨198, rfl, blt_lt rfl, fun st hob hE => aop_binI (u := (.bool ((SA.reverse.length : Int) == (SB.reverse.length : Int)))) rfl rfl rfl (hE 195 rfl) (hE 197 rfl) trivial rfl (by rw [hob]; rfl)⟩
          ·exact ⟨199, rfl, blt_lt rfl, fun st hob hE => aop_move (av := .b ((SA.reverse.length : Int) == (SB.reverse.length : Int))) (.inl rfl) rfl rfl (hE 198 rfl) (by rw [hob]; rfl)⟩
          ·exact gY0 hg51 rfl rfl (blt_lt rfl) rfl ⟨200, rfl, blt_lt rfl, fun st hob hE => aop_move (av := .i (i : Int)) (.inl rfl) rfl rfl (hE 21 rfl) (by rw [hob]; rfl)⟩
          ·exact gY0 hg51 rfl rfl (blt_lt rfl) rfl ⟨201, rfl, blt_lt rfl, fun st hob hE => aop_fieldAddr (av := .pt 1 0) (av' := .pt 1 5) rfl rfl rfl ft40_5 sz38 (hE 8 rfl) rfl rfl (by rw [hob]; rfl)⟩
          ·exact gY0 hg51 rfl rfl (blt_lt rfl) rfl ⟨202, rfl, blt_lt rfl, fun st hob hE => aop_ld (av := .q eI (wk d x)) rfl rfl rfl ag38 (hE 201 rfl) (by rw [hob]; rfl) (by rw [hob]; rfl)⟩
          ·exact gY0 hg51 rfl rfl (blt_lt rfl) rfl ⟨203, rfl, blt_lt rfl, fun st hob hE => aop_len rfl rfl rfl rfl ut38 (len_ro (hE 202 rfl)) (by rw [hob]; rfl)⟩
          ·exact gY0 hg51 rfl rfl (blt_lt rfl) rfl ⟨204, rfl, blt_lt rfl, fun st hob hE => aop_binI (u := (.bool (decide ((i : Int) ≥ ((wk d x).length : Int))))) rfl rfl rfl (hE 200 rfl) (hE 203 rfl) trivial rfl (by rw [hob]; rfl)⟩
          ·exact gY0 hg51 rfl rfl (blt_lt rfl) rfl ⟨205, rfl, blt_lt rfl, fun st hob hE => aop_move (av := .b (decide ((i : Int) ≥ ((wk d x).length : Int)))) (.inl rfl) rfl rfl (hE 204 rfl) (by rw [hob]; rfl)⟩
          ·exact gY1 hg54 rfl rfl (blt_lt rfl) rfl ⟨206, rfl, blt_lt rfl, fun st hob hE => aop_move (av := .sl 2 0 SA.reverse.length) (.inl rfl) rfl rfl (hE 17 rfl) (by rw [hob]; rfl)⟩
          ·exact gY1 hg54 rfl rfl (blt_lt rfl) rfl ⟨207, rfl, blt_lt rfl, fun st hob hE => aop_move (av := .i (i : Int)) (.inl rfl) rfl rfl (hE 21 rfl) (by rw [hob]; rfl)⟩
          ·exact gY1 hg54 rfl rfl (blt_lt rfl) rfl ⟨208, rfl, blt_lt rfl, fun st hob hE => aop_binI (u := (.int .i64 ((i : Int) - 1))) rfl rfl rfl (hE 207 rfl) rfl trivial (subI (by omega)) (by rw [hob]; rfl)⟩
          ·exact gY1 hg54 rfl rfl (blt_lt rfl) rfl ⟨209, rfl, blt_lt rfl, fun st hob hE => aop_ixOI rfl rfl rfl ut38 sz3 (hE 206 rfl) (hE 208 rfl) (by omega) (by first | omega | (simp; done) | decide | (simp at *; omega)) (by rw [hob]; rfl)⟩
          ·exact gY1 hg54 rfl rfl (blt_lt rfl) rfl ⟨210, rfl, blt_lt rfl, fun st hob hE => aop_ldO (f := eI) (l := SA.reverse) 0 rfl rfl rfl ag3 (hE 209 rfl) (by rw [hob]; rfl) rfl (fun _ => rfl) (by first | omega | (simp; done) | decide | (simp at *; omega)) rfl (by rw [hob]; rfl)⟩
          ·exact gY1 hg54 rfl rfl (blt_lt rfl) rfl ⟨211, rfl, blt_lt rfl, fun st hob hE => aop_fieldAddr (av := .pt 4 0) (av' := .pt 4 2) rfl rfl rfl ft58_2 sz3 (hE 19 rfl) rfl rfl (by rw [hob]; rfl)⟩
          ·exact gY1 hg54 rfl rfl (blt_lt rfl) rfl ⟨212, rfl, blt_lt rfl, fun st hob hE => aop_ld (av := .i (((mkPts d.form).getD q dP).left)) rfl rfl rfl ag3 (hE 211 rfl) (by rw [hob]; rfl) (by rw [hob]; rfl)⟩
          ·exact gY1 hg54 rfl rfl (blt_lt rfl) rfl ⟨213, rfl, blt_lt rfl, fun st hob hE => aop_binI (u := (.bool ((SA.reverse.getD (((i : Int) - 1).toNat) 0) == (((mkPts d.form).getD q dP).left)))) rfl rfl rfl (hE 210 rfl) (hE 212 rfl) trivial rfl (by rw [hob]; rfl)⟩
          ·exact gY1 hg54 rfl rfl (blt_lt rfl) rfl ⟨214, rfl, blt_lt rfl, fun st hob hE => aop_move (av := .b ((SA.reverse.getD (((i : Int) - 1).toNat) 0) == (((mkPts d.form).getD q dP).left))) (.inl rfl) rfl rfl (hE 213 rfl) (by rw [hob]; rfl)⟩
          ·exact gY0 hg56 rfl rfl (blt_lt rfl) rfl ⟨215, rfl, blt_lt rfl, fun st hob hE => aop_move (av := .sl 2 0 SA.reverse.length) (.inl rfl) rfl rfl (hE 17 rfl) (by rw [hob]; rfl)⟩
          ·exact gY0 hg56 rfl rfl (blt_lt rfl) rfl ⟨216, rfl, blt_lt rfl, fun st hob hE => aop_move (av := .i (i : Int)) (.inl rfl) rfl rfl (hE 21 rfl) (by rw [hob]; rfl)⟩
          ·exact gY0 hg56 rfl rfl (blt_lt rfl) rfl ⟨217, rfl, blt_lt rfl, fun st hob hE => aop_binI (u := (.int .i64 ((i : Int) - 1))) rfl rfl rfl (hE 216 rfl) rfl trivial (subI (by omega)) (by rw [hob]; rfl)⟩
          ·exact gY0 hg56 rfl rfl (blt_lt rfl) rfl ⟨218, rfl, blt_lt rfl, fun st hob hE => aop_ixOI rfl rfl rfl ut38 sz3 (hE 215 rfl) (hE 217 rfl) (by omega) (by first | omega | (simp; done) | decide | (simp at *; omega)) (by rw [hob]; rfl)⟩
          ·exact gY0 hg56 rfl rfl (blt_lt rfl) rfl ⟨219, rfl, blt_lt rfl, fun st hob hE => aop_ldO (f := eI) (l := SA.reverse) 0 rfl rfl rfl ag3 (hE 218 rfl) (by rw [hob]; rfl) rfl (fun _ => rfl) (by first | omega | (simp; done) | decide | (simp at *; omega)) rfl (by rw [hob]; rfl)⟩
          ·exact gY0 hg56 rfl rfl (blt_lt rfl) rfl ⟨220, rfl, blt_lt rfl, fun st hob hE => aop_fieldAddr (av := .pt 4 0) (av' := .pt 4 3) rfl rfl rfl ft58_3 sz3 (hE 19 rfl) rfl rfl (by rw [hob]; rfl)⟩
          ·exact gY0 hg56 rfl rfl (blt_lt rfl) rfl ⟨221, rfl, blt_lt rfl, fun st hob hE => aop_ld (av := .i (((mkPts d.form).getD q dP).right)) rfl rfl rfl ag3 (hE 220 rfl) (by rw [hob]; rfl) (by rw [hob]; rfl)⟩
          ·exact gY0 hg56 rfl rfl (blt_lt rfl) rfl ⟨222, rfl, blt_lt rfl, fun st hob hE => aop_binI (u := (.bool ((SA.reverse.getD (((i : Int) - 1).toNat) 0) == (((mkPts d.form).getD q dP).right)))) rfl rfl rfl (hE 219 rfl) (hE 221 rfl) trivial rfl (by rw [hob]; rfl)⟩
          ·exact gY1 hg54 rfl rfl (blt_lt rfl) rfl ⟨223, rfl, blt_lt rfl, fun st hob hE => aop_pick (b := ((SA.reverse.getD (((i : Int) - 1).toNat) 0) == (((mkPts d.form).getD q dP).left))) (av := .b ((SA.reverse.getD (((i : Int) - 1).toNat) 0) == (((mkPts d.form).getD q dP).right))) rfl rfl rfl (hE 214 rfl) (by rw [hg56]; exact hE 222 rfl) (by rw [hob]; rfl)⟩
          ·exact gY1 hg54 rfl rfl (blt_lt rfl) rfl ⟨224, rfl, blt_lt rfl, fun st hob hE => aop_move (av := .b ((SA.reverse.getD (((i : Int) - 1).toNat) 0) == (((mkPts d.form).getD q dP).right))) (.inl rfl) rfl rfl (hE 223 rfl) (by rw [hob]; rfl)⟩
          ·exact gN0 hg59 rfl rfl (blt_lt rfl) rfl rfl (blt_lt rfl) rfl
          ·exact gN0 hg59 rfl rfl (blt_lt rfl) rfl rfl (blt_lt rfl) rfl
          ·exact gN0 hg59 rfl rfl (blt_lt rfl) rfl rfl (blt_lt rfl) rfl
          ·exact gN0 hg59 rfl rfl (blt_lt rfl) rfl rfl (blt_lt rfl) rfl
          ·exact gN0 hg59 rfl rfl (blt_lt rfl) rfl rfl (blt_lt rfl) rfl
          ·exact gN0 hg59 rfl rfl (blt_lt rfl) rfl rfl (blt_lt rfl) rfl
          ·exact gN0 hg59 rfl rfl (blt_lt rfl) rfl rfl (blt_lt rfl) rfl
          ·exact gN0 hg59 rfl rfl (blt_lt rfl) rfl rfl (blt_lt rfl) rfl
          ·exact gY1 hg54 rfl rfl (blt_lt rfl) rfl ⟨233, rfl, blt_lt rfl, fun st hob hE => aop_pick (b := ((SA.reverse.getD (((i : Int) - 1).toNat) 0) == (((mkPts d.form).getD q dP).right))) (av := .b true) rfl rfl rfl (hE 224 rfl) (by rw [hg59]; rfl) (by rw [hob]; rfl)⟩
          ·exact gY0 hg51 rfl rfl (blt_lt rfl) rfl ⟨234, rfl, blt_lt rfl, fun st hob hE => aop_pick (b := (decide ((i : Int) ≥ ((wk d x).length : Int)))) (av := .b true) rfl rfl rfl (hE 205 rfl) (by rw [hg54]; exact hE 233 rfl) (by rw [hob]; rfl)⟩
          ·exact ⟨235, rfl, blt_lt rfl, fun st hob hE => aop_pick (b := ((SA.reverse.length : Int) == (SB.reverse.length : Int))) (av := .b true) rfl rfl rfl (hE 199 rfl) (by rw [hg51]; exact hE 234 rfl) (by rw [hob]; rfl)⟩
         refine opG rfl (aop_move (av := .b true) (.inr rfl) rfl rfl rfl ?_)
         refine op0 ?_
         refine awp_ret ?_
         exact fret (av := .v (.bool true)) rfl rfl (by first | rfl | (rw [leg_last hp9.2 (by omega) (by omega)]; simp))
        ·skip
         have hf61 := (beq_eq_false_iff_ne).1 hg59
         have hp9 := hpe (by omega)
         refine awp_draw (m := 42) [(235, .b ((SA.reverse.getD (((i : Int) - 1).toNat) 0) == (((mkPts d.form).getD q dP).stem))), (234, .b ((SA.reverse.getD (((i : Int) - 1).toNat) 0) == (((mkPts d.form).getD q dP).stem))), (233, .b ((SA.reverse.getD (((i : Int) - 1).toNat) 0) == (((mkPts d.form).getD q dP).stem))), (232, .b ((SA.reverse.getD (((i : Int) - 1).toNat) 0) == (((mkPts d.form).getD q dP).stem))), (231, .i (((mkPts d.form).getD q dP).stem)), (230, .pt 4 1), (229, .i (SA.reverse.getD (((i : Int) - 1).toNat) 0)), (228, .pt 2 (((i : Int) - 1).toNat * 1)), (227, .i ((i : Int) - 1)), (226, .i (i : Int)), (225, .sl 2 0 SA.reverse.length), (224, .b ((SA.reverse.getD (((i : Int) - 1).toNat) 0) == (((mkPts d.form).getD q dP).right))), (223, .b ((SA.reverse.getD (((i : Int) - 1).toNat) 0) == (((mkPts d.form).getD q dP).right))), (222, .b ((SA.reverse.getD (((i : Int) - 1).toNat) 0) == (((mkPts d.form).getD q dP).right))), (221, .i (((mkPts d.form).getD q dP).right)), (220, .pt 4 3), (219, .i (SA.reverse.getD (((i : Int) - 1).toNat) 0)), (218, .pt 2 (((i : Int) - 1).toNat * 1)), (217, .i ((i : Int) - 1)), (216, .i (i : Int)), (215, .sl 2 0 SA.reverse.length), (214, .b ((SA.reverse.getD (((i : Int) - 1).toNat) 0) == (((mkPts d.form).getD q dP).left))), (213, .b ((SA.reverse.getD (((i : Int) - 1).toNat) 0) == (((mkPts d.form).getD q dP).left))), (212, .i (((mkPts d.form).getD q dP).left)), (211, .pt 4 2), (210, .i (SA.reverse.getD (((i : Int) - 1).toNat) 0)), (209, .pt 2 (((i : Int) - 1).toNat * 1)), (208, .i ((i : Int) - 1)), (207, .i (i : Int)), (206, .sl 2 0 SA.reverse.length), (205, .b (decide ((i : Int) ≥ ((wk d x).length : Int)))), (204, .b (decide ((i : Int) ≥ ((wk d x).length : Int)))), (203, .i ((wk d x).length : Int)), (202, .q eI (wk d x)), (201, .pt 1 5), (200, .i (i : Int)), (199, .b ((SA.reverse.length : Int) == (SB.reverse.length : Int))), (198, .b ((SA.reverse.length : Int) == (SB.reverse.length : Int))), (197, .i (SB.reverse.length : Int)), (196, .sl 3 0 SB.reverse.length), (195, .i (SA.reverse.length : Int)), (194, .sl 2 0 SA.reverse.length)] mixed (by kernel_rfl) ?_ ?_
         ·refine ⟨?_, ?_, ?_, ?_, ?_, ?_, ?_, ?_, ?_, ?_, ?_, ?_, ?_, ?_, ?_, ?_, ?_, ?_, ?_, ?_, ?_, ?_, ?_, ?_, ?_, ?_, ?_, ?_, ?_, ?_, ?_, ?_, ?_, ?_, ?_, ?_, ?_, ?_, ?_, ?_, ?_, ?_, trivial⟩
          ·exact ⟨194, rfl, blt_lt rfl, fun st hob hE => aop_move (av := .sl 2 0 SA.reverse.length) (.inl rfl) rfl rfl (hE 17 rfl) (by rw [hob]; rfl)⟩
          ·exact ⟨195, rfl, blt_lt rfl, fun st hob hE => aop_len rfl rfl rfl rfl ut38 (len_sl (hE 194 rfl)) (by rw [hob]; rfl)⟩
          ·exact ⟨196, rfl, blt_lt rfl, fun st hob hE => aop_move (av := .sl 3 0 SB.reverse.length) (.inl rfl) rfl rfl (hE 18 rfl) (by rw [hob]; rfl)⟩
          ·exact ⟨197, rfl, blt_lt rfl, fun st hob hE => aop_len rfl rfl rfl rfl ut38 (len_sl (hE 196 rfl)) (by rw [hob]; rfl)⟩
          ·exact ⟨198, rfl, blt_lt rfl, fun st hob hE => aop_binI (u := (.bool ((SA.reverse.length : Int) == (SB.reverse.length : Int)))) rfl rfl rfl (hE 195 rfl) (hE 197 rfl) trivial rfl (by rw [hob]; rfl)⟩
          ·exact ⟨199, rfl, blt_lt rfl, fun st hob hE => aop_move (av := .b ((SA.reverse.length : Int) == (SB.reverse.length : Int))) (.inl rfl) rfl rfl (hE 198 rfl) (by rw [hob]; rfl)⟩
          ·exact gY0 hg51 rfl rfl (blt_lt rfl) rfl ⟨200, rfl, blt_lt rfl, fun st hob hE => aop_move (av := .i (i : Int)) (.inl rfl) rfl rfl (hE 21 rfl) (by rw [hob]; rfl)⟩
          ·exact gY0 hg51 rfl rfl (blt_lt rfl) rfl ⟨201, rfl, blt_lt rfl, fun st hob hE => aop_fieldAddr (av := .pt 1 0) (av' := .pt 1 5) rfl rfl rfl ft40_5 sz38 (hE 8 rfl) rfl rfl (by rw [hob]; rfl)⟩
          ·exact gY0 hg51 rfl rfl (blt_lt rfl) rfl ⟨202, rfl, blt_lt rfl, fun st hob hE => aop_ld (av := .q eI (wk d x)) rfl rfl rfl ag38 (hE 201 rfl) (by rw [hob]; rfl) (by rw [hob]; rfl)⟩
          ·exact gY0 hg51 rfl rfl (blt_lt rfl) rfl ⟨203, rfl, blt_lt rfl, fun st hob hE => aop_len rfl rfl rfl rfl ut38 (len_ro (hE 202 rfl)) (by rw [hob]; rfl)⟩
          ·exact gY0 hg51 rfl rfl (blt_lt rfl) rfl ⟨204, rfl, blt_lt rfl, fun st hob hE => aop_binI (u := (.bool (decide ((i : Int) ≥ ((wk d x).length : Int))))) rfl rfl rfl (hE 200 rfl) (hE 203 rfl) trivial rfl (by rw [hob]; rfl)⟩
          ·exact gY0 hg51 rfl rfl (blt_lt rfl) rfl ⟨205, rfl, blt_lt rfl, fun st hob hE => aop_move (av := .b (decide ((i : Int) ≥ ((wk d x).length : Int)))) (.inl rfl) rfl rfl (hE 204 rfl) (by rw [hob]; rfl)⟩
          ·exact gY1 hg54 rfl rfl (blt_lt rfl) rfl ⟨206, rfl, blt_lt rfl, fun st hob hE => aop_move (av := .sl 2 0 SA.reverse.length) (.inl rfl) rfl rfl (hE 17 rfl) (by rw [hob]; rfl)⟩
          ·exact gY1 hg54 rfl rfl (blt_lt rfl) rfl ⟨207, rfl, blt_lt rfl, fun st hob hE => aop_move (av := .i (i : Int)) (.inl rfl) rfl rfl (hE 21 rfl) (by rw [hob]; rfl)⟩
          ·exact gY1 hg54 rfl rfl (blt_lt rfl) rfl ⟨208, rfl, blt_lt rfl, fun st hob hE => aop_binI (u := (.int .i64 ((i : Int) - 1))) rfl rfl rfl (hE 207 rfl) rfl trivial (subI (by omega)) (by rw [hob]; rfl)⟩
          ·exact gY1 hg54 rfl rfl (blt_lt rfl) rfl ⟨209, rfl, blt_lt rfl, fun st hob hE => aop_ixOI rfl rfl rfl ut38 sz3 (hE 206 rfl) (hE 208 rfl) (by omega) (by first | omega | (simp; done) | decide | (simp at *; omega)) (by rw [hob]; rfl)⟩
          ·exact gY1 hg54 rfl rfl (blt_lt rfl) rfl ⟨210, rfl, blt_lt rfl, fun st hob hE => aop_ldO (f := eI) (l := SA.reverse) 0 rfl rfl rfl ag3 (hE 209 rfl) (by rw [hob]; rfl) rfl (fun _ => rfl) (by first | omega | (simp; done) | decide | (simp at *; omega)) rfl (by rw [hob]; rfl)⟩
          ·exact gY1 hg54 rfl rfl (blt_lt rfl) rfl ⟨211, rfl, blt_lt rfl, fun st hob hE => aop_fieldAddr (av := .pt 4 0) (av' := .pt 4 2) rfl rfl rfl ft58_2 sz3 (hE 19 rfl) rfl rfl (by rw [hob]; rfl)⟩
          ·exact gY1 hg54 rfl rfl (blt_lt rfl) rfl ⟨212, rfl, blt_lt rfl, fun st hob hE => aop_ld (av := .i (((mkPts d.form).getD q dP).left)) rfl rfl rfl ag3 (hE 211 rfl) (by rw [hob]; rfl) (by rw [hob]; rfl)⟩
          ·exact gY1 hg54 rfl rfl (blt_lt rfl) rfl ⟨213, rfl, blt_lt rfl, fun st hob hE => aop_binI (u := (.bool ((SA.reverse.getD (((i : Int) - 1).toNat) 0) == (((mkPts d.form).getD q dP).left)))) rfl rfl rfl (hE 210 rfl) (hE 212 rfl) trivial rfl (by rw [hob]; rfl)⟩
          ·exact gY1 hg54 rfl rfl (blt_lt rfl) rfl ⟨214, rfl, blt_lt rfl, fun st hob hE => aop_move (av := .b ((SA.reverse.getD (((i : Int) - 1).toNat) 0) == (((mkPts d.form).getD q dP).left))) (.inl rfl) rfl rfl (hE 213 rfl) (by rw [hob]; rfl)⟩
          ·exact gY0 hg56 rfl rfl (blt_lt rfl) rfl ⟨215, rfl, blt_lt rfl, fun st hob hE => aop_move (av := .sl 2 0 SA.reverse.length) (.inl rfl) rfl rfl (hE 17 rfl) (by rw [hob]; rfl)⟩
          ·exact gY0 hg56 rfl rfl (blt_lt rfl) rfl ⟨216, rfl, blt_lt rfl, fun st hob hE => aop_move (av := .i (i : Int)) (.inl rfl) rfl rfl (hE 21 rfl) (by rw [hob]; rfl)⟩
          ·exact gY0 hg56 rfl rfl (blt_lt rfl) rfl ⟨217, rfl, blt_lt rfl, fun st hob hE => aop_binI (u := (.int .i64 ((i : Int) - 1))) rfl rfl rfl (hE 216 rfl) rfl trivial (subI (by omega)) (by rw [hob]; rfl)⟩
          ·exact gY0 hg56 rfl rfl (blt_lt rfl) rfl ⟨218, rfl, blt_lt rfl, fun st hob hE => aop_ixOI rfl rfl rfl ut38 sz3 (hE 215 rfl) (hE 217 rfl) (by omega) (by first | omega | (simp; done) | decide | (simp at *; omega)) (by rw [hob]; rfl)⟩
          ·exact gY0 hg56 rfl rfl (blt_lt rfl) rfl ⟨219, rfl, blt_lt rfl, fun st hob hE => aop_ldO (f := eI) (l := SA.reverse) 0 rfl rfl rfl ag3 (hE 218 rfl) (by rw [hob]; rfl) rfl (fun _ => rfl) (by first | omega | (simp; done) | decide | (simp at *; omega)) rfl (by rw [hob]; rfl)⟩
          ·exact gY0 hg56 rfl rfl (blt_lt rfl) rfl ⟨220, rfl, blt_lt rfl, fun st hob hE => aop_fieldAddr (av := .pt 4 0) (av' := .pt 4 3) rfl rfl rfl ft58_3 sz3 (hE 19 rfl) rfl rfl (by rw [hob]; rfl)⟩
          ·exact gY0 hg56 rfl rfl (blt_lt rfl) rfl ⟨221, rfl, blt_lt rfl, fun st hob hE => aop_ld (av := .i (((mkPts d.form).getD q dP).right)) rfl rfl rfl ag3 (hE 220 rfl) (by rw [hob]; rfl) (by rw [hob]; rfl)⟩
          ·exact gY0 hg56 rfl rfl (blt_lt rfl) rfl ⟨222, rfl, blt_lt rfl, fun st hob hE => aop_binI (u := (.bool ((SA.reverse.getD (((i : Int) - 1).toNat) 0) == (((mkPts d.form).getD q dP).right)))) rfl rfl rfl (hE 219 rfl) (hE 221 rfl) trivial rfl (by rw [hob]; rfl)⟩
          ·exact gY1 hg54 rfl rfl (blt_lt rfl) rfl ⟨223, rfl, blt_lt rfl, fun st hob hE => aop_pick (b := ((SA.reverse.getD (((i : Int) - 1).toNat) 0) == (((mkPts d.form).getD q dP).left))) (av := .b ((SA.reverse.getD (((i : Int) - 1).toNat) 0) == (((mkPts d.form).getD q dP).right))) rfl rfl rfl (hE 214 rfl) (by rw [hg56]; exact hE 222 rfl) (by rw [hob]; rfl)⟩
          ·exact gY1 hg54 rfl rfl (blt_lt rfl) rfl ⟨224, rfl, blt_lt rfl, fun st hob hE => aop_move (av := .b ((SA.reverse.getD (((i : Int) - 1).toNat) 0) == (((mkPts d.form).getD q dP).right))) (.inl rfl) rfl rfl (hE 223 rfl) (by rw [hob]; rfl)⟩
          ·exact gY0 hg59 rfl rfl (blt_lt rfl) rfl ⟨225, rfl, blt_lt rfl, fun st hob hE => aop_move (av := .sl 2 0 SA.reverse.length) (.inl rfl) rfl rfl (hE 17 rfl) (by rw [hob]; rfl)⟩
          ·exact gY0 hg59 rfl rfl (blt_lt rfl) rfl ⟨226, rfl, blt_lt rfl, fun st hob hE => aop_move (av := .i (i : Int)) (.inl rfl) rfl rfl (hE 21 rfl) (by rw [hob]; rfl)⟩
          ·exact gY0 hg59 rfl rfl (blt_lt rfl) rfl ⟨227, rfl, blt_lt rfl, fun st hob hE => aop_binI (u := (.int .i64 ((i : Int) - 1))) rfl rfl rfl (hE 226 rfl) rfl trivial (subI (by omega)) (by rw [hob]; rfl)⟩
          ·exact gY0 hg59 rfl rfl (blt_lt rfl) rfl ⟨228, rfl, blt_lt rfl, fun st hob hE => aop_ixOI rfl rfl rfl ut38 sz3 (hE 225 rfl) (hE 227 rfl) (by omega) (by first | omega | (simp; done) | decide | (simp at *; omega)) (by rw [hob]; rfl)⟩
          ·exact gY0 hg59 rfl rfl (blt_lt rfl) rfl ⟨229, rfl, blt_lt rfl, fun st hob hE => aop_ldO (f := eI) (l := SA.reverse) 0 rfl rfl rfl ag3 (hE 228 rfl) (by rw [hob]; rfl) rfl (fun _ => rfl) (by first | omega | (simp; done) | decide | (simp at *; omega)) rfl (by rw [hob]; rfl)⟩
          ·exact gY0 hg59 rfl rfl (blt_lt rfl) rfl ⟨230, rfl, blt_lt rfl, fun st hob hE => aop_fieldAddr (av := .pt 4 0) (av' := .pt 4 1) rfl rfl rfl ft58_1 sz3 (hE 19 rfl) rfl rfl (by rw [hob]; rfl)⟩
          ·exact gY0 hg59 rfl rfl (blt_lt rfl) rfl ⟨231, rfl, blt_lt rfl, fun st hob hE => aop_ld (av := .i (((mkPts d.form).getD q dP).stem)) rfl rfl rfl ag3 (hE 230 rfl) (by rw [hob]; rfl) (by rw [hob]; rfl)⟩
          ·exact gY0 hg59 rfl rfl (blt_lt rfl) rfl ⟨232, rfl, blt_lt rfl, fun st hob hE => aop_binI (u := (.bool ((SA.reverse.getD (((i : Int) - 1).toNat) 0) == (((mkPts d.form).getD q dP).stem)))) rfl rfl rfl (hE 229 rfl) (hE 231 rfl) trivial rfl (by rw [hob]; rfl)⟩
          ·exact gY1 hg54 rfl rfl (blt_lt rfl) rfl ⟨233, rfl, blt_lt rfl, fun st hob hE => aop_pick (b := ((SA.reverse.getD (((i : Int) - 1).toNat) 0) == (((mkPts d.form).getD q dP).right))) (av := .b ((SA.reverse.getD (((i : Int) - 1).toNat) 0) == (((mkPts d.form).getD q dP).stem))) rfl rfl rfl (hE 224 rfl) (by rw [hg59]; exact hE 232 rfl) (by rw [hob]; rfl)⟩
          ·exact gY0 hg51 rfl rfl (blt_lt rfl) rfl ⟨234, rfl, blt_lt rfl, fun st hob hE => aop_pick (b := (decide ((i : Int) ≥ ((wk d x).length : Int)))) (av := .b ((SA.reverse.getD (((i : Int) - 1).toNat) 0) == (((mkPts d.form).getD q dP).stem))) rfl rfl rfl (hE 205 rfl) (by rw [hg54]; exact hE 233 rfl) (by rw [hob]; rfl)⟩
          ·exact ⟨235, rfl, blt_lt rfl, fun st hob hE => aop_pick (b := ((SA.reverse.length : Int) == (SB.reverse.length : Int))) (av := .b ((SA.reverse.getD (((i : Int) - 1).toNat) 0) == (((mkPts d.form).getD q dP).stem))) rfl rfl rfl (hE 199 rfl) (by rw [hg51]; exact hE 234 rfl) (by rw [hob]; rfl)⟩
         refine opG rfl (aop_move (av := .b ((SA.reverse.getD (((i : Int) - 1).toNat) 0) == (((mkPts d.form).getD q dP).stem))) (.inr rfl) rfl rfl rfl ?_)
         refine op0 ?_
         refine awp_ret ?_
         exact fret (av := .v (.bool ((SA.reverse.getD (((i : Int) - 1).toNat) 0) == (((mkPts d.form).getD q dP).stem)))) rfl rfl (by first | rfl | (rw [leg_last hp9.2 (by omega) (by omega)]; simp))
      ·skip
       have hf62 := of_decide_eq_false hg54
       have hp9 := hpe (by omega)
       exfalso; omega
end Go.Lo
