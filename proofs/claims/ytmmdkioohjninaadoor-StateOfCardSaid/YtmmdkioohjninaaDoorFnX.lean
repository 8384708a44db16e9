/- Walks of Go functions in the logic of values. -/
import Derived.Test.YtmmdkioohjninaaDoorFnXTy
import Derived.Test.YtmmdkioohjninaaDoorDef
import Derived.Test.YtmmdkioohjninaaDoorLay
import Derived.Test.YtmmdkioohjninaaDoorSt
import Derived.Test.YtmmdkioohjninaaDoorSv
import Derived.Test.YtmmdkioohjninaaDoorSv
import Derived.Test.YtmmdkioohjninaaDoorFnA
import Derived.Test.YtmmdkioohjninaaDoorFnC
import Derived.Test.YtmmdkioohjninaaDoorFnM
import Derived.Test.YtmmdkioohjninaaDoorFnF
import Derived.Test.YtmmdkioohjninaaDoorFnS
import Derived.Test.YtmmdkioohjninaaDoorFnV
set_option linter.unusedVariables false
set_option linter.unusedSimpArgs false
namespace Go.Lo
open Go.Proofs
set_option maxRecDepth 10000 in
set_option maxHeartbeats 16000000 in
theorem l13_StateOf (d : Draft) (f : Field) (hd : DraftOk d) (hF : FieldOk f) : Fn Tryd.prog 3 [.agg [.v (.int .u8 d.form), .v (.int .u8 d.len), .v (.int .u8 d.speed), .v (.int .u16 d.mute), .v (.int .u16 d.wait), .v (.int .u8 d.cancel), .v (.int .u8 d.stay), .v (.int .u8 d.jn), .ro d.rs.length (enc eUL d.rs)], .agg [.ro f.own.length (enc eU8 f.own), .ro f.clear.length (enc eB f.clear), .ro f.looks.length (enc eLk f.looks)]] (.v (.bool true)) := by
  have hd1 := hd.form
  have hd2 := hd.len
  have hd3 := hd.speed
  have hd4 := hd.mute
  have hd5 := hd.wait
  have hd6 := hd.cancel
  have hd7 := hd.stay
  have hd8 := hd.jn
  have hd9 := hd.n
  have hmx : maxLen = 9223372036854775807 := rfl
  have hfn := hF.n
  have hfm := hF.m
  refine fnE_of_body (N := 42) Tryd.func3 rfl rfl (resOf1 rfl) (by simp) (fun w0 X hL_ => ?_)
  refine seqR ?_
  refine opG rfl (aop_box 51 rfl rfl rfl rfl rfl rfl rfl ?_)
  refine opG rfl (aop_box 52 rfl rfl rfl rfl rfl rfl rfl ?_)
  refine opG rfl (aop_move (av := .v (.bool false)) (.inr rfl) rfl rfl rfl ?_)
  refine op0 ?_
  show AWP _ _ _ _ _
  refine awp_seq ?_
  refine seqR ?_
  refine opG rfl (call_ (l13_second) rfl rfl rfl rfl rfl bd10 rfl ?_)
  refine opG rfl (aop_not rfl rfl rfl rfl ?_)
  refine opG rfl (aop_move (av := .v (.bool false)) (.inl rfl) rfl rfl rfl ?_)
  refine opY rfl rfl rfl rfl (aop_ldB (cells' := [.v (.int .u8 d.form), .v (.int .u8 d.len), .v (.int .u8 d.speed), .v (.int .u16 d.mute), .v (.int .u16 d.wait), .v (.int .u8 d.cancel), .v (.int .u8 d.stay), .v (.int .u8 d.jn), .ro d.rs.length (enc eUL d.rs)]) rfl rfl rfl ag25 sz25 rfl rfl rfl rfl ?_)
  refine opY rfl rfl rfl rfl (callW_ (r04_Small d.rs (by first | omega | (simp; done) | decide | (simp; omega) | (simp at *; omega))) rfl rfl rfl rfl rfl bd11 (lends_cons (lend_agg (lends_cons (.one _ rfl) (lends_cons (.one _ rfl) (lends_cons (.one _ rfl) (lends_cons (.one _ rfl) (lends_cons (.one _ rfl) (lends_cons (.one _ rfl) (lends_cons (.one _ rfl) (lends_cons (.one _ rfl) (lends_cons (lend_n (av := .ro d.rs.length (enc eUL d.rs))) lends_nil)))))))))) lends_nil) ?_)
  refine opY rfl rfl rfl rfl (aop_not rfl rfl rfl rfl ?_)
  refine opG rfl (aop_pick (b := false) (av := .v (.bool (!(smallB d.rs)))) rfl rfl rfl rfl rfl ?_)
  refine opG rfl (aop_move (av := .v (.bool (!(smallB d.rs)))) (.inl rfl) rfl rfl rfl ?_)
  refine aops_grp 4 19 (.v (.bool ((!(smallB d.rs)) || (!(fewB f.looks))))) ?_ ?_
  · rcases Bool.eq_false_or_eq_true (!(smallB d.rs)) with hg1 | hg1
    · skip
      have hf2 := not_t hg1
      refine opN rfl rfl rfl rfl (by show yv (.bool (!(smallB d.rs))) ≠ _; rw [hg1]; intro h; cases h) rfl rfl ?_
      refine opN rfl rfl rfl rfl (by show yv (.bool (!(smallB d.rs))) ≠ _; rw [hg1]; intro h; cases h) rfl rfl ?_
      refine opN rfl rfl rfl rfl (by show yv (.bool (!(smallB d.rs))) ≠ _; rw [hg1]; intro h; cases h) rfl rfl ?_
      refine opG rfl (aop_pick (b := (!(smallB d.rs))) rfl rfl rfl rfl (by rw [hg1] <;> rfl) ?_)
      refine op0 ?_
      exact imp_env (lee_both 19 _ _ (by rw [hg1] <;> rfl) (lee_out 18 _ rfl (lee_out 17 _ rfl (lee_out 16 _ rfl (lee_same _)))))
    · skip
      have hf3 := not_f hg1
      refine opY rfl rfl rfl (by show AV.v (.bool (!(smallB d.rs))) = _; rw [hg1]) (aop_ldB (cells' := [.ro f.own.length (enc eU8 f.own), .ro f.clear.length (enc eB f.clear), .ro f.looks.length (enc eLk f.looks)]) rfl rfl rfl ag30 sz30 rfl rfl rfl rfl ?_)
      refine opY rfl rfl rfl (by show AV.v (.bool (!(smallB d.rs))) = _; rw [hg1]) (callW_ (l13_few f.looks (by first | omega | (simp; done) | decide | (simp; omega) | (simp at *; omega))) rfl rfl rfl rfl rfl bd12 (lends_cons (lend_agg (lends_cons (.one _ rfl) (lends_cons (.one _ rfl) (lends_cons (lend_n (av := .ro f.looks.length (enc eLk f.looks))) lends_nil)))) lends_nil) ?_)
      refine opY rfl rfl rfl (by show AV.v (.bool (!(smallB d.rs))) = _; rw [hg1]) (aop_not rfl rfl rfl rfl ?_)
      refine opG rfl (aop_pick (b := (!(smallB d.rs))) rfl rfl rfl rfl (by rw [hg1] <;> rfl) ?_)
      refine op0 ?_
      exact imp_env (lee_both 19 _ _ (by rw [hg1] <;> rfl) (lee_out 18 _ rfl (lee_out 17 _ rfl (lee_out 16 _ rfl (lee_same _)))))
  refine op0 ?_
  show AWP _ _ _ _ _
  refine awp_imp ⟨(upd (upd (upd (upd none_ 2 (.pt 51 0)) 3 (.pt 52 0)) 4 (.v (.bool false))) 19 (.v (.bool ((!(smallB d.rs)) || (!(fewB f.looks)))))), (updO (updO noOb 51 (.live ⟨[.v (.int .u8 d.form), .v (.int .u8 d.len), .v (.int .u8 d.speed), .v (.int .u16 d.mute), .v (.int .u16 d.wait), .v (.int .u8 d.cancel), .v (.int .u8 d.stay), .v (.int .u8 d.jn), .ro d.rs.length (enc eUL d.rs)], 25, 1⟩)) 52 (.live ⟨[.ro f.own.length (enc eU8 f.own), .ro f.clear.length (enc eB f.clear), .ro f.looks.length (enc eLk f.looks)], 30, 1⟩))⟩ (imp_le ⟨(lee_upd 19 _ rfl (lee_upd 4 _ rfl (lee_upd 3 _ rfl (lee_upd 2 _ rfl (lee_none _))))), fun _ => .inl rfl⟩) ?_
  refine awp_cond ((!(smallB d.rs)) || (!(fewB f.looks))) rfl rfl (fun hc0 => ?_) (fun hc0 => ?_)
  · skip
    refine seqR ?_
    refine opG rfl (call_ (l13_second) rfl rfl rfl rfl rfl bd10 rfl ?_)
    refine opG rfl (aop_move (av := .v (.bool true)) (.inr rfl) rfl rfl rfl ?_)
    refine op0 ?_
    show AWP _ _ _ _ _
    refine awp_ret ?_
    exact fret (av := .v (.bool true)) rfl rfl rfl
  · skip
    obtain ⟨hf4a, hf4b⟩ := or_f hc0
    have hf5 := not_f hf4a
    have hf6 := not_f hf4b
    have hsm : smallB d.rs = true := by cases h : smallB d.rs <;> simp [h] at hc0 ⊢
    have hfw : fewB f.looks = true := by cases h : fewB f.looks <;> simp [h] at hc0 ⊢
    have hr := small_rs hsm hd.rs
    have hfi := fewB_iff hfw
    have hel := mkEnds_len d.form
    have hsl := mkSecs_len d.form d.len
    have hpf := mkParts_facts d.form d.jn
    have hlk : ∀ x, x ∈ f.looks → x.span.length ≤ 65536 ∧ (0 ≤ x.id ∧ x.id ≤ 255) ∧ ∀ y, y ∈ x.span → 0 ≤ y ∧ y ≤ 255 := fun x hx => ⟨Nat.le_trans (hfi.2 x hx) (by omega), hF.looks x hx⟩
    have hvl : (viewsL (mkSecs d.form d.len).length f.looks).length ≤ f.looks.length := viewsK_len _ _ _
    have hvs : ∀ v, v ∈ (viewsL (mkSecs d.form d.len).length f.looks) → v.span.length ≤ 65536 := fun v hv => Nat.le_trans (viewsK_span hfi.2 _ (Nat.le_refl _) hv) (by omega)
    have hol : (ownK f.own (mkParts d.form d.jn).length).length = (mkParts d.form d.jn).length := ownK_len _ _
    have how : ∀ x, x ∈ (ownK f.own (mkParts d.form d.jn).length) → -2 ≤ x := fun x hx => (ownK_range _ hx).1
    refine awp_skip ?_
    show AWP _ _ _ _ _
    refine seqR ?_
    refine opG rfl (aop_ldB (cells' := [.v (.int .u8 d.form), .v (.int .u8 d.len), .v (.int .u8 d.speed), .v (.int .u16 d.mute), .v (.int .u16 d.wait), .v (.int .u8 d.cancel), .v (.int .u8 d.stay), .v (.int .u8 d.jn), .ro d.rs.length (enc eUL d.rs)]) rfl rfl rfl ag25 sz25 rfl rfl rfl rfl ?_)
    refine opG rfl (call_ (r05_Full d.form d.len d.speed d.mute d.wait d.cancel d.stay d.jn d.rs hd1 hd2 hd3 hd4 hd5 hd6 hd7 hd8 hr.1 hr.2) rfl rfl rfl rfl rfl bd13 rfl ?_)
    refine opG rfl (aop_alloc 53 rfl rfl rfl rfl ze39 rfl ?_)
    refine opG rfl (aop_store rfl rfl rfl sz39 rfl rfl rfl rfl rfl (Nat.le_of_ble_eq_true rfl) rfl rfl ?_)
    refine op0 ?_
    show AWP _ _ _ _ _
    refine awp_imp ⟨(upd (upd (upd none_ 3 (.pt 52 0)) 4 (.v (.bool false))) 5 (.pt 53 0)), (updO (updO (updO (updO noOb 51 (.live ⟨[.v (.int .u8 d.form), .v (.int .u8 d.len), .v (.int .u8 d.speed), .v (.int .u16 d.mute), .v (.int .u16 d.wait), .v (.int .u8 d.cancel), .v (.int .u8 d.stay), .v (.int .u8 d.jn), .ro d.rs.length (enc eUL d.rs)], 25, 1⟩)) 52 (.live ⟨[.ro f.own.length (enc eU8 f.own), .ro f.clear.length (enc eB f.clear), .ro f.looks.length (enc eLk f.looks)], 30, 1⟩)) 53 (.live ⟨[.v (.slice none 0 0), .v (.slice none 0 0), .v (.slice none 0 0), .v (.slice none 0 0), .v (.slice none 0 0), .v (.int .i64 0), .v (.int .i64 0), .v (.int .i64 0), .v (.int .i64 0), .v (.int .i64 0)], 39, 1⟩)) 53 (.live ⟨[.one, .ro ((mkSecs d.form d.len).length) (enc eSec (mkSecs d.form d.len)), .ro ((mkParts d.form d.jn).length) (enc eIL (mkParts d.form d.jn)), .ro ((mkPts d.form).length) (enc ePnt (mkPts d.form)), .ro ((fullRoutes d.form d.len d.rs).length) (enc eIL (fullRoutes d.form d.len d.rs)), .v (.int .i64 (1 + d.speed % (2 * (10 * (1 + d.len % 20))))), .v (.int .i64 (1 + d.mute % 1000)), .v (.int .i64 (1 + d.wait % 1000)), .v (.int .i64 (1 + d.cancel)), .v (.int .i64 (d.stay % 4))], 39, 1⟩))⟩ (imp_le ⟨(lee_upd 5 _ rfl (lee_upd 4 _ rfl (lee_upd 3 _ rfl (lee_none _)))), fun _ => .inl rfl⟩) ?_
    refine seqR ?_
    refine opG rfl (aop_ldB (cells' := [.one, .ro ((mkSecs d.form d.len).length) (enc eSec (mkSecs d.form d.len)), .ro ((mkParts d.form d.jn).length) (enc eIL (mkParts d.form d.jn)), .ro ((mkPts d.form).length) (enc ePnt (mkPts d.form)), .ro ((fullRoutes d.form d.len d.rs).length) (enc eIL (fullRoutes d.form d.len d.rs)), .v (.int .i64 (1 + d.speed % (2 * (10 * (1 + d.len % 20))))), .v (.int .i64 (1 + d.mute % 1000)), .v (.int .i64 (1 + d.wait % 1000)), .v (.int .i64 (1 + d.cancel)), .v (.int .i64 (d.stay % 4))]) rfl rfl rfl ag39 sz39 rfl rfl rfl rfl ?_)
    refine opG rfl (aop_ldB (cells' := [.ro f.own.length (enc eU8 f.own), .ro f.clear.length (enc eB f.clear), .ro f.looks.length (enc eLk f.looks)]) rfl rfl rfl ag30 sz30 rfl rfl rfl rfl ?_)
    refine opG rfl (callW_ (l13_views (mkSecs d.form d.len) f.looks (by omega) (by omega) hlk) rfl rfl rfl rfl rfl bd14 (lends_cons (lend_agg (lends_cons (lend_n (av := .one)) (lends_cons (lend_n (av := .ro ((mkSecs d.form d.len).length) (enc eSec (mkSecs d.form d.len)))) (lends_cons (.one _ rfl) (lends_cons (.one _ rfl) (lends_cons (.one _ rfl) (lends_cons (.one _ rfl) (lends_cons (.one _ rfl) (lends_cons (.one _ rfl) (lends_cons (.one _ rfl) (lends_cons (.one _ rfl) lends_nil))))))))))) (lends_cons (lend_agg (lends_cons (.one _ rfl) (lends_cons (.one _ rfl) (lends_cons (lend_n (av := .ro f.looks.length (enc eLk f.looks))) lends_nil)))) lends_nil)) ?_)
    refine opG rfl (aop_move (av := .tup [.ro ((viewsL (mkSecs d.form d.len).length f.looks).length) (enc eV (viewsL (mkSecs d.form d.len).length f.looks)), .ro ((viewsL (mkSecs d.form d.len).length f.looks).length) (enc eV (viewsL (mkSecs d.form d.len).length f.looks))]) (.inl rfl) rfl rfl rfl ?_)
    refine opG rfl (aop_extract rfl rfl rfl rfl rfl ?_)
    refine opG rfl (aop_extract rfl rfl rfl rfl rfl ?_)
    refine opG rfl (aop_move (av := .ro ((viewsL (mkSecs d.form d.len).length f.looks).length) (enc eV (viewsL (mkSecs d.form d.len).length f.looks))) (.inr rfl) rfl rfl rfl ?_)
    refine opG rfl (aop_move (av := .ro ((viewsL (mkSecs d.form d.len).length f.looks).length) (enc eV (viewsL (mkSecs d.form d.len).length f.looks))) (.inr rfl) rfl rfl rfl ?_)
    refine op0 ?_
    show AWP _ _ _ _ _
    refine awp_imp ⟨(upd (upd (upd (upd (upd none_ 3 (.pt 52 0)) 4 (.v (.bool false))) 5 (.pt 53 0)) 6 (.ro ((viewsL (mkSecs d.form d.len).length f.looks).length) (enc eV (viewsL (mkSecs d.form d.len).length f.looks)))) 7 (.ro ((viewsL (mkSecs d.form d.len).length f.looks).length) (enc eV (viewsL (mkSecs d.form d.len).length f.looks)))), (updO (updO (updO (updO noOb 51 (.live ⟨[.v (.int .u8 d.form), .v (.int .u8 d.len), .v (.int .u8 d.speed), .v (.int .u16 d.mute), .v (.int .u16 d.wait), .v (.int .u8 d.cancel), .v (.int .u8 d.stay), .v (.int .u8 d.jn), .ro d.rs.length (enc eUL d.rs)], 25, 1⟩)) 52 (.live ⟨[.ro f.own.length (enc eU8 f.own), .ro f.clear.length (enc eB f.clear), .ro f.looks.length (enc eLk f.looks)], 30, 1⟩)) 53 (.live ⟨[.v (.slice none 0 0), .v (.slice none 0 0), .v (.slice none 0 0), .v (.slice none 0 0), .v (.slice none 0 0), .v (.int .i64 0), .v (.int .i64 0), .v (.int .i64 0), .v (.int .i64 0), .v (.int .i64 0)], 39, 1⟩)) 53 (.live ⟨[.one, .ro ((mkSecs d.form d.len).length) (enc eSec (mkSecs d.form d.len)), .ro ((mkParts d.form d.jn).length) (enc eIL (mkParts d.form d.jn)), .ro ((mkPts d.form).length) (enc ePnt (mkPts d.form)), .ro ((fullRoutes d.form d.len d.rs).length) (enc eIL (fullRoutes d.form d.len d.rs)), .v (.int .i64 (1 + d.speed % (2 * (10 * (1 + d.len % 20))))), .v (.int .i64 (1 + d.mute % 1000)), .v (.int .i64 (1 + d.wait % 1000)), .v (.int .i64 (1 + d.cancel)), .v (.int .i64 (d.stay % 4))], 39, 1⟩))⟩ (imp_le ⟨(lee_upd 7 _ rfl (lee_upd 6 _ rfl (lee_upd 5 _ rfl (lee_upd 4 _ rfl (lee_upd 3 _ rfl (lee_none _)))))), fun _ => .inl rfl⟩) ?_
    refine awp_seq ?_
    refine awp_draw (m := 13) [(41, .v (.bool (decide ((ofK (mkParts d.form d.jn) (ownK f.own (mkParts d.form d.jn).length) (viewsL (mkSecs d.form d.len).length f.looks) (mkSecs d.form d.len).length) = (ofK (mkParts d.form d.jn) (ownK f.own (mkParts d.form d.jn).length) (viewsL (mkSecs d.form d.len).length f.looks) (mkSecs d.form d.len).length))))), (40, .ro ((ofK (mkParts d.form d.jn) (ownK f.own (mkParts d.form d.jn).length) (viewsL (mkSecs d.form d.len).length f.looks) (mkSecs d.form d.len).length).length) (enc eU8 (ofK (mkParts d.form d.jn) (ownK f.own (mkParts d.form d.jn).length) (viewsL (mkSecs d.form d.len).length f.looks) (mkSecs d.form d.len).length))), (39, .ro ((viewsL (mkSecs d.form d.len).length f.looks).length) (enc eV (viewsL (mkSecs d.form d.len).length f.looks))), (38, .ro ((ownK f.own (mkParts d.form d.jn).length).length) (enc eI (ownK f.own (mkParts d.form d.jn).length))), (37, .agg [.ro f.own.length (enc eU8 f.own), .ro f.clear.length (enc eB f.clear), .ro f.looks.length (enc eLk f.looks)]), (36, .agg [.one, .ro ((mkSecs d.form d.len).length) (enc eSec (mkSecs d.form d.len)), .ro ((mkParts d.form d.jn).length) (enc eIL (mkParts d.form d.jn)), .ro ((mkPts d.form).length) (enc ePnt (mkPts d.form)), .ro ((fullRoutes d.form d.len d.rs).length) (enc eIL (fullRoutes d.form d.len d.rs)), .v (.int .i64 (1 + d.speed % (2 * (10 * (1 + d.len % 20))))), .v (.int .i64 (1 + d.mute % 1000)), .v (.int .i64 (1 + d.wait % 1000)), .v (.int .i64 (1 + d.cancel)), .v (.int .i64 (d.stay % 4))]), (35, .agg [.one, .ro ((mkSecs d.form d.len).length) (enc eSec (mkSecs d.form d.len)), .ro ((mkParts d.form d.jn).length) (enc eIL (mkParts d.form d.jn)), .ro ((mkPts d.form).length) (enc ePnt (mkPts d.form)), .ro ((fullRoutes d.form d.len d.rs).length) (enc eIL (fullRoutes d.form d.len d.rs)), .v (.int .i64 (1 + d.speed % (2 * (10 * (1 + d.len % 20))))), .v (.int .i64 (1 + d.mute % 1000)), .v (.int .i64 (1 + d.wait % 1000)), .v (.int .i64 (1 + d.cancel)), .v (.int .i64 (d.stay % 4))]), (34, .ro ((ofK (mkParts d.form d.jn) (ownK f.own (mkParts d.form d.jn).length) (viewsL (mkSecs d.form d.len).length f.looks) (mkSecs d.form d.len).length).length) (enc eU8 (ofK (mkParts d.form d.jn) (ownK f.own (mkParts d.form d.jn).length) (viewsL (mkSecs d.form d.len).length f.looks) (mkSecs d.form d.len).length))), (33, .ro ((viewsL (mkSecs d.form d.len).length f.looks).length) (enc eV (viewsL (mkSecs d.form d.len).length f.looks))), (32, .ro ((ownK f.own (mkParts d.form d.jn).length).length) (enc eI (ownK f.own (mkParts d.form d.jn).length))), (31, .agg [.ro f.own.length (enc eU8 f.own), .ro f.clear.length (enc eB f.clear), .ro f.looks.length (enc eLk f.looks)]), (30, .agg [.one, .ro ((mkSecs d.form d.len).length) (enc eSec (mkSecs d.form d.len)), .ro ((mkParts d.form d.jn).length) (enc eIL (mkParts d.form d.jn)), .ro ((mkPts d.form).length) (enc ePnt (mkPts d.form)), .ro ((fullRoutes d.form d.len d.rs).length) (enc eIL (fullRoutes d.form d.len d.rs)), .v (.int .i64 (1 + d.speed % (2 * (10 * (1 + d.len % 20))))), .v (.int .i64 (1 + d.mute % 1000)), .v (.int .i64 (1 + d.wait % 1000)), .v (.int .i64 (1 + d.cancel)), .v (.int .i64 (d.stay % 4))]), (29, .agg [.one, .ro ((mkSecs d.form d.len).length) (enc eSec (mkSecs d.form d.len)), .ro ((mkParts d.form d.jn).length) (enc eIL (mkParts d.form d.jn)), .ro ((mkPts d.form).length) (enc ePnt (mkPts d.form)), .ro ((fullRoutes d.form d.len d.rs).length) (enc eIL (fullRoutes d.form d.len d.rs)), .v (.int .i64 (1 + d.speed % (2 * (10 * (1 + d.len % 20))))), .v (.int .i64 (1 + d.mute % 1000)), .v (.int .i64 (1 + d.wait % 1000)), .v (.int .i64 (1 + d.cancel)), .v (.int .i64 (d.stay % 4))])] mixed (by kernel_rfl) ?_ ?_
    · refine ⟨?_, ?_, ?_, ?_, ?_, ?_, ?_, ?_, ?_, ?_, ?_, ?_, ?_, trivial⟩
      · exact ⟨29, rfl, blt_lt rfl, fun st hob hE => aop_ldB (cells' := [.one, .ro ((mkSecs d.form d.len).length) (enc eSec (mkSecs d.form d.len)), .ro ((mkParts d.form d.jn).length) (enc eIL (mkParts d.form d.jn)), .ro ((mkPts d.form).length) (enc ePnt (mkPts d.form)), .ro ((fullRoutes d.form d.len d.rs).length) (enc eIL (fullRoutes d.form d.len d.rs)), .v (.int .i64 (1 + d.speed % (2 * (10 * (1 + d.len % 20))))), .v (.int .i64 (1 + d.mute % 1000)), .v (.int .i64 (1 + d.wait % 1000)), .v (.int .i64 (1 + d.cancel)), .v (.int .i64 (d.stay % 4))]) rfl rfl rfl ag39 sz39 (hE 5 rfl) (by rw [hob]; rfl) rfl rfl (by rw [hob]; rfl)⟩
      · exact ⟨30, rfl, blt_lt rfl, fun st hob hE => aop_ldB (cells' := [.one, .ro ((mkSecs d.form d.len).length) (enc eSec (mkSecs d.form d.len)), .ro ((mkParts d.form d.jn).length) (enc eIL (mkParts d.form d.jn)), .ro ((mkPts d.form).length) (enc ePnt (mkPts d.form)), .ro ((fullRoutes d.form d.len d.rs).length) (enc eIL (fullRoutes d.form d.len d.rs)), .v (.int .i64 (1 + d.speed % (2 * (10 * (1 + d.len % 20))))), .v (.int .i64 (1 + d.mute % 1000)), .v (.int .i64 (1 + d.wait % 1000)), .v (.int .i64 (1 + d.cancel)), .v (.int .i64 (d.stay % 4))]) rfl rfl rfl ag39 sz39 (hE 5 rfl) (by rw [hob]; rfl) rfl rfl (by rw [hob]; rfl)⟩
      · exact ⟨31, rfl, blt_lt rfl, fun st hob hE => aop_ldB (cells' := [.ro f.own.length (enc eU8 f.own), .ro f.clear.length (enc eB f.clear), .ro f.looks.length (enc eLk f.looks)]) rfl rfl rfl ag30 sz30 (hE 3 rfl) (by rw [hob]; rfl) rfl rfl (by rw [hob]; rfl)⟩
      · exact ⟨32, rfl, blt_lt rfl, fun st hob hE => callW_ (l13_owners (mkParts d.form d.jn) f.own (by omega) hF.own) rfl rfl rfl rfl rfl bd17 (by show Lends _ ([st.env 30, st.env 31] ++ _) _; rw [hE 30 rfl, hE 31 rfl]; exact (lends_cons (lend_agg (lends_cons (lend_n (av := .one)) (lends_cons (.one _ rfl) (lends_cons (lend_n (av := .ro ((mkParts d.form d.jn).length) (enc eIL (mkParts d.form d.jn)))) (lends_cons (.one _ rfl) (lends_cons (.one _ rfl) (lends_cons (.one _ rfl) (lends_cons (.one _ rfl) (lends_cons (.one _ rfl) (lends_cons (.one _ rfl) (lends_cons (.one _ rfl) lends_nil))))))))))) (lends_cons (lend_agg (lends_cons (lend_n (av := .ro f.own.length (enc eU8 f.own))) (lends_cons (.one _ rfl) (lends_cons (.one _ rfl) lends_nil)))) lends_nil))) (by rw [hob]; rfl)⟩
      · exact ⟨33, rfl, blt_lt rfl, fun st hob hE => aop_move (av := .ro ((viewsL (mkSecs d.form d.len).length f.looks).length) (enc eV (viewsL (mkSecs d.form d.len).length f.looks))) (.inl rfl) rfl rfl (hE 6 rfl) (by rw [hob]; rfl)⟩
      · exact ⟨34, rfl, blt_lt rfl, fun st hob hE => callW_ (s_Of (mkSecs d.form d.len) (mkParts d.form d.jn) (ownK f.own (mkParts d.form d.jn).length) (viewsL (mkSecs d.form d.len).length f.looks) (by omega) (by omega) hpf.2.2 (by omega) (by omega) hvs) rfl rfl rfl rfl rfl bd16 (by show Lends _ ([st.env 29, st.env 32, st.env 33] ++ _) _; rw [hE 29 rfl, hE 32 rfl, hE 33 rfl]; exact (lends_cons (lend_agg (lends_cons (lend_n (av := .one)) (lends_cons (lend_n (av := .ro ((mkSecs d.form d.len).length) (enc eSec (mkSecs d.form d.len)))) (lends_cons (lend_n (av := .ro ((mkParts d.form d.jn).length) (enc eIL (mkParts d.form d.jn)))) (lends_cons (.one _ rfl) (lends_cons (.one _ rfl) (lends_cons (.one _ rfl) (lends_cons (.one _ rfl) (lends_cons (.one _ rfl) (lends_cons (.one _ rfl) (lends_cons (.one _ rfl) lends_nil))))))))))) (lends_cons (lend_n (av := .ro ((ownK f.own (mkParts d.form d.jn).length).length) (enc eI (ownK f.own (mkParts d.form d.jn).length)))) (lends_cons (lend_n (av := .ro ((viewsL (mkSecs d.form d.len).length f.looks).length) (enc eV (viewsL (mkSecs d.form d.len).length f.looks)))) lends_nil)))) (by rw [hob]; rfl)⟩
      · exact ⟨35, rfl, blt_lt rfl, fun st hob hE => aop_ldB (cells' := [.one, .ro ((mkSecs d.form d.len).length) (enc eSec (mkSecs d.form d.len)), .ro ((mkParts d.form d.jn).length) (enc eIL (mkParts d.form d.jn)), .ro ((mkPts d.form).length) (enc ePnt (mkPts d.form)), .ro ((fullRoutes d.form d.len d.rs).length) (enc eIL (fullRoutes d.form d.len d.rs)), .v (.int .i64 (1 + d.speed % (2 * (10 * (1 + d.len % 20))))), .v (.int .i64 (1 + d.mute % 1000)), .v (.int .i64 (1 + d.wait % 1000)), .v (.int .i64 (1 + d.cancel)), .v (.int .i64 (d.stay % 4))]) rfl rfl rfl ag39 sz39 (hE 5 rfl) (by rw [hob]; rfl) rfl rfl (by rw [hob]; rfl)⟩
      · exact ⟨36, rfl, blt_lt rfl, fun st hob hE => aop_ldB (cells' := [.one, .ro ((mkSecs d.form d.len).length) (enc eSec (mkSecs d.form d.len)), .ro ((mkParts d.form d.jn).length) (enc eIL (mkParts d.form d.jn)), .ro ((mkPts d.form).length) (enc ePnt (mkPts d.form)), .ro ((fullRoutes d.form d.len d.rs).length) (enc eIL (fullRoutes d.form d.len d.rs)), .v (.int .i64 (1 + d.speed % (2 * (10 * (1 + d.len % 20))))), .v (.int .i64 (1 + d.mute % 1000)), .v (.int .i64 (1 + d.wait % 1000)), .v (.int .i64 (1 + d.cancel)), .v (.int .i64 (d.stay % 4))]) rfl rfl rfl ag39 sz39 (hE 5 rfl) (by rw [hob]; rfl) rfl rfl (by rw [hob]; rfl)⟩
      · exact ⟨37, rfl, blt_lt rfl, fun st hob hE => aop_ldB (cells' := [.ro f.own.length (enc eU8 f.own), .ro f.clear.length (enc eB f.clear), .ro f.looks.length (enc eLk f.looks)]) rfl rfl rfl ag30 sz30 (hE 3 rfl) (by rw [hob]; rfl) rfl rfl (by rw [hob]; rfl)⟩
      · exact ⟨38, rfl, blt_lt rfl, fun st hob hE => callW_ (l13_owners (mkParts d.form d.jn) f.own (by omega) hF.own) rfl rfl rfl rfl rfl bd17 (by show Lends _ ([st.env 36, st.env 37] ++ _) _; rw [hE 36 rfl, hE 37 rfl]; exact (lends_cons (lend_agg (lends_cons (lend_n (av := .one)) (lends_cons (.one _ rfl) (lends_cons (lend_n (av := .ro ((mkParts d.form d.jn).length) (enc eIL (mkParts d.form d.jn)))) (lends_cons (.one _ rfl) (lends_cons (.one _ rfl) (lends_cons (.one _ rfl) (lends_cons (.one _ rfl) (lends_cons (.one _ rfl) (lends_cons (.one _ rfl) (lends_cons (.one _ rfl) lends_nil))))))))))) (lends_cons (lend_agg (lends_cons (lend_n (av := .ro f.own.length (enc eU8 f.own))) (lends_cons (.one _ rfl) (lends_cons (.one _ rfl) lends_nil)))) lends_nil))) (by rw [hob]; rfl)⟩
      · exact ⟨39, rfl, blt_lt rfl, fun st hob hE => aop_move (av := .ro ((viewsL (mkSecs d.form d.len).length f.looks).length) (enc eV (viewsL (mkSecs d.form d.len).length f.looks))) (.inl rfl) rfl rfl (hE 7 rfl) (by rw [hob]; rfl)⟩
      · exact ⟨40, rfl, blt_lt rfl, fun st hob hE => callW_ (r13_Of (mkSecs d.form d.len) (mkParts d.form d.jn) (ownK f.own (mkParts d.form d.jn).length) (viewsL (mkSecs d.form d.len).length f.looks) (by omega) (by omega) hpf.2.2 (by omega) (by omega) hvs how) rfl rfl rfl rfl rfl bd18 (by show Lends _ ([st.env 35, st.env 38, st.env 39] ++ _) _; rw [hE 35 rfl, hE 38 rfl, hE 39 rfl]; exact (lends_cons (lend_agg (lends_cons (lend_n (av := .one)) (lends_cons (lend_n (av := .ro ((mkSecs d.form d.len).length) (enc eSec (mkSecs d.form d.len)))) (lends_cons (lend_n (av := .ro ((mkParts d.form d.jn).length) (enc eIL (mkParts d.form d.jn)))) (lends_cons (.one _ rfl) (lends_cons (.one _ rfl) (lends_cons (.one _ rfl) (lends_cons (.one _ rfl) (lends_cons (.one _ rfl) (lends_cons (.one _ rfl) (lends_cons (.one _ rfl) lends_nil))))))))))) (lends_cons (lend_n (av := .ro ((ownK f.own (mkParts d.form d.jn).length).length) (enc eI (ownK f.own (mkParts d.form d.jn).length)))) (lends_cons (lend_n (av := .ro ((viewsL (mkSecs d.form d.len).length f.looks).length) (enc eV (viewsL (mkSecs d.form d.len).length f.looks)))) lends_nil)))) (by rw [hob]; rfl)⟩
      · exact ⟨41, rfl, blt_lt rfl, fun st hob hE => call_ (r01_Bytes (ofK (mkParts d.form d.jn) (ownK f.own (mkParts d.form d.jn).length) (viewsL (mkSecs d.form d.len).length f.looks) (mkSecs d.form d.len).length) (ofK (mkParts d.form d.jn) (ownK f.own (mkParts d.form d.jn).length) (viewsL (mkSecs d.form d.len).length f.looks) (mkSecs d.form d.len).length) (by rw [ofK_len]; omega)) rfl rfl rfl rfl rfl bd15 (by show [st.env 34, st.env 40] ++ _ = _; rw [hE 34 rfl, hE 40 rfl]; rfl) (by rw [hob]; rfl)⟩
    refine opG rfl (aop_move (av := .v (.bool (decide ((ofK (mkParts d.form d.jn) (ownK f.own (mkParts d.form d.jn).length) (viewsL (mkSecs d.form d.len).length f.looks) (mkSecs d.form d.len).length) = (ofK (mkParts d.form d.jn) (ownK f.own (mkParts d.form d.jn).length) (viewsL (mkSecs d.form d.len).length f.looks) (mkSecs d.form d.len).length))))) (.inr rfl) rfl rfl rfl ?_)
    refine op0 ?_
    show AWP _ _ _ _ _
    refine awp_ret ?_
    exact fret (av := .v (.bool (decide ((ofK (mkParts d.form d.jn) (ownK f.own (mkParts d.form d.jn).length) (viewsL (mkSecs d.form d.len).length f.looks) (mkSecs d.form d.len).length) = (ofK (mkParts d.form d.jn) (ownK f.own (mkParts d.form d.jn).length) (viewsL (mkSecs d.form d.len).length f.looks) (mkSecs d.form d.len).length))))) rfl rfl (by simp)
end Go.Lo
