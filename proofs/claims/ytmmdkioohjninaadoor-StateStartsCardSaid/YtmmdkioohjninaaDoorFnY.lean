/- Walks of Go functions in the logic of values. -/
import Derived.Test.YtmmdkioohjninaaDoorFnYTy
import Derived.Test.YtmmdkioohjninaaDoorDef
import Derived.Test.YtmmdkioohjninaaDoorLay
import Derived.Test.YtmmdkioohjninaaDoorSt
import Derived.Test.YtmmdkioohjninaaDoorSv
import Derived.Test.YtmmdkioohjninaaDoorSv
import Derived.Test.YtmmdkioohjninaaDoorFnA
import Derived.Test.YtmmdkioohjninaaDoorFnC
import Derived.Test.YtmmdkioohjninaaDoorFnM
import Derived.Test.YtmmdkioohjninaaDoorFnF
import Derived.Test.YtmmdkioohjninaaDoorFnS
import Derived.Test.YtmmdkioohjninaaDoorFnV
set_option linter.unusedVariables false
set_option linter.unusedSimpArgs false
namespace Go.Lo
open Go.Proofs
set_option maxRecDepth 10000 in
set_option maxHeartbeats 16000000 in
theorem l13_StateStarts (d : Draft) (f : Field) (hd : DraftOk d) (hF : FieldOk f) : Fn Tryd.prog 7 [.agg [.v (.int .u8 d.form), .v (.int .u8 d.len), .v (.int .u8 d.speed), .v (.int .u16 d.mute), .v (.int .u16 d.wait), .v (.int .u8 d.cancel), .v (.int .u8 d.stay), .v (.int .u8 d.jn), .ro d.rs.length (enc eUL d.rs)], .agg [.ro f.own.length (enc eU8 f.own), .ro f.clear.length (enc eB f.clear), .ro f.looks.length (enc eLk f.looks)]] (.v (.bool true)) := by
  have hd1 := hd.form
  have hd2 := hd.len
  have hd3 := hd.speed
  have hd4 := hd.mute
  have hd5 := hd.wait
  have hd6 := hd.cancel
  have hd7 := hd.stay
  have hd8 := hd.jn
  have hd9 := hd.n
  have hmx : maxLen = 9223372036854775807 := rfl
  have hfn := hF.n
  have hfm := hF.m
  refine fnE_of_body (N := 78) Tryd.func7 rfl rfl (resOf1 rfl) (by simp) (fun w0 X hL_ => ?_)
  refine seqR ?_
  refine opG rfl (aop_box 51 rfl rfl rfl rfl rfl rfl rfl ?_)
  refine opG rfl (aop_box 52 rfl rfl rfl rfl rfl rfl rfl ?_)
  refine opG rfl (aop_move (av := .v (.bool false)) (.inr rfl) rfl rfl rfl ?_)
  refine op0 ?_
  show AWP _ _ _ _ _
  refine awp_seq ?_
  refine seqR ?_
  refine opG rfl (call_ (l13_second) rfl rfl rfl rfl rfl bd10 rfl ?_)
  refine opG rfl (aop_not rfl rfl rfl rfl ?_)
  refine opG rfl (aop_move (av := .v (.bool false)) (.inl rfl) rfl rfl rfl ?_)
  refine opY rfl rfl rfl rfl (aop_ldB (cells' := [.v (.int .u8 d.form), .v (.int .u8 d.len), .v (.int .u8 d.speed), .v (.int .u16 d.mute), .v (.int .u16 d.wait), .v (.int .u8 d.cancel), .v (.int .u8 d.stay), .v (.int .u8 d.jn), .ro d.rs.length (enc eUL d.rs)]) rfl rfl rfl ag25 sz25 rfl rfl rfl rfl ?_)
  refine opY rfl rfl rfl rfl (callW_ (r04_Small d.rs (by first | omega | (simp; done) | decide | (simp; omega) | (simp at *; omega))) rfl rfl rfl rfl rfl bd11 (lends_cons (lend_agg (lends_cons (.one _ rfl) (lends_cons (.one _ rfl) (lends_cons (.one _ rfl) (lends_cons (.one _ rfl) (lends_cons (.one _ rfl) (lends_cons (.one _ rfl) (lends_cons (.one _ rfl) (lends_cons (.one _ rfl) (lends_cons (lend_n (av := .ro d.rs.length (enc eUL d.rs))) lends_nil)))))))))) lends_nil) ?_)
  refine opY rfl rfl rfl rfl (aop_not rfl rfl rfl rfl ?_)
  refine opG rfl (aop_pick (b := false) (av := .v (.bool (!(smallB d.rs)))) rfl rfl rfl rfl rfl ?_)
  refine opG rfl (aop_move (av := .v (.bool (!(smallB d.rs)))) (.inl rfl) rfl rfl rfl ?_)
  refine aops_grp 4 23 (.v (.bool ((!(smallB d.rs)) || (!(fewB f.looks))))) ?_ ?_
  · rcases Bool.eq_false_or_eq_true (!(smallB d.rs)) with hg1 | hg1
    · skip
      have hf2 := not_t hg1
      refine opN rfl rfl rfl rfl (by show yv (.bool (!(smallB d.rs))) ≠ _; rw [hg1]; intro h; cases h) rfl rfl ?_
      refine opN rfl rfl rfl rfl (by show yv (.bool (!(smallB d.rs))) ≠ _; rw [hg1]; intro h; cases h) rfl rfl ?_
      refine opN rfl rfl rfl rfl (by show yv (.bool (!(smallB d.rs))) ≠ _; rw [hg1]; intro h; cases h) rfl rfl ?_
      refine opG rfl (aop_pick (b := (!(smallB d.rs))) rfl rfl rfl rfl (by rw [hg1] <;> rfl) ?_)
      refine op0 ?_
      exact imp_env (lee_both 23 _ _ (by rw [hg1] <;> rfl) (lee_out 22 _ rfl (lee_out 21 _ rfl (lee_out 20 _ rfl (lee_same _)))))
    · skip
      have hf3 := not_f hg1
      refine opY rfl rfl rfl (by show AV.v (.bool (!(smallB d.rs))) = _; rw [hg1]) (aop_ldB (cells' := [.ro f.own.length (enc eU8 f.own), .ro f.clear.length (enc eB f.clear), .ro f.looks.length (enc eLk f.looks)]) rfl rfl rfl ag30 sz30 rfl rfl rfl rfl ?_)
      refine opY rfl rfl rfl (by show AV.v (.bool (!(smallB d.rs))) = _; rw [hg1]) (callW_ (l13_few f.looks (by first | omega | (simp; done) | decide | (simp; omega) | (simp at *; omega))) rfl rfl rfl rfl rfl bd12 (lends_cons (lend_agg (lends_cons (.one _ rfl) (lends_cons (.one _ rfl) (lends_cons (lend_n (av := .ro f.looks.length (enc eLk f.looks))) lends_nil)))) lends_nil) ?_)
      refine opY rfl rfl rfl (by show AV.v (.bool (!(smallB d.rs))) = _; rw [hg1]) (aop_not rfl rfl rfl rfl ?_)
      refine opG rfl (aop_pick (b := (!(smallB d.rs))) rfl rfl rfl rfl (by rw [hg1] <;> rfl) ?_)
      refine op0 ?_
      exact imp_env (lee_both 23 _ _ (by rw [hg1] <;> rfl) (lee_out 22 _ rfl (lee_out 21 _ rfl (lee_out 20 _ rfl (lee_same _)))))
  refine op0 ?_
  show AWP _ _ _ _ _
  refine awp_imp ⟨(upd (upd (upd (upd none_ 2 (.pt 51 0)) 3 (.pt 52 0)) 4 (.v (.bool false))) 23 (.v (.bool ((!(smallB d.rs)) || (!(fewB f.looks)))))), (updO (updO noOb 51 (.live ⟨[.v (.int .u8 d.form), .v (.int .u8 d.len), .v (.int .u8 d.speed), .v (.int .u16 d.mute), .v (.int .u16 d.wait), .v (.int .u8 d.cancel), .v (.int .u8 d.stay), .v (.int .u8 d.jn), .ro d.rs.length (enc eUL d.rs)], 25, 1⟩)) 52 (.live ⟨[.ro f.own.length (enc eU8 f.own), .ro f.clear.length (enc eB f.clear), .ro f.looks.length (enc eLk f.looks)], 30, 1⟩))⟩ (imp_le ⟨(lee_upd 23 _ rfl (lee_upd 4 _ rfl (lee_upd 3 _ rfl (lee_upd 2 _ rfl (lee_none _))))), fun _ => .inl rfl⟩) ?_
  refine awp_cond ((!(smallB d.rs)) || (!(fewB f.looks))) rfl rfl (fun hc0 => ?_) (fun hc0 => ?_)
  · skip
    refine seqR ?_
    refine opG rfl (call_ (l13_second) rfl rfl rfl rfl rfl bd10 rfl ?_)
    refine opG rfl (aop_move (av := .v (.bool true)) (.inr rfl) rfl rfl rfl ?_)
    refine op0 ?_
    show AWP _ _ _ _ _
    refine awp_ret ?_
    exact fret (av := .v (.bool true)) rfl rfl rfl
  · skip
    obtain ⟨hf4a, hf4b⟩ := or_f hc0
    have hf5 := not_f hf4a
    have hf6 := not_f hf4b
    have hsm : smallB d.rs = true := by cases h : smallB d.rs <;> simp [h] at hc0 ⊢
    have hfw : fewB f.looks = true := by cases h : fewB f.looks <;> simp [h] at hc0 ⊢
    have hr := small_rs hsm hd.rs
    have hfi := fewB_iff hfw
    have hel := mkEnds_len d.form
    have hsl := mkSecs_len d.form d.len
    have hpf := mkParts_facts d.form d.jn
    have hlk : ∀ x, x ∈ f.looks → x.span.length ≤ 65536 ∧ (0 ≤ x.id ∧ x.id ≤ 255) ∧ ∀ y, y ∈ x.span → 0 ≤ y ∧ y ≤ 255 := fun x hx => ⟨Nat.le_trans (hfi.2 x hx) (by omega), hF.looks x hx⟩
    have hvl : (viewsL (mkSecs d.form d.len).length f.looks).length ≤ f.looks.length := viewsK_len _ _ _
    have hvs : ∀ v, v ∈ (viewsL (mkSecs d.form d.len).length f.looks) → v.span.length ≤ 65536 := fun v hv => Nat.le_trans (viewsK_span hfi.2 _ (Nat.le_refl _) hv) (by omega)
    have hol : (ownK f.own (mkParts d.form d.jn).length).length = (mkParts d.form d.jn).length := ownK_len _ _
    have how : ∀ x, x ∈ (ownK f.own (mkParts d.form d.jn).length) → -2 ≤ x := fun x hx => (ownK_range _ hx).1
    have hsl_ := ofK_len (mkParts d.form d.jn) (List.replicate (mkParts d.form d.jn).length (-1 : Int)) (viewsL (mkSecs d.form d.len).length f.looks) (mkSecs d.form d.len).length
    have hrl : (List.replicate (mkParts d.form d.jn).length (-1 : Int)).length = (mkParts d.form d.jn).length := List.length_replicate
    refine awp_skip ?_
    show AWP _ _ _ _ _
    refine seqR ?_
    refine opG rfl (aop_ldB (cells' := [.v (.int .u8 d.form), .v (.int .u8 d.len), .v (.int .u8 d.speed), .v (.int .u16 d.mute), .v (.int .u16 d.wait), .v (.int .u8 d.cancel), .v (.int .u8 d.stay), .v (.int .u8 d.jn), .ro d.rs.length (enc eUL d.rs)]) rfl rfl rfl ag25 sz25 rfl rfl rfl rfl ?_)
    refine opG rfl (call_ (r05_Full d.form d.len d.speed d.mute d.wait d.cancel d.stay d.jn d.rs hd1 hd2 hd3 hd4 hd5 hd6 hd7 hd8 hr.1 hr.2) rfl rfl rfl rfl rfl bd13 rfl ?_)
    refine opG rfl (aop_alloc 53 rfl rfl rfl rfl ze39 rfl ?_)
    refine opG rfl (aop_store rfl rfl rfl sz39 rfl rfl rfl rfl rfl (Nat.le_of_ble_eq_true rfl) rfl rfl ?_)
    refine op0 ?_
    show AWP _ _ _ _ _
    refine awp_imp ⟨(upd (upd (upd none_ 3 (.pt 52 0)) 4 (.v (.bool false))) 5 (.pt 53 0)), (updO (updO (updO (updO noOb 51 (.live ⟨[.v (.int .u8 d.form), .v (.int .u8 d.len), .v (.int .u8 d.speed), .v (.int .u16 d.mute), .v (.int .u16 d.wait), .v (.int .u8 d.cancel), .v (.int .u8 d.stay), .v (.int .u8 d.jn), .ro d.rs.length (enc eUL d.rs)], 25, 1⟩)) 52 (.live ⟨[.ro f.own.length (enc eU8 f.own), .ro f.clear.length (enc eB f.clear), .ro f.looks.length (enc eLk f.looks)], 30, 1⟩)) 53 (.live ⟨[.v (.slice none 0 0), .v (.slice none 0 0), .v (.slice none 0 0), .v (.slice none 0 0), .v (.slice none 0 0), .v (.int .i64 0), .v (.int .i64 0), .v (.int .i64 0), .v (.int .i64 0), .v (.int .i64 0)], 39, 1⟩)) 53 (.live ⟨[.one, .ro ((mkSecs d.form d.len).length) (enc eSec (mkSecs d.form d.len)), .ro ((mkParts d.form d.jn).length) (enc eIL (mkParts d.form d.jn)), .ro ((mkPts d.form).length) (enc ePnt (mkPts d.form)), .ro ((fullRoutes d.form d.len d.rs).length) (enc eIL (fullRoutes d.form d.len d.rs)), .v (.int .i64 (1 + d.speed % (2 * (10 * (1 + d.len % 20))))), .v (.int .i64 (1 + d.mute % 1000)), .v (.int .i64 (1 + d.wait % 1000)), .v (.int .i64 (1 + d.cancel)), .v (.int .i64 (d.stay % 4))], 39, 1⟩))⟩ (imp_le ⟨(lee_upd 5 _ rfl (lee_upd 4 _ rfl (lee_upd 3 _ rfl (lee_none _)))), fun _ => .inl rfl⟩) ?_
    refine seqR ?_
    refine opG rfl (aop_ldB (cells' := [.one, .ro ((mkSecs d.form d.len).length) (enc eSec (mkSecs d.form d.len)), .ro ((mkParts d.form d.jn).length) (enc eIL (mkParts d.form d.jn)), .ro ((mkPts d.form).length) (enc ePnt (mkPts d.form)), .ro ((fullRoutes d.form d.len d.rs).length) (enc eIL (fullRoutes d.form d.len d.rs)), .v (.int .i64 (1 + d.speed % (2 * (10 * (1 + d.len % 20))))), .v (.int .i64 (1 + d.mute % 1000)), .v (.int .i64 (1 + d.wait % 1000)), .v (.int .i64 (1 + d.cancel)), .v (.int .i64 (d.stay % 4))]) rfl rfl rfl ag39 sz39 rfl rfl rfl rfl ?_)
    refine opG rfl (aop_ldB (cells' := [.ro f.own.length (enc eU8 f.own), .ro f.clear.length (enc eB f.clear), .ro f.looks.length (enc eLk f.looks)]) rfl rfl rfl ag30 sz30 rfl rfl rfl rfl ?_)
    refine opG rfl (callW_ (l13_views (mkSecs d.form d.len) f.looks (by omega) (by omega) hlk) rfl rfl rfl rfl rfl bd14 (lends_cons (lend_agg (lends_cons (lend_n (av := .one)) (lends_cons (lend_n (av := .ro ((mkSecs d.form d.len).length) (enc eSec (mkSecs d.form d.len)))) (lends_cons (.one _ rfl) (lends_cons (.one _ rfl) (lends_cons (.one _ rfl) (lends_cons (.one _ rfl) (lends_cons (.one _ rfl) (lends_cons (.one _ rfl) (lends_cons (.one _ rfl) (lends_cons (.one _ rfl) lends_nil))))))))))) (lends_cons (lend_agg (lends_cons (.one _ rfl) (lends_cons (.one _ rfl) (lends_cons (lend_n (av := .ro f.looks.length (enc eLk f.looks))) lends_nil)))) lends_nil)) ?_)
    refine opG rfl (aop_move (av := .tup [.ro ((viewsL (mkSecs d.form d.len).length f.looks).length) (enc eV (viewsL (mkSecs d.form d.len).length f.looks)), .ro ((viewsL (mkSecs d.form d.len).length f.looks).length) (enc eV (viewsL (mkSecs d.form d.len).length f.looks))]) (.inl rfl) rfl rfl rfl ?_)
    refine opG rfl (aop_extract rfl rfl rfl rfl rfl ?_)
    refine opG rfl (aop_extract rfl rfl rfl rfl rfl ?_)
    refine opG rfl (aop_move (av := .ro ((viewsL (mkSecs d.form d.len).length f.looks).length) (enc eV (viewsL (mkSecs d.form d.len).length f.looks))) (.inr rfl) rfl rfl rfl ?_)
    refine opG rfl (aop_move (av := .ro ((viewsL (mkSecs d.form d.len).length f.looks).length) (enc eV (viewsL (mkSecs d.form d.len).length f.looks))) (.inr rfl) rfl rfl rfl ?_)
    refine op0 ?_
    show AWP _ _ _ _ _
    refine awp_imp ⟨(upd (upd (upd (upd none_ 4 (.v (.bool false))) 5 (.pt 53 0)) 6 (.ro ((viewsL (mkSecs d.form d.len).length f.looks).length) (enc eV (viewsL (mkSecs d.form d.len).length f.looks)))) 7 (.ro ((viewsL (mkSecs d.form d.len).length f.looks).length) (enc eV (viewsL (mkSecs d.form d.len).length f.looks)))), (updO (updO (updO (updO noOb 51 (.live ⟨[.v (.int .u8 d.form), .v (.int .u8 d.len), .v (.int .u8 d.speed), .v (.int .u16 d.mute), .v (.int .u16 d.wait), .v (.int .u8 d.cancel), .v (.int .u8 d.stay), .v (.int .u8 d.jn), .ro d.rs.length (enc eUL d.rs)], 25, 1⟩)) 52 (.live ⟨[.ro f.own.length (enc eU8 f.own), .ro f.clear.length (enc eB f.clear), .ro f.looks.length (enc eLk f.looks)], 30, 1⟩)) 53 (.live ⟨[.v (.slice none 0 0), .v (.slice none 0 0), .v (.slice none 0 0), .v (.slice none 0 0), .v (.slice none 0 0), .v (.int .i64 0), .v (.int .i64 0), .v (.int .i64 0), .v (.int .i64 0), .v (.int .i64 0)], 39, 1⟩)) 53 (.live ⟨[.one, .ro ((mkSecs d.form d.len).length) (enc eSec (mkSecs d.form d.len)), .ro ((mkParts d.form d.jn).length) (enc eIL (mkParts d.form d.jn)), .ro ((mkPts d.form).length) (enc ePnt (mkPts d.form)), .ro ((fullRoutes d.form d.len d.rs).length) (enc eIL (fullRoutes d.form d.len d.rs)), .v (.int .i64 (1 + d.speed % (2 * (10 * (1 + d.len % 20))))), .v (.int .i64 (1 + d.mute % 1000)), .v (.int .i64 (1 + d.wait % 1000)), .v (.int .i64 (1 + d.cancel)), .v (.int .i64 (d.stay % 4))], 39, 1⟩))⟩ (imp_le ⟨(lee_upd 7 _ rfl (lee_upd 6 _ rfl (lee_upd 5 _ rfl (lee_upd 4 _ rfl (lee_none _))))), fun _ => .inl rfl⟩) ?_
    refine awp_seq ?_
    refine awp_draw (m := 7) [(39, .ro ((ofK (mkParts d.form d.jn) (List.replicate ((mkParts d.form d.jn).length) (-1)) (viewsL (mkSecs d.form d.len).length f.looks) (mkSecs d.form d.len).length).length) (enc eU8 (ofK (mkParts d.form d.jn) (List.replicate ((mkParts d.form d.jn).length) (-1)) (viewsL (mkSecs d.form d.len).length f.looks) (mkSecs d.form d.len).length))), (38, .ro ((viewsL (mkSecs d.form d.len).length f.looks).length) (enc eV (viewsL (mkSecs d.form d.len).length f.looks))), (37, .ro ((List.replicate ((mkParts d.form d.jn).length) (-1 : Int)).length) (enc eI (List.replicate ((mkParts d.form d.jn).length) (-1)))), (36, .v (.int .i64 ((mkParts d.form d.jn).length : Int))), (35, .ro ((mkParts d.form d.jn).length) (enc eIL (mkParts d.form d.jn))), (34, .pt 53 2), (33, .agg [.one, .ro ((mkSecs d.form d.len).length) (enc eSec (mkSecs d.form d.len)), .ro ((mkParts d.form d.jn).length) (enc eIL (mkParts d.form d.jn)), .ro ((mkPts d.form).length) (enc ePnt (mkPts d.form)), .ro ((fullRoutes d.form d.len d.rs).length) (enc eIL (fullRoutes d.form d.len d.rs)), .v (.int .i64 (1 + d.speed % (2 * (10 * (1 + d.len % 20))))), .v (.int .i64 (1 + d.mute % 1000)), .v (.int .i64 (1 + d.wait % 1000)), .v (.int .i64 (1 + d.cancel)), .v (.int .i64 (d.stay % 4))])] mixed (by kernel_rfl) ?_ ?_
    · refine ⟨?_, ?_, ?_, ?_, ?_, ?_, ?_, trivial⟩
      · exact ⟨33, rfl, blt_lt rfl, fun st hob hE => aop_ldB (cells' := [.one, .ro ((mkSecs d.form d.len).length) (enc eSec (mkSecs d.form d.len)), .ro ((mkParts d.form d.jn).length) (enc eIL (mkParts d.form d.jn)), .ro ((mkPts d.form).length) (enc ePnt (mkPts d.form)), .ro ((fullRoutes d.form d.len d.rs).length) (enc eIL (fullRoutes d.form d.len d.rs)), .v (.int .i64 (1 + d.speed % (2 * (10 * (1 + d.len % 20))))), .v (.int .i64 (1 + d.mute % 1000)), .v (.int .i64 (1 + d.wait % 1000)), .v (.int .i64 (1 + d.cancel)), .v (.int .i64 (d.stay % 4))]) rfl rfl rfl ag39 sz39 (hE 5 rfl) (by rw [hob]; rfl) rfl rfl (by rw [hob]; rfl)⟩
      · exact ⟨34, rfl, blt_lt rfl, fun st hob hE => aop_fieldAddr (av := .pt 53 0) (av' := .pt 53 2) rfl rfl rfl ft39_2 sz36 (hE 5 rfl) rfl rfl (by rw [hob]; rfl)⟩
      · exact ⟨35, rfl, blt_lt rfl, fun st hob hE => aop_ld (av := .ro ((mkParts d.form d.jn).length) (enc eIL (mkParts d.form d.jn))) rfl rfl rfl ag36 (hE 34 rfl) (by rw [hob]; rfl) (by rw [hob]; rfl)⟩
      · exact ⟨36, rfl, blt_lt rfl, fun st hob hE => aop_len rfl rfl rfl rfl ut36 (len_ro (hE 35 rfl)) (by rw [hob]; rfl)⟩
      · exact ⟨37, rfl, blt_lt rfl, fun st hob hE => call_ (o_Start (mkParts d.form d.jn).length (by omega)) rfl rfl rfl rfl rfl bd24 (by show [st.env 36] ++ _ = _; rw [hE 36 rfl]; rfl) (by rw [hob]; rfl)⟩
      · exact ⟨38, rfl, blt_lt rfl, fun st hob hE => aop_move (av := .ro ((viewsL (mkSecs d.form d.len).length f.looks).length) (enc eV (viewsL (mkSecs d.form d.len).length f.looks))) (.inl rfl) rfl rfl (hE 6 rfl) (by rw [hob]; rfl)⟩
      · exact ⟨39, rfl, blt_lt rfl, fun st hob hE => callW_ (s_Of (mkSecs d.form d.len) (mkParts d.form d.jn) (List.replicate (mkParts d.form d.jn).length (-1 : Int)) (viewsL (mkSecs d.form d.len).length f.looks) (by omega) (by omega) hpf.2.2 (by omega) (by omega) hvs) rfl rfl rfl rfl rfl bd16 (by show Lends _ ([st.env 33, st.env 37, st.env 38] ++ _) _; rw [hE 33 rfl, hE 37 rfl, hE 38 rfl]; exact (lends_cons (lend_agg (lends_cons (lend_n (av := .one)) (lends_cons (lend_n (av := .ro ((mkSecs d.form d.len).length) (enc eSec (mkSecs d.form d.len)))) (lends_cons (lend_n (av := .ro ((mkParts d.form d.jn).length) (enc eIL (mkParts d.form d.jn)))) (lends_cons (.one _ rfl) (lends_cons (.one _ rfl) (lends_cons (.one _ rfl) (lends_cons (.one _ rfl) (lends_cons (.one _ rfl) (lends_cons (.one _ rfl) (lends_cons (.one _ rfl) lends_nil))))))))))) (lends_cons (lend_n (av := .ro ((List.replicate ((mkParts d.form d.jn).length) (-1 : Int)).length) (enc eI (List.replicate ((mkParts d.form d.jn).length) (-1))))) (lends_cons (lend_n (av := .ro ((viewsL (mkSecs d.form d.len).length f.looks).length) (enc eV (viewsL (mkSecs d.form d.len).length f.looks)))) lends_nil)))) (by rw [hob]; rfl)⟩
    refine opG rfl (aop_move (av := .ro ((ofK (mkParts d.form d.jn) (List.replicate ((mkParts d.form d.jn).length) (-1)) (viewsL (mkSecs d.form d.len).length f.looks) (mkSecs d.form d.len).length).length) (enc eU8 (ofK (mkParts d.form d.jn) (List.replicate ((mkParts d.form d.jn).length) (-1)) (viewsL (mkSecs d.form d.len).length f.looks) (mkSecs d.form d.len).length))) (.inr rfl) rfl rfl rfl ?_)
    refine op0 ?_
    show AWP _ _ _ _ _
    refine awp_seq ?_
    refine seqR ?_
    refine opG rfl (aop_move (av := .v (.int .i64 0)) (.inr rfl) rfl rfl rfl ?_)
    refine op0 ?_
    show AWP _ _ _ _ _
    refine awp_block ?_
    refine awp_countI (fun i => ⟨(upd (upd (upd (upd (upd none_ 4 (.v (.bool false))) 5 (.pt 1 0)) 7 (.ro ((viewsL (mkSecs d.form d.len).length f.looks).length) (enc eV (viewsL (mkSecs d.form d.len).length f.looks)))) 8 (.ro ((ofK (mkParts d.form d.jn) (List.replicate ((mkParts d.form d.jn).length) (-1)) (viewsL (mkSecs d.form d.len).length f.looks) (mkSecs d.form d.len).length).length) (enc eU8 (ofK (mkParts d.form d.jn) (List.replicate ((mkParts d.form d.jn).length) (-1)) (viewsL (mkSecs d.form d.len).length f.looks) (mkSecs d.form d.len).length)))) 9 (.v (.int .i64 (i : Int)))), (updO noOb 1 (.live ⟨[.one, .ro ((mkSecs d.form d.len).length) (enc eSec (mkSecs d.form d.len)), .ro ((mkParts d.form d.jn).length) (enc eIL (mkParts d.form d.jn)), .ro ((mkPts d.form).length) (enc ePnt (mkPts d.form)), .ro ((fullRoutes d.form d.len d.rs).length) (enc eIL (fullRoutes d.form d.len d.rs)), .v (.int .i64 (1 + d.speed % (2 * (10 * (1 + d.len % 20))))), .v (.int .i64 (1 + d.mute % 1000)), .v (.int .i64 (1 + d.wait % 1000)), .v (.int .i64 (1 + d.cancel)), .v (.int .i64 (d.stay % 4))], 39, 1⟩))⟩) (fun i => True) ((mkSecs d.form d.len).length) ?_ trivial (fun i hk_i hinv => ?_)
    · skip
      exact imp_ler [(53, 1)] (ler1 53 1 _ _ rfl rfl (NoIL.out (l := [.one, .ro ((mkSecs d.form d.len).length) (enc eSec (mkSecs d.form d.len)), .ro ((mkParts d.form d.jn).length) (enc eIL (mkParts d.form d.jn)), .ro ((mkPts d.form).length) (enc ePnt (mkPts d.form)), .ro ((fullRoutes d.form d.len d.rs).length) (enc eIL (fullRoutes d.form d.len d.rs)), .v (.int .i64 (1 + d.speed % (2 * (10 * (1 + d.len % 20))))), .v (.int .i64 (1 + d.mute % 1000)), .v (.int .i64 (1 + d.wait % 1000)), .v (.int .i64 (1 + d.cancel)), .v (.int .i64 (d.stay % 4))])) (sr_same 9 (.v (.int .i64 (0 : Int))) rfl NoI.out (sr_same 8 (.ro ((ofK (mkParts d.form d.jn) (List.replicate ((mkParts d.form d.jn).length) (-1)) (viewsL (mkSecs d.form d.len).length f.looks) (mkSecs d.form d.len).length).length) (enc eU8 (ofK (mkParts d.form d.jn) (List.replicate ((mkParts d.form d.jn).length) (-1)) (viewsL (mkSecs d.form d.len).length f.looks) (mkSecs d.form d.len).length))) rfl NoI.out (sr_same 7 (.ro ((viewsL (mkSecs d.form d.len).length f.looks).length) (enc eV (viewsL (mkSecs d.form d.len).length f.looks))) rfl NoI.out (sr_map 5 (.pt 1 0) (by first | exact Ok.sl _ _ _ (by first | decide | simp) | exact Ok.pt _ _ (by first | decide | simp)) rfl (sr_same 4 (.v (.bool false)) rfl NoI.out sr_none)))))) (keep_of rfl)
    refine awp_seq ?_
    refine seqR ?_
    refine opG rfl (aop_move (av := .v (.int .i64 (i : Int))) (.inl rfl) rfl rfl rfl ?_)
    refine opG rfl (aop_fieldAddr (av := .pt 1 0) (av' := .pt 1 1) rfl rfl rfl ft39_1 sz35 rfl rfl rfl ?_)
    refine opG rfl (aop_ld (av := .ro ((mkSecs d.form d.len).length) (enc eSec (mkSecs d.form d.len))) rfl rfl rfl ag35 rfl rfl ?_)
    refine opG rfl (aop_len rfl rfl rfl rfl ut35 (len_ro rfl) ?_)
    refine opG rfl (aop_binI (u := (.bool (decide ((i : Int) < ((mkSecs d.form d.len).length : Int))))) rfl rfl rfl rfl rfl trivial rfl ?_)
    refine op0 ?_
    show AWP _ _ _ _ _
    refine awp_imp ⟨(upd (upd (upd (upd (upd (upd none_ 4 (.v (.bool false))) 5 (.pt 1 0)) 7 (.ro ((viewsL (mkSecs d.form d.len).length f.looks).length) (enc eV (viewsL (mkSecs d.form d.len).length f.looks)))) 8 (.ro ((ofK (mkParts d.form d.jn) (List.replicate ((mkParts d.form d.jn).length) (-1)) (viewsL (mkSecs d.form d.len).length f.looks) (mkSecs d.form d.len).length).length) (enc eU8 (ofK (mkParts d.form d.jn) (List.replicate ((mkParts d.form d.jn).length) (-1)) (viewsL (mkSecs d.form d.len).length f.looks) (mkSecs d.form d.len).length)))) 9 (.v (.int .i64 (i : Int)))) 44 (.v (.bool (decide ((i : Int) < ((mkSecs d.form d.len).length : Int)))))), (updO noOb 1 (.live ⟨[.one, .ro ((mkSecs d.form d.len).length) (enc eSec (mkSecs d.form d.len)), .ro ((mkParts d.form d.jn).length) (enc eIL (mkParts d.form d.jn)), .ro ((mkPts d.form).length) (enc ePnt (mkPts d.form)), .ro ((fullRoutes d.form d.len d.rs).length) (enc eIL (fullRoutes d.form d.len d.rs)), .v (.int .i64 (1 + d.speed % (2 * (10 * (1 + d.len % 20))))), .v (.int .i64 (1 + d.mute % 1000)), .v (.int .i64 (1 + d.wait % 1000)), .v (.int .i64 (1 + d.cancel)), .v (.int .i64 (d.stay % 4))], 39, 1⟩))⟩ (imp_le ⟨(lee_upd 44 _ rfl (lee_upd 9 _ rfl (lee_upd 8 _ rfl (lee_upd 7 _ rfl (lee_upd 5 _ rfl (lee_upd 4 _ rfl (lee_none _))))))), fun _ => .inl rfl⟩) ?_
    refine awp_cond (decide ((i : Int) < ((mkSecs d.form d.len).length : Int))) rfl rfl (fun hc1 => ?_) (fun hc1 => ?_)
    · skip
      have hf7 := of_decide_eq_true hc1
      refine awp_skip ?_
      show AWP _ _ _ _ _
      refine awp_seq ?_
      refine awp_block ?_
      refine seqR ?_
      refine opG rfl (aop_move (av := .v (.int .u8 3)) (.inr rfl) rfl rfl rfl ?_)
      refine op0 ?_
      show AWP _ _ _ _ _
      refine awp_seq ?_
      refine seqR ?_
      refine opG rfl (aop_move (av := .v (.int .i64 0)) (.inr rfl) rfl rfl rfl ?_)
      refine op0 ?_
      show AWP _ _ _ _ _
      refine awp_block ?_
      refine awp_countI (fun k => ⟨(upd (upd (upd (upd (upd (upd (upd none_ 4 (.v (.bool false))) 5 (.pt 1 0)) 7 (.ro ((viewsL (mkSecs d.form d.len).length f.looks).length) (enc eV (viewsL (mkSecs d.form d.len).length f.looks)))) 8 (.ro ((ofK (mkParts d.form d.jn) (List.replicate ((mkParts d.form d.jn).length) (-1)) (viewsL (mkSecs d.form d.len).length f.looks) (mkSecs d.form d.len).length).length) (enc eU8 (ofK (mkParts d.form d.jn) (List.replicate ((mkParts d.form d.jn).length) (-1)) (viewsL (mkSecs d.form d.len).length f.looks) (mkSecs d.form d.len).length)))) 9 (.v (.int .i64 (i : Int)))) 10 (.v (.int .u8 (s2 (viewsL (mkSecs d.form d.len).length f.looks) (i : Int) k)))) 11 (.v (.int .i64 (k : Int)))), (updO noOb 1 (.live ⟨[.one, .ro ((mkSecs d.form d.len).length) (enc eSec (mkSecs d.form d.len)), .ro ((mkParts d.form d.jn).length) (enc eIL (mkParts d.form d.jn)), .ro ((mkPts d.form).length) (enc ePnt (mkPts d.form)), .ro ((fullRoutes d.form d.len d.rs).length) (enc eIL (fullRoutes d.form d.len d.rs)), .v (.int .i64 (1 + d.speed % (2 * (10 * (1 + d.len % 20))))), .v (.int .i64 (1 + d.mute % 1000)), .v (.int .i64 (1 + d.wait % 1000)), .v (.int .i64 (1 + d.cancel)), .v (.int .i64 (d.stay % 4))], 39, 1⟩))⟩) (fun k => True) ((viewsL (mkSecs d.form d.len).length f.looks).length) ?_ trivial (fun k hk_k hinv => ?_)
      · skip
        exact imp_ler [(1, 1)] (ler1 1 1 _ _ rfl rfl (NoIL.out (l := [.one, .ro ((mkSecs d.form d.len).length) (enc eSec (mkSecs d.form d.len)), .ro ((mkParts d.form d.jn).length) (enc eIL (mkParts d.form d.jn)), .ro ((mkPts d.form).length) (enc ePnt (mkPts d.form)), .ro ((fullRoutes d.form d.len d.rs).length) (enc eIL (fullRoutes d.form d.len d.rs)), .v (.int .i64 (1 + d.speed % (2 * (10 * (1 + d.len % 20))))), .v (.int .i64 (1 + d.mute % 1000)), .v (.int .i64 (1 + d.wait % 1000)), .v (.int .i64 (1 + d.cancel)), .v (.int .i64 (d.stay % 4))])) (sr_same 11 (.v (.int .i64 (0 : Int))) rfl NoI.out (sr_same 10 (.v (.int .u8 (s2 (viewsL (mkSecs d.form d.len).length f.looks) (i : Int) 0))) rfl NoI.out (sr_same 9 (.v (.int .i64 (i : Int))) rfl NoI.out (sr_same 8 (.ro ((ofK (mkParts d.form d.jn) (List.replicate ((mkParts d.form d.jn).length) (-1)) (viewsL (mkSecs d.form d.len).length f.looks) (mkSecs d.form d.len).length).length) (enc eU8 (ofK (mkParts d.form d.jn) (List.replicate ((mkParts d.form d.jn).length) (-1)) (viewsL (mkSecs d.form d.len).length f.looks) (mkSecs d.form d.len).length))) rfl NoI.out (sr_same 7 (.ro ((viewsL (mkSecs d.form d.len).length f.looks).length) (enc eV (viewsL (mkSecs d.form d.len).length f.looks))) rfl NoI.out (sr_map 5 (.pt 1 0) (by first | exact Ok.sl _ _ _ (by first | decide | simp) | exact Ok.pt _ _ (by first | decide | simp)) rfl (sr_same 4 (.v (.bool false)) rfl NoI.out sr_none)))))))) (keep_of rfl)
      refine awp_seq ?_
      refine seqR ?_
      refine opG rfl (aop_move (av := .v (.int .i64 (k : Int))) (.inl rfl) rfl rfl rfl ?_)
      refine opG rfl (aop_move (av := .ro ((viewsL (mkSecs d.form d.len).length f.looks).length) (enc eV (viewsL (mkSecs d.form d.len).length f.looks))) (.inl rfl) rfl rfl rfl ?_)
      refine opG rfl (aop_len rfl rfl rfl rfl ut42 (len_ro rfl) ?_)
      refine opG rfl (aop_binI (u := (.bool (decide ((k : Int) < ((viewsL (mkSecs d.form d.len).length f.looks).length : Int))))) rfl rfl rfl rfl rfl trivial rfl ?_)
      refine op0 ?_
      show AWP _ _ _ _ _
      refine awp_imp ⟨(upd (upd (upd (upd (upd (upd (upd (upd none_ 4 (.v (.bool false))) 5 (.pt 1 0)) 7 (.ro ((viewsL (mkSecs d.form d.len).length f.looks).length) (enc eV (viewsL (mkSecs d.form d.len).length f.looks)))) 8 (.ro ((ofK (mkParts d.form d.jn) (List.replicate ((mkParts d.form d.jn).length) (-1)) (viewsL (mkSecs d.form d.len).length f.looks) (mkSecs d.form d.len).length).length) (enc eU8 (ofK (mkParts d.form d.jn) (List.replicate ((mkParts d.form d.jn).length) (-1)) (viewsL (mkSecs d.form d.len).length f.looks) (mkSecs d.form d.len).length)))) 9 (.v (.int .i64 (i : Int)))) 10 (.v (.int .u8 (s2 (viewsL (mkSecs d.form d.len).length f.looks) (i : Int) k)))) 11 (.v (.int .i64 (k : Int)))) 50 (.v (.bool (decide ((k : Int) < ((viewsL (mkSecs d.form d.len).length f.looks).length : Int)))))), (updO noOb 1 (.live ⟨[.one, .ro ((mkSecs d.form d.len).length) (enc eSec (mkSecs d.form d.len)), .ro ((mkParts d.form d.jn).length) (enc eIL (mkParts d.form d.jn)), .ro ((mkPts d.form).length) (enc ePnt (mkPts d.form)), .ro ((fullRoutes d.form d.len d.rs).length) (enc eIL (fullRoutes d.form d.len d.rs)), .v (.int .i64 (1 + d.speed % (2 * (10 * (1 + d.len % 20))))), .v (.int .i64 (1 + d.mute % 1000)), .v (.int .i64 (1 + d.wait % 1000)), .v (.int .i64 (1 + d.cancel)), .v (.int .i64 (d.stay % 4))], 39, 1⟩))⟩ (imp_le ⟨(lee_upd 50 _ rfl (lee_upd 11 _ rfl (lee_upd 10 _ rfl (lee_upd 9 _ rfl (lee_upd 8 _ rfl (lee_upd 7 _ rfl (lee_upd 5 _ rfl (lee_upd 4 _ rfl (lee_none _))))))))), fun _ => .inl rfl⟩) ?_
      refine awp_cond (decide ((k : Int) < ((viewsL (mkSecs d.form d.len).length f.looks).length : Int))) rfl rfl (fun hc2 => ?_) (fun hc2 => ?_)
      · skip
        have hf8 := of_decide_eq_true hc2
        have hvk := hvs _ (getD_mem (l := (viewsL (mkSecs d.form d.len).length f.looks)) (k := k) dV (by omega))
        refine awp_skip ?_
        show AWP _ _ _ _ _
        refine awp_seq ?_
        refine awp_block ?_
        refine seqR ?_
        refine opG rfl (aop_move (av := .ro ((viewsL (mkSecs d.form d.len).length f.looks).length) (enc eV (viewsL (mkSecs d.form d.len).length f.looks))) (.inl rfl) rfl rfl rfl ?_)
        refine opG rfl (aop_move (av := .v (.int .i64 (k : Int))) (.inl rfl) rfl rfl rfl ?_)
        refine opG rfl (aop_ixE dV rfl rfl rfl ut42 sz53 rfl rfl (fun _ => rfl) rfl (by first | omega | (simp; done) | decide | (simp; omega) | (simp at *; omega)) ?_)
        refine opG rfl (aop_fieldAddr (av := .rp (([.v (.int .i64 (((viewsL (mkSecs d.form d.len).length f.looks).getD k dV).id)), .v (.bool (((viewsL (mkSecs d.form d.len).length f.looks).getD k dV).sure)), .ro (((viewsL (mkSecs d.form d.len).length f.looks).getD k dV).span.length) (enc eI (((viewsL (mkSecs d.form d.len).length f.looks).getD k dV).span))] : List AV) ++ ((enc eV (viewsL (mkSecs d.form d.len).length f.looks)).drop ((k + 1) * 3)))) (av' := .rp (([.ro (((viewsL (mkSecs d.form d.len).length f.looks).getD k dV).span.length) (enc eI (((viewsL (mkSecs d.form d.len).length f.looks).getD k dV).span))] : List AV) ++ ((enc eV (viewsL (mkSecs d.form d.len).length f.looks)).drop ((k + 1) * 3)))) rfl rfl rfl ft53_2 sz47 rfl rfl rfl ?_)
        refine opG rfl (aop_ld (av := .ro (((viewsL (mkSecs d.form d.len).length f.looks).getD k dV).span.length) (enc eI (((viewsL (mkSecs d.form d.len).length f.looks).getD k dV).span))) rfl rfl rfl ag47 rfl rfl ?_)
        refine opG rfl (aop_move (av := .v (.int .i64 (i : Int))) (.inl rfl) rfl rfl rfl ?_)
        refine opG rfl (call_ (r01_Has (((viewsL (mkSecs d.form d.len).length f.looks).getD k dV).span) (i : Int) (by first | omega | (simp; done) | decide | (simp; omega) | (simp at *; omega))) rfl rfl rfl rfl rfl bd21 rfl ?_)
        refine op0 ?_
        show AWP _ _ _ _ _
        refine awp_imp ⟨(upd (upd (upd (upd (upd (upd (upd (upd none_ 4 (.v (.bool false))) 5 (.pt 1 0)) 7 (.ro ((viewsL (mkSecs d.form d.len).length f.looks).length) (enc eV (viewsL (mkSecs d.form d.len).length f.looks)))) 8 (.ro ((ofK (mkParts d.form d.jn) (List.replicate ((mkParts d.form d.jn).length) (-1)) (viewsL (mkSecs d.form d.len).length f.looks) (mkSecs d.form d.len).length).length) (enc eU8 (ofK (mkParts d.form d.jn) (List.replicate ((mkParts d.form d.jn).length) (-1)) (viewsL (mkSecs d.form d.len).length f.looks) (mkSecs d.form d.len).length)))) 9 (.v (.int .i64 (i : Int)))) 10 (.v (.int .u8 (s2 (viewsL (mkSecs d.form d.len).length f.looks) (i : Int) k)))) 11 (.v (.int .i64 (k : Int)))) 59 (.v (.bool (decide ((i : Int) ∈ (((viewsL (mkSecs d.form d.len).length f.looks).getD k dV).span)))))), (updO noOb 1 (.live ⟨[.one, .ro ((mkSecs d.form d.len).length) (enc eSec (mkSecs d.form d.len)), .ro ((mkParts d.form d.jn).length) (enc eIL (mkParts d.form d.jn)), .ro ((mkPts d.form).length) (enc ePnt (mkPts d.form)), .ro ((fullRoutes d.form d.len d.rs).length) (enc eIL (fullRoutes d.form d.len d.rs)), .v (.int .i64 (1 + d.speed % (2 * (10 * (1 + d.len % 20))))), .v (.int .i64 (1 + d.mute % 1000)), .v (.int .i64 (1 + d.wait % 1000)), .v (.int .i64 (1 + d.cancel)), .v (.int .i64 (d.stay % 4))], 39, 1⟩))⟩ (imp_le ⟨(lee_upd 59 _ rfl (lee_upd 11 _ rfl (lee_upd 10 _ rfl (lee_upd 9 _ rfl (lee_upd 8 _ rfl (lee_upd 7 _ rfl (lee_upd 5 _ rfl (lee_upd 4 _ rfl (lee_none _))))))))), fun _ => .inl rfl⟩) ?_
        refine awp_cond (decide ((i : Int) ∈ (((viewsL (mkSecs d.form d.len).length f.looks).getD k dV).span))) rfl rfl (fun hc3 => ?_) (fun hc3 => ?_)
        · skip
          refine regR ?_
          refine opG rfl (aop_move (av := .v (.int .u8 2)) (.inr rfl) rfl rfl rfl ?_)
          refine op0 ?_
          show AWP _ _ _ _ _
          refine regR ?_
          refine opG rfl (aop_move (av := .v (.int .i64 (k : Int))) (.inl rfl) rfl rfl rfl ?_)
          refine opG rfl (aop_binI (u := (.int .i64 ((k + 1 : Nat) : Int))) rfl rfl rfl rfl rfl trivial (addN (by omega)) ?_)
          refine opG rfl (aop_move (av := .v (.int .i64 ((k + 1 : Nat) : Int))) (.inr rfl) rfl rfl rfl ?_)
          refine op0 ?_
          show _ ∧ _
          refine ⟨by omega, trivial, ?_⟩
          exact imp_ler [(1, 1)] (ler1 1 1 _ _ rfl rfl (NoIL.out (l := [.one, .ro ((mkSecs d.form d.len).length) (enc eSec (mkSecs d.form d.len)), .ro ((mkParts d.form d.jn).length) (enc eIL (mkParts d.form d.jn)), .ro ((mkPts d.form).length) (enc ePnt (mkPts d.form)), .ro ((fullRoutes d.form d.len d.rs).length) (enc eIL (fullRoutes d.form d.len d.rs)), .v (.int .i64 (1 + d.speed % (2 * (10 * (1 + d.len % 20))))), .v (.int .i64 (1 + d.mute % 1000)), .v (.int .i64 (1 + d.wait % 1000)), .v (.int .i64 (1 + d.cancel)), .v (.int .i64 (d.stay % 4))])) (sr_same 11 (.v (.int .i64 ((k + 1) : Int))) rfl NoI.out (sr_same 10 (.v (.int .u8 (s2 (viewsL (mkSecs d.form d.len).length f.looks) (i : Int) (k + 1)))) (by exact congrArg (fun n_ : Int => AV.v (.int .u8 n_)) (s2_on (by omega) hc3)) NoI.out (sr_same 9 (.v (.int .i64 (i : Int))) rfl NoI.out (sr_same 8 (.ro ((ofK (mkParts d.form d.jn) (List.replicate ((mkParts d.form d.jn).length) (-1)) (viewsL (mkSecs d.form d.len).length f.looks) (mkSecs d.form d.len).length).length) (enc eU8 (ofK (mkParts d.form d.jn) (List.replicate ((mkParts d.form d.jn).length) (-1)) (viewsL (mkSecs d.form d.len).length f.looks) (mkSecs d.form d.len).length))) rfl NoI.out (sr_same 7 (.ro ((viewsL (mkSecs d.form d.len).length f.looks).length) (enc eV (viewsL (mkSecs d.form d.len).length f.looks))) rfl NoI.out (sr_map 5 (.pt 1 0) (by first | exact Ok.sl _ _ _ (by first | decide | simp) | exact Ok.pt _ _ (by first | decide | simp)) rfl (sr_same 4 (.v (.bool false)) rfl NoI.out sr_none)))))))) (keep_of rfl)
        · skip
          refine awp_skip ?_
          show AWP _ _ _ _ _
          refine regR ?_
          refine opG rfl (aop_move (av := .v (.int .i64 (k : Int))) (.inl rfl) rfl rfl rfl ?_)
          refine opG rfl (aop_binI (u := (.int .i64 ((k + 1 : Nat) : Int))) rfl rfl rfl rfl rfl trivial (addN (by omega)) ?_)
          refine opG rfl (aop_move (av := .v (.int .i64 ((k + 1 : Nat) : Int))) (.inr rfl) rfl rfl rfl ?_)
          refine op0 ?_
          show _ ∧ _
          refine ⟨by omega, trivial, ?_⟩
          exact imp_ler [(1, 1)] (ler1 1 1 _ _ rfl rfl (NoIL.out (l := [.one, .ro ((mkSecs d.form d.len).length) (enc eSec (mkSecs d.form d.len)), .ro ((mkParts d.form d.jn).length) (enc eIL (mkParts d.form d.jn)), .ro ((mkPts d.form).length) (enc ePnt (mkPts d.form)), .ro ((fullRoutes d.form d.len d.rs).length) (enc eIL (fullRoutes d.form d.len d.rs)), .v (.int .i64 (1 + d.speed % (2 * (10 * (1 + d.len % 20))))), .v (.int .i64 (1 + d.mute % 1000)), .v (.int .i64 (1 + d.wait % 1000)), .v (.int .i64 (1 + d.cancel)), .v (.int .i64 (d.stay % 4))])) (sr_same 11 (.v (.int .i64 ((k + 1) : Int))) rfl NoI.out (sr_same 10 (.v (.int .u8 (s2 (viewsL (mkSecs d.form d.len).length f.looks) (i : Int) (k + 1)))) (by exact congrArg (fun n_ : Int => AV.v (.int .u8 n_)) (s2_off (by omega) hc3)) NoI.out (sr_same 9 (.v (.int .i64 (i : Int))) rfl NoI.out (sr_same 8 (.ro ((ofK (mkParts d.form d.jn) (List.replicate ((mkParts d.form d.jn).length) (-1)) (viewsL (mkSecs d.form d.len).length f.looks) (mkSecs d.form d.len).length).length) (enc eU8 (ofK (mkParts d.form d.jn) (List.replicate ((mkParts d.form d.jn).length) (-1)) (viewsL (mkSecs d.form d.len).length f.looks) (mkSecs d.form d.len).length))) rfl NoI.out (sr_same 7 (.ro ((viewsL (mkSecs d.form d.len).length f.looks).length) (enc eV (viewsL (mkSecs d.form d.len).length f.looks))) rfl NoI.out (sr_map 5 (.pt 1 0) (by first | exact Ok.sl _ _ _ (by first | decide | simp) | exact Ok.pt _ _ (by first | decide | simp)) rfl (sr_same 4 (.v (.bool false)) rfl NoI.out sr_none)))))))) (keep_of rfl)
      · skip
        have hf9 := of_decide_eq_false hc2
        have hst : (ofK (mkParts d.form d.jn) (List.replicate (mkParts d.form d.jn).length (-1 : Int)) (viewsL (mkSecs d.form d.len).length f.looks) (mkSecs d.form d.len).length).getD i 0 = s2 (viewsL (mkSecs d.form d.len).length f.looks) (i : Int) k := start_law (by omega) (by omega)
        refine awp_exit ?_
        show AWP _ _ _ _ _
        refine seqR ?_
        refine opG rfl (aop_move (av := .v (.int .i64 (i : Int))) (.inl rfl) rfl rfl rfl ?_)
        refine opG rfl (aop_move (av := .ro ((ofK (mkParts d.form d.jn) (List.replicate ((mkParts d.form d.jn).length) (-1)) (viewsL (mkSecs d.form d.len).length f.looks) (mkSecs d.form d.len).length).length) (enc eU8 (ofK (mkParts d.form d.jn) (List.replicate ((mkParts d.form d.jn).length) (-1)) (viewsL (mkSecs d.form d.len).length f.looks) (mkSecs d.form d.len).length))) (.inl rfl) rfl rfl rfl ?_)
        refine opG rfl (aop_len rfl rfl rfl rfl ut26 (len_ro rfl) ?_)
        refine opG rfl (aop_binI (u := (.bool (decide ((i : Int) ≥ ((ofK (mkParts d.form d.jn) (List.replicate ((mkParts d.form d.jn).length) (-1)) (viewsL (mkSecs d.form d.len).length f.looks) (mkSecs d.form d.len).length).length : Int))))) rfl rfl rfl rfl rfl trivial rfl ?_)
        refine opG rfl (aop_move (av := .v (.bool (decide ((i : Int) ≥ ((ofK (mkParts d.form d.jn) (List.replicate ((mkParts d.form d.jn).length) (-1)) (viewsL (mkSecs d.form d.len).length f.looks) (mkSecs d.form d.len).length).length : Int))))) (.inl rfl) rfl rfl rfl ?_)
        refine aops_grp 7 71 (.v (.bool ((decide ((i : Int) ≥ ((ofK (mkParts d.form d.jn) (List.replicate ((mkParts d.form d.jn).length) (-1)) (viewsL (mkSecs d.form d.len).length f.looks) (mkSecs d.form d.len).length).length : Int))) || (((ofK (mkParts d.form d.jn) (List.replicate ((mkParts d.form d.jn).length) (-1)) (viewsL (mkSecs d.form d.len).length f.looks) (mkSecs d.form d.len).length).getD i 0) != (s2 (viewsL (mkSecs d.form d.len).length f.looks) (i : Int) k))))) ?_ ?_
        · rcases Bool.eq_false_or_eq_true (decide ((i : Int) ≥ ((ofK (mkParts d.form d.jn) (List.replicate ((mkParts d.form d.jn).length) (-1)) (viewsL (mkSecs d.form d.len).length f.looks) (mkSecs d.form d.len).length).length : Int))) with hg10 | hg10
          · skip
            have hf11 := of_decide_eq_true hg10
            refine opN rfl rfl rfl rfl (by show yv (.bool (decide ((i : Int) ≥ ((ofK (mkParts d.form d.jn) (List.replicate ((mkParts d.form d.jn).length) (-1)) (viewsL (mkSecs d.form d.len).length f.looks) (mkSecs d.form d.len).length).length : Int)))) ≠ _; rw [hg10]; intro h; cases h) rfl rfl ?_
            refine opN rfl rfl rfl rfl (by show yv (.bool (decide ((i : Int) ≥ ((ofK (mkParts d.form d.jn) (List.replicate ((mkParts d.form d.jn).length) (-1)) (viewsL (mkSecs d.form d.len).length f.looks) (mkSecs d.form d.len).length).length : Int)))) ≠ _; rw [hg10]; intro h; cases h) rfl rfl ?_
            refine opN rfl rfl rfl rfl (by show yv (.bool (decide ((i : Int) ≥ ((ofK (mkParts d.form d.jn) (List.replicate ((mkParts d.form d.jn).length) (-1)) (viewsL (mkSecs d.form d.len).length f.looks) (mkSecs d.form d.len).length).length : Int)))) ≠ _; rw [hg10]; intro h; cases h) rfl rfl ?_
            refine opN rfl rfl rfl rfl (by show yv (.bool (decide ((i : Int) ≥ ((ofK (mkParts d.form d.jn) (List.replicate ((mkParts d.form d.jn).length) (-1)) (viewsL (mkSecs d.form d.len).length f.looks) (mkSecs d.form d.len).length).length : Int)))) ≠ _; rw [hg10]; intro h; cases h) rfl rfl ?_
            refine opN rfl rfl rfl rfl (by show yv (.bool (decide ((i : Int) ≥ ((ofK (mkParts d.form d.jn) (List.replicate ((mkParts d.form d.jn).length) (-1)) (viewsL (mkSecs d.form d.len).length f.looks) (mkSecs d.form d.len).length).length : Int)))) ≠ _; rw [hg10]; intro h; cases h) rfl rfl ?_
            refine opN rfl rfl rfl rfl (by show yv (.bool (decide ((i : Int) ≥ ((ofK (mkParts d.form d.jn) (List.replicate ((mkParts d.form d.jn).length) (-1)) (viewsL (mkSecs d.form d.len).length f.looks) (mkSecs d.form d.len).length).length : Int)))) ≠ _; rw [hg10]; intro h; cases h) rfl rfl ?_
            refine opG rfl (aop_pick (b := (decide ((i : Int) ≥ ((ofK (mkParts d.form d.jn) (List.replicate ((mkParts d.form d.jn).length) (-1)) (viewsL (mkSecs d.form d.len).length f.looks) (mkSecs d.form d.len).length).length : Int)))) rfl rfl rfl rfl (by rw [hg10] <;> rfl) ?_)
            refine op0 ?_
            exact imp_env (lee_both 71 _ _ (by rw [hg10] <;> rfl) (lee_out 70 _ rfl (lee_out 69 _ rfl (lee_out 68 _ rfl (lee_out 67 _ rfl (lee_out 66 _ rfl (lee_out 65 _ rfl (lee_same _))))))))
          · skip
            have hf12 := of_decide_eq_false hg10
            refine opY rfl rfl rfl (by show AV.v (.bool (decide ((i : Int) ≥ ((ofK (mkParts d.form d.jn) (List.replicate ((mkParts d.form d.jn).length) (-1)) (viewsL (mkSecs d.form d.len).length f.looks) (mkSecs d.form d.len).length).length : Int)))) = _; rw [hg10]) (aop_move (av := .ro ((ofK (mkParts d.form d.jn) (List.replicate ((mkParts d.form d.jn).length) (-1)) (viewsL (mkSecs d.form d.len).length f.looks) (mkSecs d.form d.len).length).length) (enc eU8 (ofK (mkParts d.form d.jn) (List.replicate ((mkParts d.form d.jn).length) (-1)) (viewsL (mkSecs d.form d.len).length f.looks) (mkSecs d.form d.len).length))) (.inl rfl) rfl rfl rfl ?_)
            refine opY rfl rfl rfl (by show AV.v (.bool (decide ((i : Int) ≥ ((ofK (mkParts d.form d.jn) (List.replicate ((mkParts d.form d.jn).length) (-1)) (viewsL (mkSecs d.form d.len).length f.looks) (mkSecs d.form d.len).length).length : Int)))) = _; rw [hg10]) (aop_move (av := .v (.int .i64 (i : Int))) (.inl rfl) rfl rfl rfl ?_)
            refine opY rfl rfl rfl (by show AV.v (.bool (decide ((i : Int) ≥ ((ofK (mkParts d.form d.jn) (List.replicate ((mkParts d.form d.jn).length) (-1)) (viewsL (mkSecs d.form d.len).length f.looks) (mkSecs d.form d.len).length).length : Int)))) = _; rw [hg10]) (aop_ixE 0 rfl rfl rfl ut26 sz5 rfl rfl (fun _ => rfl) rfl (by first | omega | (simp; done) | decide | (simp; omega) | (simp at *; omega)) ?_)
            refine opY rfl rfl rfl (by show AV.v (.bool (decide ((i : Int) ≥ ((ofK (mkParts d.form d.jn) (List.replicate ((mkParts d.form d.jn).length) (-1)) (viewsL (mkSecs d.form d.len).length f.looks) (mkSecs d.form d.len).length).length : Int)))) = _; rw [hg10]) (aop_ld (av := .v (.int .u8 ((ofK (mkParts d.form d.jn) (List.replicate ((mkParts d.form d.jn).length) (-1)) (viewsL (mkSecs d.form d.len).length f.looks) (mkSecs d.form d.len).length).getD i 0))) rfl rfl rfl ag5 rfl rfl ?_)
            refine opY rfl rfl rfl (by show AV.v (.bool (decide ((i : Int) ≥ ((ofK (mkParts d.form d.jn) (List.replicate ((mkParts d.form d.jn).length) (-1)) (viewsL (mkSecs d.form d.len).length f.looks) (mkSecs d.form d.len).length).length : Int)))) = _; rw [hg10]) (aop_move (av := .v (.int .u8 (s2 (viewsL (mkSecs d.form d.len).length f.looks) (i : Int) k))) (.inl rfl) rfl rfl rfl ?_)
            refine opY rfl rfl rfl (by show AV.v (.bool (decide ((i : Int) ≥ ((ofK (mkParts d.form d.jn) (List.replicate ((mkParts d.form d.jn).length) (-1)) (viewsL (mkSecs d.form d.len).length f.looks) (mkSecs d.form d.len).length).length : Int)))) = _; rw [hg10]) (aop_binI (u := (.bool (((ofK (mkParts d.form d.jn) (List.replicate ((mkParts d.form d.jn).length) (-1)) (viewsL (mkSecs d.form d.len).length f.looks) (mkSecs d.form d.len).length).getD i 0) != (s2 (viewsL (mkSecs d.form d.len).length f.looks) (i : Int) k)))) rfl rfl rfl rfl rfl trivial rfl ?_)
            refine opG rfl (aop_pick (b := (decide ((i : Int) ≥ ((ofK (mkParts d.form d.jn) (List.replicate ((mkParts d.form d.jn).length) (-1)) (viewsL (mkSecs d.form d.len).length f.looks) (mkSecs d.form d.len).length).length : Int)))) rfl rfl rfl rfl (by rw [hg10] <;> rfl) ?_)
            refine op0 ?_
            exact imp_env (lee_both 71 _ _ (by rw [hg10] <;> rfl) (lee_out 70 _ rfl (lee_out 69 _ rfl (lee_out 68 _ rfl (lee_out 67 _ rfl (lee_out 66 _ rfl (lee_out 65 _ rfl (lee_same _))))))))
        refine op0 ?_
        show AWP _ _ _ _ _
        refine awp_imp ⟨(upd (upd (upd (upd (upd (upd (upd (upd none_ 4 (.v (.bool false))) 5 (.pt 1 0)) 7 (.ro ((viewsL (mkSecs d.form d.len).length f.looks).length) (enc eV (viewsL (mkSecs d.form d.len).length f.looks)))) 8 (.ro ((ofK (mkParts d.form d.jn) (List.replicate ((mkParts d.form d.jn).length) (-1)) (viewsL (mkSecs d.form d.len).length f.looks) (mkSecs d.form d.len).length).length) (enc eU8 (ofK (mkParts d.form d.jn) (List.replicate ((mkParts d.form d.jn).length) (-1)) (viewsL (mkSecs d.form d.len).length f.looks) (mkSecs d.form d.len).length)))) 9 (.v (.int .i64 (i : Int)))) 10 (.v (.int .u8 (s2 (viewsL (mkSecs d.form d.len).length f.looks) (i : Int) k)))) 11 (.v (.int .i64 (k : Int)))) 71 (.v (.bool ((decide ((i : Int) ≥ ((ofK (mkParts d.form d.jn) (List.replicate ((mkParts d.form d.jn).length) (-1)) (viewsL (mkSecs d.form d.len).length f.looks) (mkSecs d.form d.len).length).length : Int))) || (((ofK (mkParts d.form d.jn) (List.replicate ((mkParts d.form d.jn).length) (-1)) (viewsL (mkSecs d.form d.len).length f.looks) (mkSecs d.form d.len).length).getD i 0) != (s2 (viewsL (mkSecs d.form d.len).length f.looks) (i : Int) k)))))), (updO noOb 1 (.live ⟨[.one, .ro ((mkSecs d.form d.len).length) (enc eSec (mkSecs d.form d.len)), .ro ((mkParts d.form d.jn).length) (enc eIL (mkParts d.form d.jn)), .ro ((mkPts d.form).length) (enc ePnt (mkPts d.form)), .ro ((fullRoutes d.form d.len d.rs).length) (enc eIL (fullRoutes d.form d.len d.rs)), .v (.int .i64 (1 + d.speed % (2 * (10 * (1 + d.len % 20))))), .v (.int .i64 (1 + d.mute % 1000)), .v (.int .i64 (1 + d.wait % 1000)), .v (.int .i64 (1 + d.cancel)), .v (.int .i64 (d.stay % 4))], 39, 1⟩))⟩ (imp_le ⟨(lee_upd 71 _ rfl (lee_upd 11 _ rfl (lee_upd 10 _ rfl (lee_upd 9 _ rfl (lee_upd 8 _ rfl (lee_upd 7 _ rfl (lee_upd 5 _ rfl (lee_upd 4 _ rfl (lee_none _))))))))), fun _ => .inl rfl⟩) ?_
        refine awp_cond ((decide ((i : Int) ≥ ((ofK (mkParts d.form d.jn) (List.replicate ((mkParts d.form d.jn).length) (-1)) (viewsL (mkSecs d.form d.len).length f.looks) (mkSecs d.form d.len).length).length : Int))) || (((ofK (mkParts d.form d.jn) (List.replicate ((mkParts d.form d.jn).length) (-1)) (viewsL (mkSecs d.form d.len).length f.looks) (mkSecs d.form d.len).length).getD i 0) != (s2 (viewsL (mkSecs d.form d.len).length f.looks) (i : Int) k))) rfl rfl (fun hc4 => ?_) (fun hc4 => ?_)
        · skip
          exfalso; rw [hst] at hc4; simp at hc4; omega
        · skip
          obtain ⟨hf13a, hf13b⟩ := or_f hc4
          have hf14 := of_decide_eq_false hf13a
          have hf15 := (bne_eq_false_iff_eq).1 hf13b
          refine awp_skip ?_
          show AWP _ _ _ _ _
          refine regR ?_
          refine opG rfl (aop_move (av := .v (.int .i64 (i : Int))) (.inl rfl) rfl rfl rfl ?_)
          refine opG rfl (aop_binI (u := (.int .i64 ((i + 1 : Nat) : Int))) rfl rfl rfl rfl rfl trivial (addN (by omega)) ?_)
          refine opG rfl (aop_move (av := .v (.int .i64 ((i + 1 : Nat) : Int))) (.inr rfl) rfl rfl rfl ?_)
          refine op0 ?_
          show _ ∧ _
          refine ⟨by omega, trivial, ?_⟩
          exact imp_ler [(1, 1)] (ler1 1 1 _ _ rfl rfl (NoIL.out (l := [.one, .ro ((mkSecs d.form d.len).length) (enc eSec (mkSecs d.form d.len)), .ro ((mkParts d.form d.jn).length) (enc eIL (mkParts d.form d.jn)), .ro ((mkPts d.form).length) (enc ePnt (mkPts d.form)), .ro ((fullRoutes d.form d.len d.rs).length) (enc eIL (fullRoutes d.form d.len d.rs)), .v (.int .i64 (1 + d.speed % (2 * (10 * (1 + d.len % 20))))), .v (.int .i64 (1 + d.mute % 1000)), .v (.int .i64 (1 + d.wait % 1000)), .v (.int .i64 (1 + d.cancel)), .v (.int .i64 (d.stay % 4))])) (sr_same 9 (.v (.int .i64 ((i + 1) : Int))) rfl NoI.out (sr_same 8 (.ro ((ofK (mkParts d.form d.jn) (List.replicate ((mkParts d.form d.jn).length) (-1)) (viewsL (mkSecs d.form d.len).length f.looks) (mkSecs d.form d.len).length).length) (enc eU8 (ofK (mkParts d.form d.jn) (List.replicate ((mkParts d.form d.jn).length) (-1)) (viewsL (mkSecs d.form d.len).length f.looks) (mkSecs d.form d.len).length))) rfl NoI.out (sr_same 7 (.ro ((viewsL (mkSecs d.form d.len).length f.looks).length) (enc eV (viewsL (mkSecs d.form d.len).length f.looks))) rfl NoI.out (sr_map 5 (.pt 1 0) (by first | exact Ok.sl _ _ _ (by first | decide | simp) | exact Ok.pt _ _ (by first | decide | simp)) rfl (sr_same 4 (.v (.bool false)) rfl NoI.out sr_none)))))) (keep_of rfl)
    · skip
      have hf16 := of_decide_eq_false hc1
      refine awp_exit ?_
      show AWP _ _ _ _ _
      refine seqR ?_
      refine opG rfl (aop_move (av := .ro ((ofK (mkParts d.form d.jn) (List.replicate ((mkParts d.form d.jn).length) (-1)) (viewsL (mkSecs d.form d.len).length f.looks) (mkSecs d.form d.len).length).length) (enc eU8 (ofK (mkParts d.form d.jn) (List.replicate ((mkParts d.form d.jn).length) (-1)) (viewsL (mkSecs d.form d.len).length f.looks) (mkSecs d.form d.len).length))) (.inl rfl) rfl rfl rfl ?_)
      refine opG rfl (aop_len rfl rfl rfl rfl ut26 (len_ro rfl) ?_)
      refine opG rfl (aop_fieldAddr (av := .pt 1 0) (av' := .pt 1 1) rfl rfl rfl ft39_1 sz35 rfl rfl rfl ?_)
      refine opG rfl (aop_ld (av := .ro ((mkSecs d.form d.len).length) (enc eSec (mkSecs d.form d.len))) rfl rfl rfl ag35 rfl rfl ?_)
      refine opG rfl (aop_len rfl rfl rfl rfl ut35 (len_ro rfl) ?_)
      refine opG rfl (aop_binI (u := (.bool (((ofK (mkParts d.form d.jn) (List.replicate ((mkParts d.form d.jn).length) (-1)) (viewsL (mkSecs d.form d.len).length f.looks) (mkSecs d.form d.len).length).length : Int) == ((mkSecs d.form d.len).length : Int)))) rfl rfl rfl rfl rfl trivial rfl ?_)
      refine opG rfl (aop_move (av := .v (.bool (((ofK (mkParts d.form d.jn) (List.replicate ((mkParts d.form d.jn).length) (-1)) (viewsL (mkSecs d.form d.len).length f.looks) (mkSecs d.form d.len).length).length : Int) == ((mkSecs d.form d.len).length : Int)))) (.inr rfl) rfl rfl rfl ?_)
      refine op0 ?_
      show AWP _ _ _ _ _
      refine awp_imp ⟨(upd none_ 4 (.v (.bool (((ofK (mkParts d.form d.jn) (List.replicate ((mkParts d.form d.jn).length) (-1)) (viewsL (mkSecs d.form d.len).length f.looks) (mkSecs d.form d.len).length).length : Int) == ((mkSecs d.form d.len).length : Int))))), (updO noOb 1 (.live ⟨[.one, .ro ((mkSecs d.form d.len).length) (enc eSec (mkSecs d.form d.len)), .ro ((mkParts d.form d.jn).length) (enc eIL (mkParts d.form d.jn)), .ro ((mkPts d.form).length) (enc ePnt (mkPts d.form)), .ro ((fullRoutes d.form d.len d.rs).length) (enc eIL (fullRoutes d.form d.len d.rs)), .v (.int .i64 (1 + d.speed % (2 * (10 * (1 + d.len % 20))))), .v (.int .i64 (1 + d.mute % 1000)), .v (.int .i64 (1 + d.wait % 1000)), .v (.int .i64 (1 + d.cancel)), .v (.int .i64 (d.stay % 4))], 39, 1⟩))⟩ (imp_le ⟨(lee_upd 4 _ rfl (lee_none _)), fun _ => .inl rfl⟩) ?_
      refine awp_ret ?_
      exact fret (av := .v (.bool (((ofK (mkParts d.form d.jn) (List.replicate ((mkParts d.form d.jn).length) (-1)) (viewsL (mkSecs d.form d.len).length f.looks) (mkSecs d.form d.len).length).length : Int) == ((mkSecs d.form d.len).length : Int)))) rfl rfl (by simp; omega)
end Go.Lo
