/- Walks of Go functions in the logic of values. -/
import Derived.Test.YtmmdkioohjninaaDoorFnWTy
import Derived.Test.YtmmdkioohjninaaDoorDef
import Derived.Test.YtmmdkioohjninaaDoorLay
import Derived.Test.YtmmdkioohjninaaDoorSt
import Derived.Test.YtmmdkioohjninaaDoorSv
import Derived.Test.YtmmdkioohjninaaDoorSv
import Derived.Test.YtmmdkioohjninaaDoorFnA
import Derived.Test.YtmmdkioohjninaaDoorFnC
import Derived.Test.YtmmdkioohjninaaDoorFnM
import Derived.Test.YtmmdkioohjninaaDoorFnF
import Derived.Test.YtmmdkioohjninaaDoorFnS
import Derived.Test.YtmmdkioohjninaaDoorFnV
set_option linter.unusedVariables false
set_option linter.unusedSimpArgs false
namespace Go.Lo
open Go.Proofs
set_option maxRecDepth 10000 in
set_option maxHeartbeats 16000000 in
theorem l13_StateViews (d : Draft) (f : Field) (n : Int) (hd : DraftOk d) (hF : FieldOk f) (hn : 0 ≤ n ∧ n ≤ 255) : Fn Tryd.prog 6 [.agg [.v (.int .u8 d.form), .v (.int .u8 d.len), .v (.int .u8 d.speed), .v (.int .u16 d.mute), .v (.int .u16 d.wait), .v (.int .u8 d.cancel), .v (.int .u8 d.stay), .v (.int .u8 d.jn), .ro d.rs.length (enc eUL d.rs)], .agg [.ro f.own.length (enc eU8 f.own), .ro f.clear.length (enc eB f.clear), .ro f.looks.length (enc eLk f.looks)], .v (.int .u8 n)] (.v (.bool true)) := by
  have hd1 := hd.form
  have hd2 := hd.len
  have hd3 := hd.speed
  have hd4 := hd.mute
  have hd5 := hd.wait
  have hd6 := hd.cancel
  have hd7 := hd.stay
  have hd8 := hd.jn
  have hd9 := hd.n
  have hmx : maxLen = 9223372036854775807 := rfl
  have hfn := hF.n
  have hfm := hF.m
  refine fnE_of_body (N := 114) Tryd.func6 rfl rfl (resOf1 rfl) (by simp) (fun w0 X hL_ => ?_)
  refine seqR ?_
  refine opG rfl (aop_box 51 rfl rfl rfl rfl rfl rfl rfl ?_)
  refine opG rfl (aop_box 52 rfl rfl rfl rfl rfl rfl rfl ?_)
  refine opG rfl (aop_move (av := .v (.bool false)) (.inr rfl) rfl rfl rfl ?_)
  refine op0 ?_
  show AWP _ _ _ _ _
  refine awp_seq ?_
  refine seqR ?_
  refine opG rfl (call_ (l13_second) rfl rfl rfl rfl rfl bd10 rfl ?_)
  refine opG rfl (aop_not rfl rfl rfl rfl ?_)
  refine opG rfl (aop_move (av := .v (.bool false)) (.inl rfl) rfl rfl rfl ?_)
  refine opY rfl rfl rfl rfl (aop_ldB (cells' := [.v (.int .u8 d.form), .v (.int .u8 d.len), .v (.int .u8 d.speed), .v (.int .u16 d.mute), .v (.int .u16 d.wait), .v (.int .u8 d.cancel), .v (.int .u8 d.stay), .v (.int .u8 d.jn), .ro d.rs.length (enc eUL d.rs)]) rfl rfl rfl ag25 sz25 rfl rfl rfl rfl ?_)
  refine opY rfl rfl rfl rfl (callW_ (r04_Small d.rs (by first | omega | (simp; done) | decide | (simp; omega) | (simp at *; omega))) rfl rfl rfl rfl rfl bd11 (lends_cons (lend_agg (lends_cons (.one _ rfl) (lends_cons (.one _ rfl) (lends_cons (.one _ rfl) (lends_cons (.one _ rfl) (lends_cons (.one _ rfl) (lends_cons (.one _ rfl) (lends_cons (.one _ rfl) (lends_cons (.one _ rfl) (lends_cons (lend_n (av := .ro d.rs.length (enc eUL d.rs))) lends_nil)))))))))) lends_nil) ?_)
  refine opY rfl rfl rfl rfl (aop_not rfl rfl rfl rfl ?_)
  refine opG rfl (aop_pick (b := false) (av := .v (.bool (!(smallB d.rs)))) rfl rfl rfl rfl rfl ?_)
  refine opG rfl (aop_move (av := .v (.bool (!(smallB d.rs)))) (.inl rfl) rfl rfl rfl ?_)
  refine aops_grp 4 27 (.v (.bool ((!(smallB d.rs)) || (!(fewB f.looks))))) ?_ ?_
  · refine (Bool.eq_false_or_eq_true (!(smallB d.rs))).elim (fun hg1 => ?_) (fun hg1 => ?_)
    · skip
      have hf2 := not_t hg1
      refine opN rfl rfl rfl rfl (by show yv (.bool (!(smallB d.rs))) ≠ _; rw [hg1]; intro h; cases h) rfl rfl ?_
      refine opN rfl rfl rfl rfl (by show yv (.bool (!(smallB d.rs))) ≠ _; rw [hg1]; intro h; cases h) rfl rfl ?_
      refine opN rfl rfl rfl rfl (by show yv (.bool (!(smallB d.rs))) ≠ _; rw [hg1]; intro h; cases h) rfl rfl ?_
      refine opG rfl (aop_pick (b := (!(smallB d.rs))) (av := .v (.bool true)) rfl rfl rfl rfl ((congrArg (fun b_ => cond b_ _ _) hg1).trans rfl) ?_)
      refine op0 ?_
      exact imp_env (lee_both 27 _ _ (by rw [hg1] <;> rfl) (lee_out 26 _ rfl (lee_out 25 _ rfl (lee_out 24 _ rfl (lee_same _)))))
    · skip
      have hf3 := not_f hg1
      refine opY rfl rfl rfl (by show AV.v (.bool (!(smallB d.rs))) = _; rw [hg1]) (aop_ldB (cells' := [.ro f.own.length (enc eU8 f.own), .ro f.clear.length (enc eB f.clear), .ro f.looks.length (enc eLk f.looks)]) rfl rfl rfl ag30 sz30 rfl rfl rfl rfl ?_)
      refine opY rfl rfl rfl (by show AV.v (.bool (!(smallB d.rs))) = _; rw [hg1]) (callW_ (l13_few f.looks (by first | omega | (simp; done) | decide | (simp; omega) | (simp at *; omega))) rfl rfl rfl rfl rfl bd12 (lends_cons (lend_agg (lends_cons (.one _ rfl) (lends_cons (.one _ rfl) (lends_cons (lend_n (av := .ro f.looks.length (enc eLk f.looks))) lends_nil)))) lends_nil) ?_)
      refine opY rfl rfl rfl (by show AV.v (.bool (!(smallB d.rs))) = _; rw [hg1]) (aop_not rfl rfl rfl rfl ?_)
      refine opG rfl (aop_pick (b := (!(smallB d.rs))) (av := .v (.bool (!(fewB f.looks)))) rfl rfl rfl rfl ((congrArg (fun b_ => cond b_ _ _) hg1).trans rfl) ?_)
      refine op0 ?_
      exact imp_env (lee_both 27 _ _ (by rw [hg1] <;> rfl) (lee_out 26 _ rfl (lee_out 25 _ rfl (lee_out 24 _ rfl (lee_same _)))))
  refine op0 ?_
  show AWP _ _ _ _ _
  refine awp_imp ⟨(upd (upd (upd (upd (upd none_ 2 (.v (.int .u8 n))) 3 (.pt 51 0)) 4 (.pt 52 0)) 6 (.v (.bool false))) 27 (.v (.bool ((!(smallB d.rs)) || (!(fewB f.looks)))))), (updO (updO noOb 51 (.live ⟨[.v (.int .u8 d.form), .v (.int .u8 d.len), .v (.int .u8 d.speed), .v (.int .u16 d.mute), .v (.int .u16 d.wait), .v (.int .u8 d.cancel), .v (.int .u8 d.stay), .v (.int .u8 d.jn), .ro d.rs.length (enc eUL d.rs)], 25, 1⟩)) 52 (.live ⟨[.ro f.own.length (enc eU8 f.own), .ro f.clear.length (enc eB f.clear), .ro f.looks.length (enc eLk f.looks)], 30, 1⟩))⟩ (imp_le ⟨(lee_upd 27 _ rfl (lee_upd 6 _ rfl (lee_upd 4 _ rfl (lee_upd 3 _ rfl (lee_upd 2 _ rfl (lee_none _)))))), fun _ => .inl rfl⟩) ?_
  refine awp_cond ((!(smallB d.rs)) || (!(fewB f.looks))) rfl rfl (fun hc0 => ?_) (fun hc0 => ?_)
  · skip
    refine seqR ?_
    refine opG rfl (call_ (l13_second) rfl rfl rfl rfl rfl bd10 rfl ?_)
    refine opG rfl (aop_move (av := .v (.bool true)) (.inr rfl) rfl rfl rfl ?_)
    refine op0 ?_
    show AWP _ _ _ _ _
    refine awp_ret ?_
    exact fret (av := .v (.bool true)) rfl rfl rfl
  · skip
    obtain ⟨hf4a, hf4b⟩ := or_f hc0
    have hf5 := not_f hf4a
    have hf6 := not_f hf4b
    have hsm : smallB d.rs = true := by cases h : smallB d.rs <;> simp [h] at hc0 ⊢
    have hfw : fewB f.looks = true := by cases h : fewB f.looks <;> simp [h] at hc0 ⊢
    have hr := small_rs hsm hd.rs
    have hfi := fewB_iff hfw
    have hel := mkEnds_len d.form
    have hsl := mkSecs_len d.form d.len
    have hpf := mkParts_facts d.form d.jn
    have hlk : ∀ x, x ∈ f.looks → x.span.length ≤ 65536 ∧ (0 ≤ x.id ∧ x.id ≤ 255) ∧ ∀ y, y ∈ x.span → 0 ≤ y ∧ y ≤ 255 := fun x hx => ⟨Nat.le_trans (hfi.2 x hx) (by omega), hF.looks x hx⟩
    have hvl : (viewsL (mkSecs d.form d.len).length f.looks).length ≤ f.looks.length := viewsK_len _ _ _
    have hvs : ∀ v, v ∈ (viewsL (mkSecs d.form d.len).length f.looks) → v.span.length ≤ 65536 := fun v hv => Nat.le_trans (viewsK_span hfi.2 _ (Nat.le_refl _) hv) (by omega)
    have hol : (ownK f.own (mkParts d.form d.jn).length).length = (mkParts d.form d.jn).length := ownK_len _ _
    have how : ∀ x, x ∈ (ownK f.own (mkParts d.form d.jn).length) → -2 ≤ x := fun x hx => (ownK_range _ hx).1
    have hsl_ := ofK_len (mkParts d.form d.jn) (ownK f.own (mkParts d.form d.jn).length) (viewsL (mkSecs d.form d.len).length f.looks) (mkSecs d.form d.len).length
    have hsl2 := ofK_len (mkParts d.form d.jn) (ownK f.own (mkParts d.form d.jn).length) ((viewsL (mkSecs d.form d.len).length f.looks).take (n.toNat % ((viewsL (mkSecs d.form d.len).length f.looks).length + 1))) (mkSecs d.form d.len).length
    have htl : ((viewsL (mkSecs d.form d.len).length f.looks).take (n.toNat % ((viewsL (mkSecs d.form d.len).length f.looks).length + 1))).length ≤ (viewsL (mkSecs d.form d.len).length f.looks).length := (by rw [List.length_take]; omega)
    have hvs2 : ∀ v, v ∈ ((viewsL (mkSecs d.form d.len).length f.looks).take (n.toNat % ((viewsL (mkSecs d.form d.len).length f.looks).length + 1))) → v.span.length ≤ 65536 := fun v hv => hvs v (List.mem_of_mem_take hv)
    have hmk : n.toNat % ((viewsL (mkSecs d.form d.len).length f.looks).length + 1) < (viewsL (mkSecs d.form d.len).length f.looks).length + 1 := Nat.mod_lt _ (by omega)
    refine awp_skip ?_
    show AWP _ _ _ _ _
    refine seqR ?_
    refine opG rfl (aop_ldB (cells' := [.v (.int .u8 d.form), .v (.int .u8 d.len), .v (.int .u8 d.speed), .v (.int .u16 d.mute), .v (.int .u16 d.wait), .v (.int .u8 d.cancel), .v (.int .u8 d.stay), .v (.int .u8 d.jn), .ro d.rs.length (enc eUL d.rs)]) rfl rfl rfl ag25 sz25 rfl rfl rfl rfl ?_)
    refine opG rfl (call_ (r05_Full d.form d.len d.speed d.mute d.wait d.cancel d.stay d.jn d.rs hd1 hd2 hd3 hd4 hd5 hd6 hd7 hd8 hr.1 hr.2) rfl rfl rfl rfl rfl bd13 rfl ?_)
    refine opG rfl (aop_alloc 53 rfl rfl rfl rfl ze39 rfl ?_)
    refine opG rfl (aop_store rfl rfl rfl sz39 rfl rfl rfl rfl rfl (Nat.le_of_ble_eq_true rfl) rfl rfl ?_)
    refine op0 ?_
    show AWP _ _ _ _ _
    refine awp_imp ⟨(upd (upd (upd (upd none_ 2 (.v (.int .u8 n))) 4 (.pt 52 0)) 6 (.v (.bool false))) 7 (.pt 53 0)), (updO (updO (updO (updO noOb 51 (.live ⟨[.v (.int .u8 d.form), .v (.int .u8 d.len), .v (.int .u8 d.speed), .v (.int .u16 d.mute), .v (.int .u16 d.wait), .v (.int .u8 d.cancel), .v (.int .u8 d.stay), .v (.int .u8 d.jn), .ro d.rs.length (enc eUL d.rs)], 25, 1⟩)) 52 (.live ⟨[.ro f.own.length (enc eU8 f.own), .ro f.clear.length (enc eB f.clear), .ro f.looks.length (enc eLk f.looks)], 30, 1⟩)) 53 (.live ⟨[.v (.slice none 0 0), .v (.slice none 0 0), .v (.slice none 0 0), .v (.slice none 0 0), .v (.slice none 0 0), .v (.int .i64 0), .v (.int .i64 0), .v (.int .i64 0), .v (.int .i64 0), .v (.int .i64 0)], 39, 1⟩)) 53 (.live ⟨[.one, .ro ((mkSecs d.form d.len).length) (enc eSec (mkSecs d.form d.len)), .ro ((mkParts d.form d.jn).length) (enc eIL (mkParts d.form d.jn)), .ro ((mkPts d.form).length) (enc ePnt (mkPts d.form)), .ro ((fullRoutes d.form d.len d.rs).length) (enc eIL (fullRoutes d.form d.len d.rs)), .v (.int .i64 (1 + d.speed % (2 * (10 * (1 + d.len % 20))))), .v (.int .i64 (1 + d.mute % 1000)), .v (.int .i64 (1 + d.wait % 1000)), .v (.int .i64 (1 + d.cancel)), .v (.int .i64 (d.stay % 4))], 39, 1⟩))⟩ (imp_le ⟨(lee_upd 7 _ rfl (lee_upd 6 _ rfl (lee_upd 4 _ rfl (lee_upd 2 _ rfl (lee_none _))))), fun _ => .inl rfl⟩) ?_
    refine seqR ?_
    refine opG rfl (aop_ldB (cells' := [.one, .ro ((mkSecs d.form d.len).length) (enc eSec (mkSecs d.form d.len)), .ro ((mkParts d.form d.jn).length) (enc eIL (mkParts d.form d.jn)), .ro ((mkPts d.form).length) (enc ePnt (mkPts d.form)), .ro ((fullRoutes d.form d.len d.rs).length) (enc eIL (fullRoutes d.form d.len d.rs)), .v (.int .i64 (1 + d.speed % (2 * (10 * (1 + d.len % 20))))), .v (.int .i64 (1 + d.mute % 1000)), .v (.int .i64 (1 + d.wait % 1000)), .v (.int .i64 (1 + d.cancel)), .v (.int .i64 (d.stay % 4))]) rfl rfl rfl ag39 sz39 rfl rfl rfl rfl ?_)
    refine opG rfl (aop_ldB (cells' := [.ro f.own.length (enc eU8 f.own), .ro f.clear.length (enc eB f.clear), .ro f.looks.length (enc eLk f.looks)]) rfl rfl rfl ag30 sz30 rfl rfl rfl rfl ?_)
    refine opG rfl (callW_ (l13_views (mkSecs d.form d.len) f.looks (by omega) (by omega) hlk) rfl rfl rfl rfl rfl bd14 (lends_cons (lend_agg (lends_cons (lend_n (av := .one)) (lends_cons (lend_n (av := .ro ((mkSecs d.form d.len).length) (enc eSec (mkSecs d.form d.len)))) (lends_cons (.one _ rfl) (lends_cons (.one _ rfl) (lends_cons (.one _ rfl) (lends_cons (.one _ rfl) (lends_cons (.one _ rfl) (lends_cons (.one _ rfl) (lends_cons (.one _ rfl) (lends_cons (.one _ rfl) lends_nil))))))))))) (lends_cons (lend_agg (lends_cons (.one _ rfl) (lends_cons (.one _ rfl) (lends_cons (lend_n (av := .ro f.looks.length (enc eLk f.looks))) lends_nil)))) lends_nil)) ?_)
    refine opG rfl (aop_move (av := .tup [.ro ((viewsL (mkSecs d.form d.len).length f.looks).length) (enc eV (viewsL (mkSecs d.form d.len).length f.looks)), .ro ((viewsL (mkSecs d.form d.len).length f.looks).length) (enc eV (viewsL (mkSecs d.form d.len).length f.looks))]) (.inl rfl) rfl rfl rfl ?_)
    refine opG rfl (aop_extract rfl rfl rfl rfl rfl ?_)
    refine opG rfl (aop_extract rfl rfl rfl rfl rfl ?_)
    refine opG rfl (aop_move (av := .ro ((viewsL (mkSecs d.form d.len).length f.looks).length) (enc eV (viewsL (mkSecs d.form d.len).length f.looks))) (.inr rfl) rfl rfl rfl ?_)
    refine opG rfl (aop_move (av := .ro ((viewsL (mkSecs d.form d.len).length f.looks).length) (enc eV (viewsL (mkSecs d.form d.len).length f.looks))) (.inr rfl) rfl rfl rfl ?_)
    refine op0 ?_
    show AWP _ _ _ _ _
    refine awp_imp ⟨(upd (upd (upd (upd (upd none_ 2 (.v (.int .u8 n))) 4 (.pt 52 0)) 6 (.v (.bool false))) 7 (.pt 53 0)) 8 (.ro ((viewsL (mkSecs d.form d.len).length f.looks).length) (enc eV (viewsL (mkSecs d.form d.len).length f.looks)))), (updO (updO (updO (updO noOb 51 (.live ⟨[.v (.int .u8 d.form), .v (.int .u8 d.len), .v (.int .u8 d.speed), .v (.int .u16 d.mute), .v (.int .u16 d.wait), .v (.int .u8 d.cancel), .v (.int .u8 d.stay), .v (.int .u8 d.jn), .ro d.rs.length (enc eUL d.rs)], 25, 1⟩)) 52 (.live ⟨[.ro f.own.length (enc eU8 f.own), .ro f.clear.length (enc eB f.clear), .ro f.looks.length (enc eLk f.looks)], 30, 1⟩)) 53 (.live ⟨[.v (.slice none 0 0), .v (.slice none 0 0), .v (.slice none 0 0), .v (.slice none 0 0), .v (.slice none 0 0), .v (.int .i64 0), .v (.int .i64 0), .v (.int .i64 0), .v (.int .i64 0), .v (.int .i64 0)], 39, 1⟩)) 53 (.live ⟨[.one, .ro ((mkSecs d.form d.len).length) (enc eSec (mkSecs d.form d.len)), .ro ((mkParts d.form d.jn).length) (enc eIL (mkParts d.form d.jn)), .ro ((mkPts d.form).length) (enc ePnt (mkPts d.form)), .ro ((fullRoutes d.form d.len d.rs).length) (enc eIL (fullRoutes d.form d.len d.rs)), .v (.int .i64 (1 + d.speed % (2 * (10 * (1 + d.len % 20))))), .v (.int .i64 (1 + d.mute % 1000)), .v (.int .i64 (1 + d.wait % 1000)), .v (.int .i64 (1 + d.cancel)), .v (.int .i64 (d.stay % 4))], 39, 1⟩))⟩ (imp_le ⟨(lee_upd 8 _ rfl (lee_upd 7 _ rfl (lee_upd 6 _ rfl (lee_upd 4 _ rfl (lee_upd 2 _ rfl (lee_none _)))))), fun _ => .inl rfl⟩) ?_
    refine seqR ?_
    refine opG rfl (aop_ldB (cells' := [.one, .ro ((mkSecs d.form d.len).length) (enc eSec (mkSecs d.form d.len)), .ro ((mkParts d.form d.jn).length) (enc eIL (mkParts d.form d.jn)), .ro ((mkPts d.form).length) (enc ePnt (mkPts d.form)), .ro ((fullRoutes d.form d.len d.rs).length) (enc eIL (fullRoutes d.form d.len d.rs)), .v (.int .i64 (1 + d.speed % (2 * (10 * (1 + d.len % 20))))), .v (.int .i64 (1 + d.mute % 1000)), .v (.int .i64 (1 + d.wait % 1000)), .v (.int .i64 (1 + d.cancel)), .v (.int .i64 (d.stay % 4))]) rfl rfl rfl ag39 sz39 rfl rfl rfl rfl ?_)
    refine opG rfl (aop_ldB (cells' := [.ro f.own.length (enc eU8 f.own), .ro f.clear.length (enc eB f.clear), .ro f.looks.length (enc eLk f.looks)]) rfl rfl rfl ag30 sz30 rfl rfl rfl rfl ?_)
    refine opG rfl (callW_ (l13_owners (mkParts d.form d.jn) f.own (by omega) hF.own) rfl rfl rfl rfl rfl bd17 (lends_cons (lend_agg (lends_cons (lend_n (av := .one)) (lends_cons (.one _ rfl) (lends_cons (lend_n (av := .ro ((mkParts d.form d.jn).length) (enc eIL (mkParts d.form d.jn)))) (lends_cons (.one _ rfl) (lends_cons (.one _ rfl) (lends_cons (.one _ rfl) (lends_cons (.one _ rfl) (lends_cons (.one _ rfl) (lends_cons (.one _ rfl) (lends_cons (.one _ rfl) lends_nil))))))))))) (lends_cons (lend_agg (lends_cons (lend_n (av := .ro f.own.length (enc eU8 f.own))) (lends_cons (.one _ rfl) (lends_cons (.one _ rfl) lends_nil)))) lends_nil)) ?_)
    refine opG rfl (aop_move (av := .ro ((ownK f.own (mkParts d.form d.jn).length).length) (enc eI (ownK f.own (mkParts d.form d.jn).length))) (.inr rfl) rfl rfl rfl ?_)
    refine op0 ?_
    show AWP _ _ _ _ _
    refine awp_imp ⟨(upd (upd (upd (upd (upd none_ 2 (.v (.int .u8 n))) 6 (.v (.bool false))) 7 (.pt 53 0)) 8 (.ro ((viewsL (mkSecs d.form d.len).length f.looks).length) (enc eV (viewsL (mkSecs d.form d.len).length f.looks)))) 10 (.ro ((ownK f.own (mkParts d.form d.jn).length).length) (enc eI (ownK f.own (mkParts d.form d.jn).length)))), (updO (updO (updO (updO noOb 51 (.live ⟨[.v (.int .u8 d.form), .v (.int .u8 d.len), .v (.int .u8 d.speed), .v (.int .u16 d.mute), .v (.int .u16 d.wait), .v (.int .u8 d.cancel), .v (.int .u8 d.stay), .v (.int .u8 d.jn), .ro d.rs.length (enc eUL d.rs)], 25, 1⟩)) 52 (.live ⟨[.ro f.own.length (enc eU8 f.own), .ro f.clear.length (enc eB f.clear), .ro f.looks.length (enc eLk f.looks)], 30, 1⟩)) 53 (.live ⟨[.v (.slice none 0 0), .v (.slice none 0 0), .v (.slice none 0 0), .v (.slice none 0 0), .v (.slice none 0 0), .v (.int .i64 0), .v (.int .i64 0), .v (.int .i64 0), .v (.int .i64 0), .v (.int .i64 0)], 39, 1⟩)) 53 (.live ⟨[.one, .ro ((mkSecs d.form d.len).length) (enc eSec (mkSecs d.form d.len)), .ro ((mkParts d.form d.jn).length) (enc eIL (mkParts d.form d.jn)), .ro ((mkPts d.form).length) (enc ePnt (mkPts d.form)), .ro ((fullRoutes d.form d.len d.rs).length) (enc eIL (fullRoutes d.form d.len d.rs)), .v (.int .i64 (1 + d.speed % (2 * (10 * (1 + d.len % 20))))), .v (.int .i64 (1 + d.mute % 1000)), .v (.int .i64 (1 + d.wait % 1000)), .v (.int .i64 (1 + d.cancel)), .v (.int .i64 (d.stay % 4))], 39, 1⟩))⟩ (imp_le ⟨(lee_upd 10 _ rfl (lee_upd 8 _ rfl (lee_upd 7 _ rfl (lee_upd 6 _ rfl (lee_upd 2 _ rfl (lee_none _)))))), fun _ => .inl rfl⟩) ?_
    refine seqR ?_
    refine opG rfl (aop_move (av := .v (.int .u8 n)) (.inl rfl) rfl rfl rfl ?_)
    refine opG rfl (aop_conv' rfl rfl rfl ut5 ut3 rfl (IntWalk.i64_in _ (by omega)) ?_)
    refine opG rfl (aop_move (av := .ro ((viewsL (mkSecs d.form d.len).length f.looks).length) (enc eV (viewsL (mkSecs d.form d.len).length f.looks))) (.inl rfl) rfl rfl rfl ?_)
    refine opG rfl (aop_len rfl rfl rfl rfl ut41 (len_ro rfl) ?_)
    refine opG rfl (aop_binI (u := (.int .i64 (((viewsL (mkSecs d.form d.len).length f.looks).length + 1 : Nat) : Int))) rfl rfl rfl rfl rfl trivial (addN (by omega)) ?_)
    refine opG rfl (aop_binI (u := (.int .i64 ((n.toNat % ((viewsL (mkSecs d.form d.len).length f.looks).length + 1) : Nat) : Int))) rfl rfl rfl rfl rfl (by show _ ≠ _; omega) (remNat hn.1 (by omega)) ?_)
    refine opG rfl (aop_move (av := .v (.int .i64 ((n.toNat % ((viewsL (mkSecs d.form d.len).length f.looks).length + 1) : Nat) : Int))) (.inr rfl) rfl rfl rfl ?_)
    refine op0 ?_
    show AWP _ _ _ _ _
    refine awp_imp ⟨(upd (upd (upd (upd (upd none_ 6 (.v (.bool false))) 7 (.pt 53 0)) 8 (.ro ((viewsL (mkSecs d.form d.len).length f.looks).length) (enc eV (viewsL (mkSecs d.form d.len).length f.looks)))) 10 (.ro ((ownK f.own (mkParts d.form d.jn).length).length) (enc eI (ownK f.own (mkParts d.form d.jn).length)))) 11 (.v (.int .i64 ((n.toNat % ((viewsL (mkSecs d.form d.len).length f.looks).length + 1) : Nat) : Int)))), (updO (updO (updO (updO noOb 51 (.live ⟨[.v (.int .u8 d.form), .v (.int .u8 d.len), .v (.int .u8 d.speed), .v (.int .u16 d.mute), .v (.int .u16 d.wait), .v (.int .u8 d.cancel), .v (.int .u8 d.stay), .v (.int .u8 d.jn), .ro d.rs.length (enc eUL d.rs)], 25, 1⟩)) 52 (.live ⟨[.ro f.own.length (enc eU8 f.own), .ro f.clear.length (enc eB f.clear), .ro f.looks.length (enc eLk f.looks)], 30, 1⟩)) 53 (.live ⟨[.v (.slice none 0 0), .v (.slice none 0 0), .v (.slice none 0 0), .v (.slice none 0 0), .v (.slice none 0 0), .v (.int .i64 0), .v (.int .i64 0), .v (.int .i64 0), .v (.int .i64 0), .v (.int .i64 0)], 39, 1⟩)) 53 (.live ⟨[.one, .ro ((mkSecs d.form d.len).length) (enc eSec (mkSecs d.form d.len)), .ro ((mkParts d.form d.jn).length) (enc eIL (mkParts d.form d.jn)), .ro ((mkPts d.form).length) (enc ePnt (mkPts d.form)), .ro ((fullRoutes d.form d.len d.rs).length) (enc eIL (fullRoutes d.form d.len d.rs)), .v (.int .i64 (1 + d.speed % (2 * (10 * (1 + d.len % 20))))), .v (.int .i64 (1 + d.mute % 1000)), .v (.int .i64 (1 + d.wait % 1000)), .v (.int .i64 (1 + d.cancel)), .v (.int .i64 (d.stay % 4))], 39, 1⟩))⟩ (imp_le ⟨(lee_upd 11 _ rfl (lee_upd 10 _ rfl (lee_upd 8 _ rfl (lee_upd 7 _ rfl (lee_upd 6 _ rfl (lee_none _)))))), fun _ => .inl rfl⟩) ?_
    refine awp_seq ?_
    refine awp_draw (m := 10) [(55, .ro ((ofK (mkParts d.form d.jn) (ownK f.own (mkParts d.form d.jn).length) (viewsL (mkSecs d.form d.len).length f.looks) (mkSecs d.form d.len).length).length) (enc eU8 (ofK (mkParts d.form d.jn) (ownK f.own (mkParts d.form d.jn).length) (viewsL (mkSecs d.form d.len).length f.looks) (mkSecs d.form d.len).length))), (54, .ro ((viewsL (mkSecs d.form d.len).length f.looks).length) (enc eV (viewsL (mkSecs d.form d.len).length f.looks))), (53, .ro ((ownK f.own (mkParts d.form d.jn).length).length) (enc eI (ownK f.own (mkParts d.form d.jn).length))), (52, .agg [.one, .ro ((mkSecs d.form d.len).length) (enc eSec (mkSecs d.form d.len)), .ro ((mkParts d.form d.jn).length) (enc eIL (mkParts d.form d.jn)), .ro ((mkPts d.form).length) (enc ePnt (mkPts d.form)), .ro ((fullRoutes d.form d.len d.rs).length) (enc eIL (fullRoutes d.form d.len d.rs)), .v (.int .i64 (1 + d.speed % (2 * (10 * (1 + d.len % 20))))), .v (.int .i64 (1 + d.mute % 1000)), .v (.int .i64 (1 + d.wait % 1000)), .v (.int .i64 (1 + d.cancel)), .v (.int .i64 (d.stay % 4))]), (51, .ro ((ofK (mkParts d.form d.jn) (ownK f.own (mkParts d.form d.jn).length) ((viewsL (mkSecs d.form d.len).length f.looks).take (n.toNat % ((viewsL (mkSecs d.form d.len).length f.looks).length + 1))) (mkSecs d.form d.len).length).length) (enc eU8 (ofK (mkParts d.form d.jn) (ownK f.own (mkParts d.form d.jn).length) ((viewsL (mkSecs d.form d.len).length f.looks).take (n.toNat % ((viewsL (mkSecs d.form d.len).length f.looks).length + 1))) (mkSecs d.form d.len).length))), (50, .ro ((((viewsL (mkSecs d.form d.len).length f.looks).take (n.toNat % ((viewsL (mkSecs d.form d.len).length f.looks).length + 1)))).length) (enc eV ((viewsL (mkSecs d.form d.len).length f.looks).take (n.toNat % ((viewsL (mkSecs d.form d.len).length f.looks).length + 1))))), (49, .v (.int .i64 ((n.toNat % ((viewsL (mkSecs d.form d.len).length f.looks).length + 1) : Nat) : Int))), (48, .ro ((viewsL (mkSecs d.form d.len).length f.looks).length) (enc eV (viewsL (mkSecs d.form d.len).length f.looks))), (47, .ro ((ownK f.own (mkParts d.form d.jn).length).length) (enc eI (ownK f.own (mkParts d.form d.jn).length))), (46, .agg [.one, .ro ((mkSecs d.form d.len).length) (enc eSec (mkSecs d.form d.len)), .ro ((mkParts d.form d.jn).length) (enc eIL (mkParts d.form d.jn)), .ro ((mkPts d.form).length) (enc ePnt (mkPts d.form)), .ro ((fullRoutes d.form d.len d.rs).length) (enc eIL (fullRoutes d.form d.len d.rs)), .v (.int .i64 (1 + d.speed % (2 * (10 * (1 + d.len % 20))))), .v (.int .i64 (1 + d.mute % 1000)), .v (.int .i64 (1 + d.wait % 1000)), .v (.int .i64 (1 + d.cancel)), .v (.int .i64 (d.stay % 4))])] mixed (by kernel_rfl) ?_ ?_
    · refine ⟨?_, ?_, ?_, ?_, ?_, ?_, ?_, ?_, ?_, ?_, trivial⟩
      · exact ⟨46, rfl, blt_lt rfl, fun st hob hE => aop_ldB (cells' := [.one, .ro ((mkSecs d.form d.len).length) (enc eSec (mkSecs d.form d.len)), .ro ((mkParts d.form d.jn).length) (enc eIL (mkParts d.form d.jn)), .ro ((mkPts d.form).length) (enc ePnt (mkPts d.form)), .ro ((fullRoutes d.form d.len d.rs).length) (enc eIL (fullRoutes d.form d.len d.rs)), .v (.int .i64 (1 + d.speed % (2 * (10 * (1 + d.len % 20))))), .v (.int .i64 (1 + d.mute % 1000)), .v (.int .i64 (1 + d.wait % 1000)), .v (.int .i64 (1 + d.cancel)), .v (.int .i64 (d.stay % 4))]) rfl rfl rfl ag39 sz39 (hE 7 rfl) (by rw [hob]; rfl) rfl rfl (by rw [hob]; rfl)⟩
      · exact ⟨47, rfl, blt_lt rfl, fun st hob hE => aop_move (av := .ro ((ownK f.own (mkParts d.form d.jn).length).length) (enc eI (ownK f.own (mkParts d.form d.jn).length))) (.inl rfl) rfl rfl (hE 10 rfl) (by rw [hob]; rfl)⟩
      · exact ⟨48, rfl, blt_lt rfl, fun st hob hE => aop_move (av := .ro ((viewsL (mkSecs d.form d.len).length f.looks).length) (enc eV (viewsL (mkSecs d.form d.len).length f.looks))) (.inl rfl) rfl rfl (hE 8 rfl) (by rw [hob]; rfl)⟩
      · exact ⟨49, rfl, blt_lt rfl, fun st hob hE => aop_move (av := .v (.int .i64 ((n.toNat % ((viewsL (mkSecs d.form d.len).length f.looks).length + 1) : Nat) : Int))) (.inl rfl) rfl rfl (hE 11 rfl) (by rw [hob]; rfl)⟩
      · exact ⟨50, rfl, blt_lt rfl, fun st hob hE => aop_sliceRoN (l := 0) (hgh := n.toNat % ((viewsL (mkSecs d.form d.len).length f.looks).length + 1)) (cells' := enc eV ((viewsL (mkSecs d.form d.len).length f.looks).take (n.toNat % ((viewsL (mkSecs d.form d.len).length f.looks).length + 1)))) (((viewsL (mkSecs d.form d.len).length f.looks).take (n.toNat % ((viewsL (mkSecs d.form d.len).length f.looks).length + 1)))).length rfl rfl rfl ut41 sz73 (hE 48 rfl) rfl ⟨_, (hE 49 rfl)⟩ (by omega) (by first | omega | (simp; done) | decide | (simp; omega) | (simp at *; omega)) (sliceE (f := eV) (fun _ => rfl) _ 0 _) (by simp; omega) (by rw [hob]; rfl)⟩
      · exact ⟨51, rfl, blt_lt rfl, fun st hob hE => callW_ (s_Of (mkSecs d.form d.len) (mkParts d.form d.jn) (ownK f.own (mkParts d.form d.jn).length) ((viewsL (mkSecs d.form d.len).length f.looks).take (n.toNat % ((viewsL (mkSecs d.form d.len).length f.looks).length + 1))) (by omega) (by omega) hpf.2.2 (by omega) (by omega) hvs2) rfl rfl rfl rfl rfl bd16 (by show Lends _ ([st.env 46, st.env 47, st.env 50] ++ _) _; rw [hE 46 rfl, hE 47 rfl, hE 50 rfl]; exact (lends_cons (lend_agg (lends_cons (lend_n (av := .one)) (lends_cons (lend_n (av := .ro ((mkSecs d.form d.len).length) (enc eSec (mkSecs d.form d.len)))) (lends_cons (lend_n (av := .ro ((mkParts d.form d.jn).length) (enc eIL (mkParts d.form d.jn)))) (lends_cons (.one _ rfl) (lends_cons (.one _ rfl) (lends_cons (.one _ rfl) (lends_cons (.one _ rfl) (lends_cons (.one _ rfl) (lends_cons (.one _ rfl) (lends_cons (.one _ rfl) lends_nil))))))))))) (lends_cons (lend_n (av := .ro ((ownK f.own (mkParts d.form d.jn).length).length) (enc eI (ownK f.own (mkParts d.form d.jn).length)))) (lends_cons (lend_n (av := .ro ((((viewsL (mkSecs d.form d.len).length f.looks).take (n.toNat % ((viewsL (mkSecs d.form d.len).length f.looks).length + 1)))).length) (enc eV ((viewsL (mkSecs d.form d.len).length f.looks).take (n.toNat % ((viewsL (mkSecs d.form d.len).length f.looks).length + 1)))))) lends_nil)))) (by rw [hob]; rfl)⟩
      · exact ⟨52, rfl, blt_lt rfl, fun st hob hE => aop_ldB (cells' := [.one, .ro ((mkSecs d.form d.len).length) (enc eSec (mkSecs d.form d.len)), .ro ((mkParts d.form d.jn).length) (enc eIL (mkParts d.form d.jn)), .ro ((mkPts d.form).length) (enc ePnt (mkPts d.form)), .ro ((fullRoutes d.form d.len d.rs).length) (enc eIL (fullRoutes d.form d.len d.rs)), .v (.int .i64 (1 + d.speed % (2 * (10 * (1 + d.len % 20))))), .v (.int .i64 (1 + d.mute % 1000)), .v (.int .i64 (1 + d.wait % 1000)), .v (.int .i64 (1 + d.cancel)), .v (.int .i64 (d.stay % 4))]) rfl rfl rfl ag39 sz39 (hE 7 rfl) (by rw [hob]; rfl) rfl rfl (by rw [hob]; rfl)⟩
      · exact ⟨53, rfl, blt_lt rfl, fun st hob hE => aop_move (av := .ro ((ownK f.own (mkParts d.form d.jn).length).length) (enc eI (ownK f.own (mkParts d.form d.jn).length))) (.inl rfl) rfl rfl (hE 10 rfl) (by rw [hob]; rfl)⟩
      · exact ⟨54, rfl, blt_lt rfl, fun st hob hE => aop_move (av := .ro ((viewsL (mkSecs d.form d.len).length f.looks).length) (enc eV (viewsL (mkSecs d.form d.len).length f.looks))) (.inl rfl) rfl rfl (hE 8 rfl) (by rw [hob]; rfl)⟩
      · exact ⟨55, rfl, blt_lt rfl, fun st hob hE => callW_ (s_Of (mkSecs d.form d.len) (mkParts d.form d.jn) (ownK f.own (mkParts d.form d.jn).length) (viewsL (mkSecs d.form d.len).length f.looks) (by omega) (by omega) hpf.2.2 (by omega) (by omega) hvs) rfl rfl rfl rfl rfl bd16 (by show Lends _ ([st.env 52, st.env 53, st.env 54] ++ _) _; rw [hE 52 rfl, hE 53 rfl, hE 54 rfl]; exact (lends_cons (lend_agg (lends_cons (lend_n (av := .one)) (lends_cons (lend_n (av := .ro ((mkSecs d.form d.len).length) (enc eSec (mkSecs d.form d.len)))) (lends_cons (lend_n (av := .ro ((mkParts d.form d.jn).length) (enc eIL (mkParts d.form d.jn)))) (lends_cons (.one _ rfl) (lends_cons (.one _ rfl) (lends_cons (.one _ rfl) (lends_cons (.one _ rfl) (lends_cons (.one _ rfl) (lends_cons (.one _ rfl) (lends_cons (.one _ rfl) lends_nil))))))))))) (lends_cons (lend_n (av := .ro ((ownK f.own (mkParts d.form d.jn).length).length) (enc eI (ownK f.own (mkParts d.form d.jn).length)))) (lends_cons (lend_n (av := .ro ((viewsL (mkSecs d.form d.len).length f.looks).length) (enc eV (viewsL (mkSecs d.form d.len).length f.looks)))) lends_nil)))) (by rw [hob]; rfl)⟩
    refine opG rfl (aop_move (av := .ro ((ofK (mkParts d.form d.jn) (ownK f.own (mkParts d.form d.jn).length) ((viewsL (mkSecs d.form d.len).length f.looks).take (n.toNat % ((viewsL (mkSecs d.form d.len).length f.looks).length + 1))) (mkSecs d.form d.len).length).length) (enc eU8 (ofK (mkParts d.form d.jn) (ownK f.own (mkParts d.form d.jn).length) ((viewsL (mkSecs d.form d.len).length f.looks).take (n.toNat % ((viewsL (mkSecs d.form d.len).length f.looks).length + 1))) (mkSecs d.form d.len).length))) (.inr rfl) rfl rfl rfl ?_)
    refine opG rfl (aop_move (av := .ro ((ofK (mkParts d.form d.jn) (ownK f.own (mkParts d.form d.jn).length) (viewsL (mkSecs d.form d.len).length f.looks) (mkSecs d.form d.len).length).length) (enc eU8 (ofK (mkParts d.form d.jn) (ownK f.own (mkParts d.form d.jn).length) (viewsL (mkSecs d.form d.len).length f.looks) (mkSecs d.form d.len).length))) (.inr rfl) rfl rfl rfl ?_)
    refine op0 ?_
    show AWP _ _ _ _ _
    refine awp_seq ?_
    refine seqR ?_
    refine opG rfl (aop_move (av := .ro ((ofK (mkParts d.form d.jn) (ownK f.own (mkParts d.form d.jn).length) ((viewsL (mkSecs d.form d.len).length f.looks).take (n.toNat % ((viewsL (mkSecs d.form d.len).length f.looks).length + 1))) (mkSecs d.form d.len).length).length) (enc eU8 (ofK (mkParts d.form d.jn) (ownK f.own (mkParts d.form d.jn).length) ((viewsL (mkSecs d.form d.len).length f.looks).take (n.toNat % ((viewsL (mkSecs d.form d.len).length f.looks).length + 1))) (mkSecs d.form d.len).length))) (.inl rfl) rfl rfl rfl ?_)
    refine opG rfl (aop_len rfl rfl rfl rfl ut26 (len_ro rfl) ?_)
    refine opG rfl (aop_move (av := .ro ((ofK (mkParts d.form d.jn) (ownK f.own (mkParts d.form d.jn).length) (viewsL (mkSecs d.form d.len).length f.looks) (mkSecs d.form d.len).length).length) (enc eU8 (ofK (mkParts d.form d.jn) (ownK f.own (mkParts d.form d.jn).length) (viewsL (mkSecs d.form d.len).length f.looks) (mkSecs d.form d.len).length))) (.inl rfl) rfl rfl rfl ?_)
    refine opG rfl (aop_len rfl rfl rfl rfl ut26 (len_ro rfl) ?_)
    refine opG rfl (aop_binI (u := (.bool (((ofK (mkParts d.form d.jn) (ownK f.own (mkParts d.form d.jn).length) ((viewsL (mkSecs d.form d.len).length f.looks).take (n.toNat % ((viewsL (mkSecs d.form d.len).length f.looks).length + 1))) (mkSecs d.form d.len).length).length : Int) != ((ofK (mkParts d.form d.jn) (ownK f.own (mkParts d.form d.jn).length) (viewsL (mkSecs d.form d.len).length f.looks) (mkSecs d.form d.len).length).length : Int)))) rfl rfl rfl rfl rfl trivial rfl ?_)
    refine op0 ?_
    show AWP _ _ _ _ _
    refine awp_imp ⟨(upd (upd (upd (upd (upd (upd none_ 6 (.v (.bool false))) 7 (.pt 53 0)) 10 (.ro ((ownK f.own (mkParts d.form d.jn).length).length) (enc eI (ownK f.own (mkParts d.form d.jn).length)))) 12 (.ro ((ofK (mkParts d.form d.jn) (ownK f.own (mkParts d.form d.jn).length) ((viewsL (mkSecs d.form d.len).length f.looks).take (n.toNat % ((viewsL (mkSecs d.form d.len).length f.looks).length + 1))) (mkSecs d.form d.len).length).length) (enc eU8 (ofK (mkParts d.form d.jn) (ownK f.own (mkParts d.form d.jn).length) ((viewsL (mkSecs d.form d.len).length f.looks).take (n.toNat % ((viewsL (mkSecs d.form d.len).length f.looks).length + 1))) (mkSecs d.form d.len).length)))) 13 (.ro ((ofK (mkParts d.form d.jn) (ownK f.own (mkParts d.form d.jn).length) (viewsL (mkSecs d.form d.len).length f.looks) (mkSecs d.form d.len).length).length) (enc eU8 (ofK (mkParts d.form d.jn) (ownK f.own (mkParts d.form d.jn).length) (viewsL (mkSecs d.form d.len).length f.looks) (mkSecs d.form d.len).length)))) 60 (.v (.bool (((ofK (mkParts d.form d.jn) (ownK f.own (mkParts d.form d.jn).length) ((viewsL (mkSecs d.form d.len).length f.looks).take (n.toNat % ((viewsL (mkSecs d.form d.len).length f.looks).length + 1))) (mkSecs d.form d.len).length).length : Int) != ((ofK (mkParts d.form d.jn) (ownK f.own (mkParts d.form d.jn).length) (viewsL (mkSecs d.form d.len).length f.looks) (mkSecs d.form d.len).length).length : Int))))), (updO (updO (updO (updO noOb 51 (.live ⟨[.v (.int .u8 d.form), .v (.int .u8 d.len), .v (.int .u8 d.speed), .v (.int .u16 d.mute), .v (.int .u16 d.wait), .v (.int .u8 d.cancel), .v (.int .u8 d.stay), .v (.int .u8 d.jn), .ro d.rs.length (enc eUL d.rs)], 25, 1⟩)) 52 (.live ⟨[.ro f.own.length (enc eU8 f.own), .ro f.clear.length (enc eB f.clear), .ro f.looks.length (enc eLk f.looks)], 30, 1⟩)) 53 (.live ⟨[.v (.slice none 0 0), .v (.slice none 0 0), .v (.slice none 0 0), .v (.slice none 0 0), .v (.slice none 0 0), .v (.int .i64 0), .v (.int .i64 0), .v (.int .i64 0), .v (.int .i64 0), .v (.int .i64 0)], 39, 1⟩)) 53 (.live ⟨[.one, .ro ((mkSecs d.form d.len).length) (enc eSec (mkSecs d.form d.len)), .ro ((mkParts d.form d.jn).length) (enc eIL (mkParts d.form d.jn)), .ro ((mkPts d.form).length) (enc ePnt (mkPts d.form)), .ro ((fullRoutes d.form d.len d.rs).length) (enc eIL (fullRoutes d.form d.len d.rs)), .v (.int .i64 (1 + d.speed % (2 * (10 * (1 + d.len % 20))))), .v (.int .i64 (1 + d.mute % 1000)), .v (.int .i64 (1 + d.wait % 1000)), .v (.int .i64 (1 + d.cancel)), .v (.int .i64 (d.stay % 4))], 39, 1⟩))⟩ (imp_le ⟨(lee_upd 60 _ rfl (lee_upd 13 _ rfl (lee_upd 12 _ rfl (lee_upd 10 _ rfl (lee_upd 7 _ rfl (lee_upd 6 _ rfl (lee_none _))))))), fun _ => .inl rfl⟩) ?_
    refine awp_cond (((ofK (mkParts d.form d.jn) (ownK f.own (mkParts d.form d.jn).length) ((viewsL (mkSecs d.form d.len).length f.looks).take (n.toNat % ((viewsL (mkSecs d.form d.len).length f.looks).length + 1))) (mkSecs d.form d.len).length).length : Int) != ((ofK (mkParts d.form d.jn) (ownK f.own (mkParts d.form d.jn).length) (viewsL (mkSecs d.form d.len).length f.looks) (mkSecs d.form d.len).length).length : Int)) rfl rfl (fun hc1 => ?_) (fun hc1 => ?_)
    · skip
      have hf7 := (bne_iff_ne).1 hc1
      exfalso; simp at hc1; omega
    · skip
      have hf8 := (bne_eq_false_iff_eq).1 hc1
      refine awp_skip ?_
      show AWP _ _ _ _ _
      refine awp_seq ?_
      refine seqR ?_
      refine opG rfl (aop_move (av := .v (.int .i64 0)) (.inr rfl) rfl rfl rfl ?_)
      refine op0 ?_
      show AWP _ _ _ _ _
      refine awp_block ?_
      refine awp_countI (fun i => ⟨(upd (upd (upd (upd (upd (upd none_ 6 (.v (.bool false))) 7 (.pt 1 0)) 10 (.ro ((ownK f.own (mkParts d.form d.jn).length).length) (enc eI (ownK f.own (mkParts d.form d.jn).length)))) 12 (.ro ((ofK (mkParts d.form d.jn) (ownK f.own (mkParts d.form d.jn).length) ((viewsL (mkSecs d.form d.len).length f.looks).take (n.toNat % ((viewsL (mkSecs d.form d.len).length f.looks).length + 1))) (mkSecs d.form d.len).length).length) (enc eU8 (ofK (mkParts d.form d.jn) (ownK f.own (mkParts d.form d.jn).length) ((viewsL (mkSecs d.form d.len).length f.looks).take (n.toNat % ((viewsL (mkSecs d.form d.len).length f.looks).length + 1))) (mkSecs d.form d.len).length)))) 13 (.ro ((ofK (mkParts d.form d.jn) (ownK f.own (mkParts d.form d.jn).length) (viewsL (mkSecs d.form d.len).length f.looks) (mkSecs d.form d.len).length).length) (enc eU8 (ofK (mkParts d.form d.jn) (ownK f.own (mkParts d.form d.jn).length) (viewsL (mkSecs d.form d.len).length f.looks) (mkSecs d.form d.len).length)))) 14 (.v (.int .i64 (i : Int)))), (updO noOb 1 (.live ⟨[.one, .ro ((mkSecs d.form d.len).length) (enc eSec (mkSecs d.form d.len)), .ro ((mkParts d.form d.jn).length) (enc eIL (mkParts d.form d.jn)), .ro ((mkPts d.form).length) (enc ePnt (mkPts d.form)), .ro ((fullRoutes d.form d.len d.rs).length) (enc eIL (fullRoutes d.form d.len d.rs)), .v (.int .i64 (1 + d.speed % (2 * (10 * (1 + d.len % 20))))), .v (.int .i64 (1 + d.mute % 1000)), .v (.int .i64 (1 + d.wait % 1000)), .v (.int .i64 (1 + d.cancel)), .v (.int .i64 (d.stay % 4))], 39, 1⟩))⟩) (fun i => True) ((mkSecs d.form d.len).length) ?_ trivial (fun i hk_i hinv => ?_)
      · skip
        exact imp_ler [(53, 1)] (ler1 53 1 _ _ rfl rfl (NoIL.out (l := [.one, .ro ((mkSecs d.form d.len).length) (enc eSec (mkSecs d.form d.len)), .ro ((mkParts d.form d.jn).length) (enc eIL (mkParts d.form d.jn)), .ro ((mkPts d.form).length) (enc ePnt (mkPts d.form)), .ro ((fullRoutes d.form d.len d.rs).length) (enc eIL (fullRoutes d.form d.len d.rs)), .v (.int .i64 (1 + d.speed % (2 * (10 * (1 + d.len % 20))))), .v (.int .i64 (1 + d.mute % 1000)), .v (.int .i64 (1 + d.wait % 1000)), .v (.int .i64 (1 + d.cancel)), .v (.int .i64 (d.stay % 4))])) (sr_same 14 (.v (.int .i64 (0 : Int))) rfl NoI.out (sr_same 13 (.ro ((ofK (mkParts d.form d.jn) (ownK f.own (mkParts d.form d.jn).length) (viewsL (mkSecs d.form d.len).length f.looks) (mkSecs d.form d.len).length).length) (enc eU8 (ofK (mkParts d.form d.jn) (ownK f.own (mkParts d.form d.jn).length) (viewsL (mkSecs d.form d.len).length f.looks) (mkSecs d.form d.len).length))) rfl NoI.out (sr_same 12 (.ro ((ofK (mkParts d.form d.jn) (ownK f.own (mkParts d.form d.jn).length) ((viewsL (mkSecs d.form d.len).length f.looks).take (n.toNat % ((viewsL (mkSecs d.form d.len).length f.looks).length + 1))) (mkSecs d.form d.len).length).length) (enc eU8 (ofK (mkParts d.form d.jn) (ownK f.own (mkParts d.form d.jn).length) ((viewsL (mkSecs d.form d.len).length f.looks).take (n.toNat % ((viewsL (mkSecs d.form d.len).length f.looks).length + 1))) (mkSecs d.form d.len).length))) rfl NoI.out (sr_same 10 (.ro ((ownK f.own (mkParts d.form d.jn).length).length) (enc eI (ownK f.own (mkParts d.form d.jn).length))) rfl NoI.out (sr_map 7 (.pt 1 0) (by first | exact Ok.sl _ _ _ (by first | decide | simp) | exact Ok.pt _ _ (by first | decide | simp)) rfl (sr_same 6 (.v (.bool false)) rfl NoI.out sr_none))))))) (keep_of rfl)
      refine awp_seq ?_
      refine seqR ?_
      refine opG rfl (aop_move (av := .v (.int .i64 (i : Int))) (.inl rfl) rfl rfl rfl ?_)
      refine opG rfl (aop_move (av := .ro ((ofK (mkParts d.form d.jn) (ownK f.own (mkParts d.form d.jn).length) ((viewsL (mkSecs d.form d.len).length f.looks).take (n.toNat % ((viewsL (mkSecs d.form d.len).length f.looks).length + 1))) (mkSecs d.form d.len).length).length) (enc eU8 (ofK (mkParts d.form d.jn) (ownK f.own (mkParts d.form d.jn).length) ((viewsL (mkSecs d.form d.len).length f.looks).take (n.toNat % ((viewsL (mkSecs d.form d.len).length f.looks).length + 1))) (mkSecs d.form d.len).length))) (.inl rfl) rfl rfl rfl ?_)
      refine opG rfl (aop_len rfl rfl rfl rfl ut26 (len_ro rfl) ?_)
      refine opG rfl (aop_binI (u := (.bool (decide ((i : Int) < ((ofK (mkParts d.form d.jn) (ownK f.own (mkParts d.form d.jn).length) ((viewsL (mkSecs d.form d.len).length f.looks).take (n.toNat % ((viewsL (mkSecs d.form d.len).length f.looks).length + 1))) (mkSecs d.form d.len).length).length : Int))))) rfl rfl rfl rfl rfl trivial rfl ?_)
      refine op0 ?_
      show AWP _ _ _ _ _
      refine awp_imp ⟨(upd (upd (upd (upd (upd (upd (upd none_ 6 (.v (.bool false))) 7 (.pt 1 0)) 10 (.ro ((ownK f.own (mkParts d.form d.jn).length).length) (enc eI (ownK f.own (mkParts d.form d.jn).length)))) 12 (.ro ((ofK (mkParts d.form d.jn) (ownK f.own (mkParts d.form d.jn).length) ((viewsL (mkSecs d.form d.len).length f.looks).take (n.toNat % ((viewsL (mkSecs d.form d.len).length f.looks).length + 1))) (mkSecs d.form d.len).length).length) (enc eU8 (ofK (mkParts d.form d.jn) (ownK f.own (mkParts d.form d.jn).length) ((viewsL (mkSecs d.form d.len).length f.looks).take (n.toNat % ((viewsL (mkSecs d.form d.len).length f.looks).length + 1))) (mkSecs d.form d.len).length)))) 13 (.ro ((ofK (mkParts d.form d.jn) (ownK f.own (mkParts d.form d.jn).length) (viewsL (mkSecs d.form d.len).length f.looks) (mkSecs d.form d.len).length).length) (enc eU8 (ofK (mkParts d.form d.jn) (ownK f.own (mkParts d.form d.jn).length) (viewsL (mkSecs d.form d.len).length f.looks) (mkSecs d.form d.len).length)))) 14 (.v (.int .i64 (i : Int)))) 64 (.v (.bool (decide ((i : Int) < ((ofK (mkParts d.form d.jn) (ownK f.own (mkParts d.form d.jn).length) ((viewsL (mkSecs d.form d.len).length f.looks).take (n.toNat % ((viewsL (mkSecs d.form d.len).length f.looks).length + 1))) (mkSecs d.form d.len).length).length : Int)))))), (updO noOb 1 (.live ⟨[.one, .ro ((mkSecs d.form d.len).length) (enc eSec (mkSecs d.form d.len)), .ro ((mkParts d.form d.jn).length) (enc eIL (mkParts d.form d.jn)), .ro ((mkPts d.form).length) (enc ePnt (mkPts d.form)), .ro ((fullRoutes d.form d.len d.rs).length) (enc eIL (fullRoutes d.form d.len d.rs)), .v (.int .i64 (1 + d.speed % (2 * (10 * (1 + d.len % 20))))), .v (.int .i64 (1 + d.mute % 1000)), .v (.int .i64 (1 + d.wait % 1000)), .v (.int .i64 (1 + d.cancel)), .v (.int .i64 (d.stay % 4))], 39, 1⟩))⟩ (imp_le ⟨(lee_upd 64 _ rfl (lee_upd 14 _ rfl (lee_upd 13 _ rfl (lee_upd 12 _ rfl (lee_upd 10 _ rfl (lee_upd 7 _ rfl (lee_upd 6 _ rfl (lee_none _)))))))), fun _ => .inl rfl⟩) ?_
      refine awp_cond (decide ((i : Int) < ((ofK (mkParts d.form d.jn) (ownK f.own (mkParts d.form d.jn).length) ((viewsL (mkSecs d.form d.len).length f.looks).take (n.toNat % ((viewsL (mkSecs d.form d.len).length f.looks).length + 1))) (mkSecs d.form d.len).length).length : Int))) rfl rfl (fun hc2 => ?_) (fun hc2 => ?_)
      · skip
        have hf9 := of_decide_eq_true hc2
        have hin := part_in (form := d.form) (j := d.jn) (i := i) (by omega)
        obtain ⟨ov, ho⟩ : ∃ ov, ov = (ownK f.own (mkParts d.form d.jn).length).getD (partI (mkParts d.form d.jn) (i : Int)).toNat 0 := ⟨_, rfl⟩
        have hwo : whoI (mkParts d.form d.jn) (ownK f.own (mkParts d.form d.jn).length) (i : Int) = ov := by rw [ho]; unfold whoI; rw [if_pos hin.1]
        have hwg : -2 ≤ ov := by rw [← hwo]; exact whoI_ge (by omega) how
        have hfs := findV_span (id := ov) hvs
        obtain ⟨xv, hxv⟩ : ∃ xv, xv = (ofK (mkParts d.form d.jn) (ownK f.own (mkParts d.form d.jn).length) ((viewsL (mkSecs d.form d.len).length f.looks).take (n.toNat % ((viewsL (mkSecs d.form d.len).length f.looks).length + 1))) (mkSecs d.form d.len).length).getD i 0 := ⟨_, rfl⟩
        have gxv : xv = oneS (i : Int) ov ((viewsL (mkSecs d.form d.len).length f.looks).take (n.toNat % ((viewsL (mkSecs d.form d.len).length f.looks).length + 1))) := by rw [hxv, ofK_get (by omega), hwo]
        obtain ⟨uv, huv⟩ : ∃ uv, uv = (ofK (mkParts d.form d.jn) (ownK f.own (mkParts d.form d.jn).length) (viewsL (mkSecs d.form d.len).length f.looks) (mkSecs d.form d.len).length).getD i 0 := ⟨_, rfl⟩
        have guv : uv = oneS (i : Int) ov (viewsL (mkSecs d.form d.len).length f.looks) := by rw [huv, ofK_get (by omega), hwo]
        have h1c := views_cases gxv guv hwg
        refine awp_skip ?_
        show AWP _ _ _ _ _
        refine awp_seq ?_
        refine awp_block ?_
        refine seqR ?_
        refine opG rfl (aop_move (av := .ro ((ownK f.own (mkParts d.form d.jn).length).length) (enc eI (ownK f.own (mkParts d.form d.jn).length))) (.inl rfl) rfl rfl rfl ?_)
        refine opG rfl (aop_ldB (cells' := [.one, .ro ((mkSecs d.form d.len).length) (enc eSec (mkSecs d.form d.len)), .ro ((mkParts d.form d.jn).length) (enc eIL (mkParts d.form d.jn)), .ro ((mkPts d.form).length) (enc ePnt (mkPts d.form)), .ro ((fullRoutes d.form d.len d.rs).length) (enc eIL (fullRoutes d.form d.len d.rs)), .v (.int .i64 (1 + d.speed % (2 * (10 * (1 + d.len % 20))))), .v (.int .i64 (1 + d.mute % 1000)), .v (.int .i64 (1 + d.wait % 1000)), .v (.int .i64 (1 + d.cancel)), .v (.int .i64 (d.stay % 4))]) rfl rfl rfl ag39 sz39 rfl rfl rfl rfl ?_)
        refine opG rfl (aop_move (av := .v (.int .i64 (i : Int))) (.inl rfl) rfl rfl rfl ?_)
        refine opG rfl (callW_ (r05_Part (mkParts d.form d.jn) (i : Int) (by omega) hpf.2.2) rfl rfl rfl rfl rfl bd19 (lends_cons (lend_agg (lends_cons (lend_n (av := .one)) (lends_cons (.one _ rfl) (lends_cons (lend_n (av := .ro ((mkParts d.form d.jn).length) (enc eIL (mkParts d.form d.jn)))) (lends_cons (.one _ rfl) (lends_cons (.one _ rfl) (lends_cons (.one _ rfl) (lends_cons (.one _ rfl) (lends_cons (.one _ rfl) (lends_cons (.one _ rfl) (lends_cons (.one _ rfl) lends_nil))))))))))) (lends_cons (lend_n (av := .v (.int .i64 (i : Int)))) lends_nil)) ?_)
        refine opG rfl (aop_ixI 0 rfl rfl rfl ut47 sz3 rfl rfl (fun _ => rfl) rfl (by omega) (by first | omega | (simp; done) | decide | (simp; omega) | (simp at *; omega)) ?_)
        refine opG rfl (aop_eqv (d := 72) (a := .v (.int .i64 ((ownK f.own (mkParts d.form d.jn).length).getD (partI (mkParts d.form d.jn) (i : Int)).toNat 0))) (b := .v (.int .i64 ov)) (aop_ld (av := .v (.int .i64 ((ownK f.own (mkParts d.form d.jn).length).getD (partI (mkParts d.form d.jn) (i : Int)).toNat 0))) rfl rfl rfl ag3 rfl rfl rfl) (by rw [ho]) ?_)
        refine opG rfl (aop_move (av := .v (.int .i64 ov)) (.inr rfl) rfl rfl rfl ?_)
        refine op0 ?_
        show AWP _ _ _ _ _
        refine awp_imp ⟨(upd (upd (upd (upd (upd (upd (upd none_ 6 (.v (.bool false))) 7 (.pt 1 0)) 10 (.ro ((ownK f.own (mkParts d.form d.jn).length).length) (enc eI (ownK f.own (mkParts d.form d.jn).length)))) 12 (.ro ((ofK (mkParts d.form d.jn) (ownK f.own (mkParts d.form d.jn).length) ((viewsL (mkSecs d.form d.len).length f.looks).take (n.toNat % ((viewsL (mkSecs d.form d.len).length f.looks).length + 1))) (mkSecs d.form d.len).length).length) (enc eU8 (ofK (mkParts d.form d.jn) (ownK f.own (mkParts d.form d.jn).length) ((viewsL (mkSecs d.form d.len).length f.looks).take (n.toNat % ((viewsL (mkSecs d.form d.len).length f.looks).length + 1))) (mkSecs d.form d.len).length)))) 13 (.ro ((ofK (mkParts d.form d.jn) (ownK f.own (mkParts d.form d.jn).length) (viewsL (mkSecs d.form d.len).length f.looks) (mkSecs d.form d.len).length).length) (enc eU8 (ofK (mkParts d.form d.jn) (ownK f.own (mkParts d.form d.jn).length) (viewsL (mkSecs d.form d.len).length f.looks) (mkSecs d.form d.len).length)))) 14 (.v (.int .i64 (i : Int)))) 15 (.v (.int .i64 ov))), (updO noOb 1 (.live ⟨[.one, .ro ((mkSecs d.form d.len).length) (enc eSec (mkSecs d.form d.len)), .ro ((mkParts d.form d.jn).length) (enc eIL (mkParts d.form d.jn)), .ro ((mkPts d.form).length) (enc ePnt (mkPts d.form)), .ro ((fullRoutes d.form d.len d.rs).length) (enc eIL (fullRoutes d.form d.len d.rs)), .v (.int .i64 (1 + d.speed % (2 * (10 * (1 + d.len % 20))))), .v (.int .i64 (1 + d.mute % 1000)), .v (.int .i64 (1 + d.wait % 1000)), .v (.int .i64 (1 + d.cancel)), .v (.int .i64 (d.stay % 4))], 39, 1⟩))⟩ (imp_le ⟨(lee_upd 15 _ rfl (lee_upd 14 _ rfl (lee_upd 13 _ rfl (lee_upd 12 _ rfl (lee_upd 10 _ rfl (lee_upd 7 _ rfl (lee_upd 6 _ rfl (lee_none _)))))))), fun _ => .inl rfl⟩) ?_
        refine seqR ?_
        refine opG rfl (aop_move (av := .v (.int .i64 ov)) (.inl rfl) rfl rfl rfl ?_)
        refine opG rfl (aop_binI (u := (.bool (ov == (-1)))) rfl rfl rfl rfl rfl trivial rfl ?_)
        refine opG rfl (aop_move (av := .v (.bool (ov == (-1)))) (.inl rfl) rfl rfl rfl ?_)
        refine aops_grp 13 88 (.v (.bool ((ov == (-1)) && ((uv == 0) || (uv == 1))))) ?_ ?_
        · refine (Bool.eq_false_or_eq_true (ov == (-1))).elim (fun hg10 => ?_) (fun hg10 => ?_)
          · skip
            have hf11 := (beq_iff_eq).1 hg10
            refine opY rfl rfl rfl (by show AV.v (.bool (ov == (-1))) = _; rw [hg10]) (aop_move (av := .ro ((ofK (mkParts d.form d.jn) (ownK f.own (mkParts d.form d.jn).length) (viewsL (mkSecs d.form d.len).length f.looks) (mkSecs d.form d.len).length).length) (enc eU8 (ofK (mkParts d.form d.jn) (ownK f.own (mkParts d.form d.jn).length) (viewsL (mkSecs d.form d.len).length f.looks) (mkSecs d.form d.len).length))) (.inl rfl) rfl rfl rfl ?_)
            refine opY rfl rfl rfl (by show AV.v (.bool (ov == (-1))) = _; rw [hg10]) (aop_move (av := .v (.int .i64 (i : Int))) (.inl rfl) rfl rfl rfl ?_)
            refine opY rfl rfl rfl (by show AV.v (.bool (ov == (-1))) = _; rw [hg10]) (aop_ixE 0 rfl rfl rfl ut26 sz5 rfl rfl (fun _ => rfl) rfl (by first | omega | (simp; done) | decide | (simp; omega) | (simp at *; omega)) ?_)
            refine opY rfl rfl rfl (by show AV.v (.bool (ov == (-1))) = _; rw [hg10]) (aop_eqv (d := 79) (a := .v (.int .u8 ((ofK (mkParts d.form d.jn) (ownK f.own (mkParts d.form d.jn).length) (viewsL (mkSecs d.form d.len).length f.looks) (mkSecs d.form d.len).length).getD i 0))) (b := .v (.int .u8 uv)) (aop_ld (av := .v (.int .u8 ((ofK (mkParts d.form d.jn) (ownK f.own (mkParts d.form d.jn).length) (viewsL (mkSecs d.form d.len).length f.looks) (mkSecs d.form d.len).length).getD i 0))) rfl rfl rfl ag5 rfl rfl rfl) (by rw [huv]) ?_)
            refine opY rfl rfl rfl (by show AV.v (.bool (ov == (-1))) = _; rw [hg10]) (aop_binI (u := (.bool (uv == 0))) rfl rfl rfl rfl rfl trivial rfl ?_)
            refine opY rfl rfl rfl (by show AV.v (.bool (ov == (-1))) = _; rw [hg10]) (aop_move (av := .v (.bool (uv == 0))) (.inl rfl) rfl rfl rfl ?_)
            refine aops_grp 6 87 (.v (.bool ((uv == 0) || (uv == 1)))) ?_ ?_
            · refine (Bool.eq_false_or_eq_true (uv == 0)).elim (fun hg12 => ?_) (fun hg12 => ?_)
              · skip
                have hf13 := (beq_iff_eq).1 hg12
                refine opN rfl rfl rfl rfl (by show yv (.bool (uv == 0)) ≠ _; rw [hg12]; intro h; cases h) rfl rfl ?_
                refine opN rfl rfl rfl rfl (by show yv (.bool (uv == 0)) ≠ _; rw [hg12]; intro h; cases h) rfl rfl ?_
                refine opN rfl rfl rfl rfl (by show yv (.bool (uv == 0)) ≠ _; rw [hg12]; intro h; cases h) rfl rfl ?_
                refine opN rfl rfl rfl rfl (by show yv (.bool (uv == 0)) ≠ _; rw [hg12]; intro h; cases h) rfl rfl ?_
                refine opN rfl rfl rfl rfl (by show yv (.bool (uv == 0)) ≠ _; rw [hg12]; intro h; cases h) rfl rfl ?_
                refine opY rfl rfl rfl (by show AV.v (.bool (ov == (-1))) = _; rw [hg10]) (aop_pick (b := (uv == 0)) (av := .v (.bool true)) rfl rfl rfl rfl ((congrArg (fun b_ => cond b_ _ _) hg12).trans rfl) ?_)
                refine op0 ?_
                exact imp_env (lee_both 87 _ _ (by rw [hg12] <;> rfl) (lee_out 86 _ rfl (lee_out 85 _ rfl (lee_out 84 _ rfl (lee_out 83 _ rfl (lee_out 82 _ rfl (lee_same _)))))))
              · skip
                have hf14 := (beq_eq_false_iff_ne).1 hg12
                refine opY rfl rfl rfl (by show AV.v (.bool (uv == 0)) = _; rw [hg12]) (aop_move (av := .ro ((ofK (mkParts d.form d.jn) (ownK f.own (mkParts d.form d.jn).length) (viewsL (mkSecs d.form d.len).length f.looks) (mkSecs d.form d.len).length).length) (enc eU8 (ofK (mkParts d.form d.jn) (ownK f.own (mkParts d.form d.jn).length) (viewsL (mkSecs d.form d.len).length f.looks) (mkSecs d.form d.len).length))) (.inl rfl) rfl rfl rfl ?_)
                refine opY rfl rfl rfl (by show AV.v (.bool (uv == 0)) = _; rw [hg12]) (aop_move (av := .v (.int .i64 (i : Int))) (.inl rfl) rfl rfl rfl ?_)
                refine opY rfl rfl rfl (by show AV.v (.bool (uv == 0)) = _; rw [hg12]) (aop_ixE 0 rfl rfl rfl ut26 sz5 rfl rfl (fun _ => rfl) rfl (by first | omega | (simp; done) | decide | (simp; omega) | (simp at *; omega)) ?_)
                refine opY rfl rfl rfl (by show AV.v (.bool (uv == 0)) = _; rw [hg12]) (aop_eqv (d := 85) (a := .v (.int .u8 ((ofK (mkParts d.form d.jn) (ownK f.own (mkParts d.form d.jn).length) (viewsL (mkSecs d.form d.len).length f.looks) (mkSecs d.form d.len).length).getD i 0))) (b := .v (.int .u8 uv)) (aop_ld (av := .v (.int .u8 ((ofK (mkParts d.form d.jn) (ownK f.own (mkParts d.form d.jn).length) (viewsL (mkSecs d.form d.len).length f.looks) (mkSecs d.form d.len).length).getD i 0))) rfl rfl rfl ag5 rfl rfl rfl) (by rw [huv]) ?_)
                refine opY rfl rfl rfl (by show AV.v (.bool (uv == 0)) = _; rw [hg12]) (aop_binI (u := (.bool (uv == 1))) rfl rfl rfl rfl rfl trivial rfl ?_)
                refine opY rfl rfl rfl (by show AV.v (.bool (ov == (-1))) = _; rw [hg10]) (aop_pick (b := (uv == 0)) (av := .v (.bool (uv == 1))) rfl rfl rfl rfl ((congrArg (fun b_ => cond b_ _ _) hg12).trans rfl) ?_)
                refine op0 ?_
                exact imp_env (lee_both 87 _ _ (by rw [hg12] <;> rfl) (lee_out 86 _ rfl (lee_out 85 _ rfl (lee_out 84 _ rfl (lee_out 83 _ rfl (lee_out 82 _ rfl (lee_same _)))))))
            refine opG rfl (aop_pick (b := (ov == (-1))) (av := .v (.bool ((uv == 0) || (uv == 1)))) rfl rfl rfl rfl ((congrArg (fun b_ => cond b_ _ _) hg10).trans rfl) ?_)
            refine op0 ?_
            exact imp_env (lee_both 88 _ _ (by rw [hg10] <;> rfl) (lee_out 87 _ rfl (lee_out 81 _ rfl (lee_out 80 _ rfl (lee_out 79 _ rfl (lee_out 78 _ rfl (lee_out 77 _ rfl (lee_out 76 _ rfl (lee_same _)))))))))
          · skip
            have hf15 := (beq_eq_false_iff_ne).1 hg10
            refine opN rfl rfl rfl rfl (by show yv (.bool (ov == (-1))) ≠ _; rw [hg10]; intro h; cases h) rfl rfl ?_
            refine opN rfl rfl rfl rfl (by show yv (.bool (ov == (-1))) ≠ _; rw [hg10]; intro h; cases h) rfl rfl ?_
            refine opN rfl rfl rfl rfl (by show yv (.bool (ov == (-1))) ≠ _; rw [hg10]; intro h; cases h) rfl rfl ?_
            refine opN rfl rfl rfl rfl (by show yv (.bool (ov == (-1))) ≠ _; rw [hg10]; intro h; cases h) rfl rfl ?_
            refine opN rfl rfl rfl rfl (by show yv (.bool (ov == (-1))) ≠ _; rw [hg10]; intro h; cases h) rfl rfl ?_
            refine opN rfl rfl rfl rfl (by show yv (.bool (ov == (-1))) ≠ _; rw [hg10]; intro h; cases h) rfl rfl ?_
            refine opN rfl rfl rfl rfl (by intro h; cases h) rfl rfl ?_
            refine opN rfl rfl rfl rfl (by intro h; cases h) rfl rfl ?_
            refine opN rfl rfl rfl rfl (by intro h; cases h) rfl rfl ?_
            refine opN rfl rfl rfl rfl (by intro h; cases h) rfl rfl ?_
            refine opN rfl rfl rfl rfl (by intro h; cases h) rfl rfl ?_
            refine opN rfl rfl rfl rfl (by show yv (.bool (ov == (-1))) ≠ _; rw [hg10]; intro h; cases h) rfl rfl ?_
            refine opG rfl (aop_pick (b := (ov == (-1))) (av := .v (.bool false)) rfl rfl rfl rfl ((congrArg (fun b_ => cond b_ _ _) hg10).trans rfl) ?_)
            refine op0 ?_
            exact imp_env (lee_both 88 _ _ (by rw [hg10] <;> rfl) (lee_out 87 _ rfl (lee_out 86 _ rfl (lee_out 85 _ rfl (lee_out 84 _ rfl (lee_out 83 _ rfl (lee_out 82 _ rfl (lee_out 81 _ rfl (lee_out 80 _ rfl (lee_out 79 _ rfl (lee_out 78 _ rfl (lee_out 77 _ rfl (lee_out 76 _ rfl (lee_same _))))))))))))))
        refine opG rfl (aop_move (av := .v (.bool ((ov == (-1)) && ((uv == 0) || (uv == 1))))) (.inl rfl) rfl rfl rfl ?_)
        refine aops_grp 10 99 (.v (.bool (((ov == (-1)) && ((uv == 0) || (uv == 1))) || ((ov == (-2)) && (uv != 0))))) ?_ ?_
        · refine (Bool.eq_false_or_eq_true ((ov == (-1)) && ((uv == 0) || (uv == 1)))).elim (fun hg16 => ?_) (fun hg16 => ?_)
          · skip
            obtain ⟨hf17a, hf17b⟩ := and_t hg16
            have hf18 := (beq_iff_eq).1 hf17a
            refine opN rfl rfl rfl rfl (by show yv (.bool ((ov == (-1)) && ((uv == 0) || (uv == 1)))) ≠ _; rw [hg16]; intro h; cases h) rfl rfl ?_
            refine opN rfl rfl rfl rfl (by show yv (.bool ((ov == (-1)) && ((uv == 0) || (uv == 1)))) ≠ _; rw [hg16]; intro h; cases h) rfl rfl ?_
            refine opN rfl rfl rfl rfl (by show yv (.bool ((ov == (-1)) && ((uv == 0) || (uv == 1)))) ≠ _; rw [hg16]; intro h; cases h) rfl rfl ?_
            refine opN rfl rfl rfl rfl (by intro h; cases h) rfl rfl ?_
            refine opN rfl rfl rfl rfl (by intro h; cases h) rfl rfl ?_
            refine opN rfl rfl rfl rfl (by intro h; cases h) rfl rfl ?_
            refine opN rfl rfl rfl rfl (by intro h; cases h) rfl rfl ?_
            refine opN rfl rfl rfl rfl (by intro h; cases h) rfl rfl ?_
            refine opN rfl rfl rfl rfl (by show yv (.bool ((ov == (-1)) && ((uv == 0) || (uv == 1)))) ≠ _; rw [hg16]; intro h; cases h) rfl rfl ?_
            refine opG rfl (aop_pick (b := ((ov == (-1)) && ((uv == 0) || (uv == 1)))) (av := .v (.bool true)) rfl rfl rfl rfl ((congrArg (fun b_ => cond b_ _ _) hg16).trans rfl) ?_)
            refine op0 ?_
            exact imp_env (lee_both 99 _ _ (by rw [hg16] <;> rfl) (lee_out 98 _ rfl (lee_out 97 _ rfl (lee_out 96 _ rfl (lee_out 95 _ rfl (lee_out 94 _ rfl (lee_out 93 _ rfl (lee_out 92 _ rfl (lee_out 91 _ rfl (lee_out 90 _ rfl (lee_same _)))))))))))
          · skip
            refine opY rfl rfl rfl (by show AV.v (.bool ((ov == (-1)) && ((uv == 0) || (uv == 1)))) = _; rw [hg16]) (aop_move (av := .v (.int .i64 ov)) (.inl rfl) rfl rfl rfl ?_)
            refine opY rfl rfl rfl (by show AV.v (.bool ((ov == (-1)) && ((uv == 0) || (uv == 1)))) = _; rw [hg16]) (aop_binI (u := (.bool (ov == (-2)))) rfl rfl rfl rfl rfl trivial rfl ?_)
            refine opY rfl rfl rfl (by show AV.v (.bool ((ov == (-1)) && ((uv == 0) || (uv == 1)))) = _; rw [hg16]) (aop_move (av := .v (.bool (ov == (-2)))) (.inl rfl) rfl rfl rfl ?_)
            refine aops_grp 6 98 (.v (.bool ((ov == (-2)) && (uv != 0)))) ?_ ?_
            · refine (Bool.eq_false_or_eq_true (ov == (-2))).elim (fun hg19 => ?_) (fun hg19 => ?_)
              · skip
                have hf20 := (beq_iff_eq).1 hg19
                refine opY rfl rfl rfl (by show AV.v (.bool (ov == (-2))) = _; rw [hg19]) (aop_move (av := .ro ((ofK (mkParts d.form d.jn) (ownK f.own (mkParts d.form d.jn).length) (viewsL (mkSecs d.form d.len).length f.looks) (mkSecs d.form d.len).length).length) (enc eU8 (ofK (mkParts d.form d.jn) (ownK f.own (mkParts d.form d.jn).length) (viewsL (mkSecs d.form d.len).length f.looks) (mkSecs d.form d.len).length))) (.inl rfl) rfl rfl rfl ?_)
                refine opY rfl rfl rfl (by show AV.v (.bool (ov == (-2))) = _; rw [hg19]) (aop_move (av := .v (.int .i64 (i : Int))) (.inl rfl) rfl rfl rfl ?_)
                refine opY rfl rfl rfl (by show AV.v (.bool (ov == (-2))) = _; rw [hg19]) (aop_ixE 0 rfl rfl rfl ut26 sz5 rfl rfl (fun _ => rfl) rfl (by first | omega | (simp; done) | decide | (simp; omega) | (simp at *; omega)) ?_)
                refine opY rfl rfl rfl (by show AV.v (.bool (ov == (-2))) = _; rw [hg19]) (aop_eqv (d := 96) (a := .v (.int .u8 ((ofK (mkParts d.form d.jn) (ownK f.own (mkParts d.form d.jn).length) (viewsL (mkSecs d.form d.len).length f.looks) (mkSecs d.form d.len).length).getD i 0))) (b := .v (.int .u8 uv)) (aop_ld (av := .v (.int .u8 ((ofK (mkParts d.form d.jn) (ownK f.own (mkParts d.form d.jn).length) (viewsL (mkSecs d.form d.len).length f.looks) (mkSecs d.form d.len).length).getD i 0))) rfl rfl rfl ag5 rfl rfl rfl) (by rw [huv]) ?_)
                refine opY rfl rfl rfl (by show AV.v (.bool (ov == (-2))) = _; rw [hg19]) (aop_binI (u := (.bool (uv != 0))) rfl rfl rfl rfl rfl trivial rfl ?_)
                refine opY rfl rfl rfl (by show AV.v (.bool ((ov == (-1)) && ((uv == 0) || (uv == 1)))) = _; rw [hg16]) (aop_pick (b := (ov == (-2))) (av := .v (.bool (uv != 0))) rfl rfl rfl rfl ((congrArg (fun b_ => cond b_ _ _) hg19).trans rfl) ?_)
                refine op0 ?_
                exact imp_env (lee_both 98 _ _ (by rw [hg19] <;> rfl) (lee_out 97 _ rfl (lee_out 96 _ rfl (lee_out 95 _ rfl (lee_out 94 _ rfl (lee_out 93 _ rfl (lee_same _)))))))
              · skip
                have hf21 := (beq_eq_false_iff_ne).1 hg19
                refine opN rfl rfl rfl rfl (by show yv (.bool (ov == (-2))) ≠ _; rw [hg19]; intro h; cases h) rfl rfl ?_
                refine opN rfl rfl rfl rfl (by show yv (.bool (ov == (-2))) ≠ _; rw [hg19]; intro h; cases h) rfl rfl ?_
                refine opN rfl rfl rfl rfl (by show yv (.bool (ov == (-2))) ≠ _; rw [hg19]; intro h; cases h) rfl rfl ?_
                refine opN rfl rfl rfl rfl (by show yv (.bool (ov == (-2))) ≠ _; rw [hg19]; intro h; cases h) rfl rfl ?_
                refine opN rfl rfl rfl rfl (by show yv (.bool (ov == (-2))) ≠ _; rw [hg19]; intro h; cases h) rfl rfl ?_
                refine opY rfl rfl rfl (by show AV.v (.bool ((ov == (-1)) && ((uv == 0) || (uv == 1)))) = _; rw [hg16]) (aop_pick (b := (ov == (-2))) (av := .v (.bool false)) rfl rfl rfl rfl ((congrArg (fun b_ => cond b_ _ _) hg19).trans rfl) ?_)
                refine op0 ?_
                exact imp_env (lee_both 98 _ _ (by rw [hg19] <;> rfl) (lee_out 97 _ rfl (lee_out 96 _ rfl (lee_out 95 _ rfl (lee_out 94 _ rfl (lee_out 93 _ rfl (lee_same _)))))))
            refine opG rfl (aop_pick (b := ((ov == (-1)) && ((uv == 0) || (uv == 1)))) (av := .v (.bool ((ov == (-2)) && (uv != 0)))) rfl rfl rfl rfl ((congrArg (fun b_ => cond b_ _ _) hg16).trans rfl) ?_)
            refine op0 ?_
            exact imp_env (lee_both 99 _ _ (by rw [hg16] <;> rfl) (lee_out 98 _ rfl (lee_out 92 _ rfl (lee_out 91 _ rfl (lee_out 90 _ rfl (lee_same _))))))
        refine opG rfl (aop_move (av := .v (.bool (((ov == (-1)) && ((uv == 0) || (uv == 1))) || ((ov == (-2)) && (uv != 0))))) (.inl rfl) rfl rfl rfl ?_)
        refine aops_grp 13 113 (.v (.bool ((((ov == (-1)) && ((uv == 0) || (uv == 1))) || ((ov == (-2)) && (uv != 0))) || ((xv == 2) && (uv != 2))))) ?_ ?_
        · refine (Bool.eq_false_or_eq_true (((ov == (-1)) && ((uv == 0) || (uv == 1))) || ((ov == (-2)) && (uv != 0)))).elim (fun hg22 => ?_) (fun hg22 => ?_)
          · skip
            refine opN rfl rfl rfl rfl (by show yv (.bool (((ov == (-1)) && ((uv == 0) || (uv == 1))) || ((ov == (-2)) && (uv != 0)))) ≠ _; rw [hg22]; intro h; cases h) rfl rfl ?_
            refine opN rfl rfl rfl rfl (by show yv (.bool (((ov == (-1)) && ((uv == 0) || (uv == 1))) || ((ov == (-2)) && (uv != 0)))) ≠ _; rw [hg22]; intro h; cases h) rfl rfl ?_
            refine opN rfl rfl rfl rfl (by show yv (.bool (((ov == (-1)) && ((uv == 0) || (uv == 1))) || ((ov == (-2)) && (uv != 0)))) ≠ _; rw [hg22]; intro h; cases h) rfl rfl ?_
            refine opN rfl rfl rfl rfl (by show yv (.bool (((ov == (-1)) && ((uv == 0) || (uv == 1))) || ((ov == (-2)) && (uv != 0)))) ≠ _; rw [hg22]; intro h; cases h) rfl rfl ?_
            refine opN rfl rfl rfl rfl (by show yv (.bool (((ov == (-1)) && ((uv == 0) || (uv == 1))) || ((ov == (-2)) && (uv != 0)))) ≠ _; rw [hg22]; intro h; cases h) rfl rfl ?_
            refine opN rfl rfl rfl rfl (by show yv (.bool (((ov == (-1)) && ((uv == 0) || (uv == 1))) || ((ov == (-2)) && (uv != 0)))) ≠ _; rw [hg22]; intro h; cases h) rfl rfl ?_
            refine opN rfl rfl rfl rfl (by intro h; cases h) rfl rfl ?_
            refine opN rfl rfl rfl rfl (by intro h; cases h) rfl rfl ?_
            refine opN rfl rfl rfl rfl (by intro h; cases h) rfl rfl ?_
            refine opN rfl rfl rfl rfl (by intro h; cases h) rfl rfl ?_
            refine opN rfl rfl rfl rfl (by intro h; cases h) rfl rfl ?_
            refine opN rfl rfl rfl rfl (by show yv (.bool (((ov == (-1)) && ((uv == 0) || (uv == 1))) || ((ov == (-2)) && (uv != 0)))) ≠ _; rw [hg22]; intro h; cases h) rfl rfl ?_
            refine opG rfl (aop_pick (b := (((ov == (-1)) && ((uv == 0) || (uv == 1))) || ((ov == (-2)) && (uv != 0)))) (av := .v (.bool true)) rfl rfl rfl rfl ((congrArg (fun b_ => cond b_ _ _) hg22).trans rfl) ?_)
            refine op0 ?_
            exact imp_env (lee_both 113 _ _ (by rw [hg22] <;> rfl) (lee_out 112 _ rfl (lee_out 111 _ rfl (lee_out 110 _ rfl (lee_out 109 _ rfl (lee_out 108 _ rfl (lee_out 107 _ rfl (lee_out 106 _ rfl (lee_out 105 _ rfl (lee_out 104 _ rfl (lee_out 103 _ rfl (lee_out 102 _ rfl (lee_out 101 _ rfl (lee_same _))))))))))))))
          · skip
            obtain ⟨hf23a, hf23b⟩ := or_f hg22
            refine opY rfl rfl rfl (by show AV.v (.bool (((ov == (-1)) && ((uv == 0) || (uv == 1))) || ((ov == (-2)) && (uv != 0)))) = _; rw [hg22]) (aop_move (av := .ro ((ofK (mkParts d.form d.jn) (ownK f.own (mkParts d.form d.jn).length) ((viewsL (mkSecs d.form d.len).length f.looks).take (n.toNat % ((viewsL (mkSecs d.form d.len).length f.looks).length + 1))) (mkSecs d.form d.len).length).length) (enc eU8 (ofK (mkParts d.form d.jn) (ownK f.own (mkParts d.form d.jn).length) ((viewsL (mkSecs d.form d.len).length f.looks).take (n.toNat % ((viewsL (mkSecs d.form d.len).length f.looks).length + 1))) (mkSecs d.form d.len).length))) (.inl rfl) rfl rfl rfl ?_)
            refine opY rfl rfl rfl (by show AV.v (.bool (((ov == (-1)) && ((uv == 0) || (uv == 1))) || ((ov == (-2)) && (uv != 0)))) = _; rw [hg22]) (aop_move (av := .v (.int .i64 (i : Int))) (.inl rfl) rfl rfl rfl ?_)
            refine opY rfl rfl rfl (by show AV.v (.bool (((ov == (-1)) && ((uv == 0) || (uv == 1))) || ((ov == (-2)) && (uv != 0)))) = _; rw [hg22]) (aop_ixE 0 rfl rfl rfl ut26 sz5 rfl rfl (fun _ => rfl) rfl (by first | omega | (simp; done) | decide | (simp; omega) | (simp at *; omega)) ?_)
            refine opY rfl rfl rfl (by show AV.v (.bool (((ov == (-1)) && ((uv == 0) || (uv == 1))) || ((ov == (-2)) && (uv != 0)))) = _; rw [hg22]) (aop_eqv (d := 104) (a := .v (.int .u8 ((ofK (mkParts d.form d.jn) (ownK f.own (mkParts d.form d.jn).length) ((viewsL (mkSecs d.form d.len).length f.looks).take (n.toNat % ((viewsL (mkSecs d.form d.len).length f.looks).length + 1))) (mkSecs d.form d.len).length).getD i 0))) (b := .v (.int .u8 xv)) (aop_ld (av := .v (.int .u8 ((ofK (mkParts d.form d.jn) (ownK f.own (mkParts d.form d.jn).length) ((viewsL (mkSecs d.form d.len).length f.looks).take (n.toNat % ((viewsL (mkSecs d.form d.len).length f.looks).length + 1))) (mkSecs d.form d.len).length).getD i 0))) rfl rfl rfl ag5 rfl rfl rfl) (by rw [hxv]) ?_)
            refine opY rfl rfl rfl (by show AV.v (.bool (((ov == (-1)) && ((uv == 0) || (uv == 1))) || ((ov == (-2)) && (uv != 0)))) = _; rw [hg22]) (aop_binI (u := (.bool (xv == 2))) rfl rfl rfl rfl rfl trivial rfl ?_)
            refine opY rfl rfl rfl (by show AV.v (.bool (((ov == (-1)) && ((uv == 0) || (uv == 1))) || ((ov == (-2)) && (uv != 0)))) = _; rw [hg22]) (aop_move (av := .v (.bool (xv == 2))) (.inl rfl) rfl rfl rfl ?_)
            refine aops_grp 6 112 (.v (.bool ((xv == 2) && (uv != 2)))) ?_ ?_
            · refine (Bool.eq_false_or_eq_true (xv == 2)).elim (fun hg24 => ?_) (fun hg24 => ?_)
              · skip
                have hf25 := (beq_iff_eq).1 hg24
                refine opY rfl rfl rfl (by show AV.v (.bool (xv == 2)) = _; rw [hg24]) (aop_move (av := .ro ((ofK (mkParts d.form d.jn) (ownK f.own (mkParts d.form d.jn).length) (viewsL (mkSecs d.form d.len).length f.looks) (mkSecs d.form d.len).length).length) (enc eU8 (ofK (mkParts d.form d.jn) (ownK f.own (mkParts d.form d.jn).length) (viewsL (mkSecs d.form d.len).length f.looks) (mkSecs d.form d.len).length))) (.inl rfl) rfl rfl rfl ?_)
                refine opY rfl rfl rfl (by show AV.v (.bool (xv == 2)) = _; rw [hg24]) (aop_move (av := .v (.int .i64 (i : Int))) (.inl rfl) rfl rfl rfl ?_)
                refine opY rfl rfl rfl (by show AV.v (.bool (xv == 2)) = _; rw [hg24]) (aop_ixE 0 rfl rfl rfl ut26 sz5 rfl rfl (fun _ => rfl) rfl (by first | omega | (simp; done) | decide | (simp; omega) | (simp at *; omega)) ?_)
                refine opY rfl rfl rfl (by show AV.v (.bool (xv == 2)) = _; rw [hg24]) (aop_eqv (d := 110) (a := .v (.int .u8 ((ofK (mkParts d.form d.jn) (ownK f.own (mkParts d.form d.jn).length) (viewsL (mkSecs d.form d.len).length f.looks) (mkSecs d.form d.len).length).getD i 0))) (b := .v (.int .u8 uv)) (aop_ld (av := .v (.int .u8 ((ofK (mkParts d.form d.jn) (ownK f.own (mkParts d.form d.jn).length) (viewsL (mkSecs d.form d.len).length f.looks) (mkSecs d.form d.len).length).getD i 0))) rfl rfl rfl ag5 rfl rfl rfl) (by rw [huv]) ?_)
                refine opY rfl rfl rfl (by show AV.v (.bool (xv == 2)) = _; rw [hg24]) (aop_binI (u := (.bool (uv != 2))) rfl rfl rfl rfl rfl trivial rfl ?_)
                refine opY rfl rfl rfl (by show AV.v (.bool (((ov == (-1)) && ((uv == 0) || (uv == 1))) || ((ov == (-2)) && (uv != 0)))) = _; rw [hg22]) (aop_pick (b := (xv == 2)) (av := .v (.bool (uv != 2))) rfl rfl rfl rfl ((congrArg (fun b_ => cond b_ _ _) hg24).trans rfl) ?_)
                refine op0 ?_
                exact imp_env (lee_both 112 _ _ (by rw [hg24] <;> rfl) (lee_out 111 _ rfl (lee_out 110 _ rfl (lee_out 109 _ rfl (lee_out 108 _ rfl (lee_out 107 _ rfl (lee_same _)))))))
              · skip
                have hf26 := (beq_eq_false_iff_ne).1 hg24
                refine opN rfl rfl rfl rfl (by show yv (.bool (xv == 2)) ≠ _; rw [hg24]; intro h; cases h) rfl rfl ?_
                refine opN rfl rfl rfl rfl (by show yv (.bool (xv == 2)) ≠ _; rw [hg24]; intro h; cases h) rfl rfl ?_
                refine opN rfl rfl rfl rfl (by show yv (.bool (xv == 2)) ≠ _; rw [hg24]; intro h; cases h) rfl rfl ?_
                refine opN rfl rfl rfl rfl (by show yv (.bool (xv == 2)) ≠ _; rw [hg24]; intro h; cases h) rfl rfl ?_
                refine opN rfl rfl rfl rfl (by show yv (.bool (xv == 2)) ≠ _; rw [hg24]; intro h; cases h) rfl rfl ?_
                refine opY rfl rfl rfl (by show AV.v (.bool (((ov == (-1)) && ((uv == 0) || (uv == 1))) || ((ov == (-2)) && (uv != 0)))) = _; rw [hg22]) (aop_pick (b := (xv == 2)) (av := .v (.bool false)) rfl rfl rfl rfl ((congrArg (fun b_ => cond b_ _ _) hg24).trans rfl) ?_)
                refine op0 ?_
                exact imp_env (lee_both 112 _ _ (by rw [hg24] <;> rfl) (lee_out 111 _ rfl (lee_out 110 _ rfl (lee_out 109 _ rfl (lee_out 108 _ rfl (lee_out 107 _ rfl (lee_same _)))))))
            refine opG rfl (aop_pick (b := (((ov == (-1)) && ((uv == 0) || (uv == 1))) || ((ov == (-2)) && (uv != 0)))) (av := .v (.bool ((xv == 2) && (uv != 2)))) rfl rfl rfl rfl ((congrArg (fun b_ => cond b_ _ _) hg22).trans rfl) ?_)
            refine op0 ?_
            exact imp_env (lee_both 113 _ _ (by rw [hg22] <;> rfl) (lee_out 112 _ rfl (lee_out 106 _ rfl (lee_out 105 _ rfl (lee_out 104 _ rfl (lee_out 103 _ rfl (lee_out 102 _ rfl (lee_out 101 _ rfl (lee_same _)))))))))
        refine op0 ?_
        show AWP _ _ _ _ _
        refine awp_imp ⟨(upd (upd (upd (upd (upd (upd (upd (upd none_ 6 (.v (.bool false))) 7 (.pt 1 0)) 10 (.ro ((ownK f.own (mkParts d.form d.jn).length).length) (enc eI (ownK f.own (mkParts d.form d.jn).length)))) 12 (.ro ((ofK (mkParts d.form d.jn) (ownK f.own (mkParts d.form d.jn).length) ((viewsL (mkSecs d.form d.len).length f.looks).take (n.toNat % ((viewsL (mkSecs d.form d.len).length f.looks).length + 1))) (mkSecs d.form d.len).length).length) (enc eU8 (ofK (mkParts d.form d.jn) (ownK f.own (mkParts d.form d.jn).length) ((viewsL (mkSecs d.form d.len).length f.looks).take (n.toNat % ((viewsL (mkSecs d.form d.len).length f.looks).length + 1))) (mkSecs d.form d.len).length)))) 13 (.ro ((ofK (mkParts d.form d.jn) (ownK f.own (mkParts d.form d.jn).length) (viewsL (mkSecs d.form d.len).length f.looks) (mkSecs d.form d.len).length).length) (enc eU8 (ofK (mkParts d.form d.jn) (ownK f.own (mkParts d.form d.jn).length) (viewsL (mkSecs d.form d.len).length f.looks) (mkSecs d.form d.len).length)))) 14 (.v (.int .i64 (i : Int)))) 15 (.v (.int .i64 ov))) 113 (.v (.bool ((((ov == (-1)) && ((uv == 0) || (uv == 1))) || ((ov == (-2)) && (uv != 0))) || ((xv == 2) && (uv != 2)))))), (updO noOb 1 (.live ⟨[.one, .ro ((mkSecs d.form d.len).length) (enc eSec (mkSecs d.form d.len)), .ro ((mkParts d.form d.jn).length) (enc eIL (mkParts d.form d.jn)), .ro ((mkPts d.form).length) (enc ePnt (mkPts d.form)), .ro ((fullRoutes d.form d.len d.rs).length) (enc eIL (fullRoutes d.form d.len d.rs)), .v (.int .i64 (1 + d.speed % (2 * (10 * (1 + d.len % 20))))), .v (.int .i64 (1 + d.mute % 1000)), .v (.int .i64 (1 + d.wait % 1000)), .v (.int .i64 (1 + d.cancel)), .v (.int .i64 (d.stay % 4))], 39, 1⟩))⟩ (imp_le ⟨(lee_upd 113 _ rfl (lee_upd 15 _ rfl (lee_upd 14 _ rfl (lee_upd 13 _ rfl (lee_upd 12 _ rfl (lee_upd 10 _ rfl (lee_upd 7 _ rfl (lee_upd 6 _ rfl (lee_none _))))))))), fun _ => .inl rfl⟩) ?_
        refine awp_cond ((((ov == (-1)) && ((uv == 0) || (uv == 1))) || ((ov == (-2)) && (uv != 0))) || ((xv == 2) && (uv != 2))) rfl rfl (fun hc3 => ?_) (fun hc3 => ?_)
        · skip
          exfalso; rcases h1c with ⟨h1, h2, h3⟩ | ⟨h1, h2, h3⟩ | ⟨h1, h2, h3⟩ | ⟨h1, h2, h3⟩ | ⟨h1, h2 | h2, h3 | h3⟩ <;> simp [h1, h2, h3] at hc3 <;> omega
        · skip
          obtain ⟨hf27a, hf27b⟩ := or_f hc3
          obtain ⟨hf28a, hf28b⟩ := or_f hf27a
          refine awp_skip ?_
          show AWP _ _ _ _ _
          refine regR ?_
          refine opG rfl (aop_move (av := .v (.int .i64 (i : Int))) (.inl rfl) rfl rfl rfl ?_)
          refine opG rfl (aop_binI (u := (.int .i64 ((i + 1 : Nat) : Int))) rfl rfl rfl rfl rfl trivial (addN (by omega)) ?_)
          refine opG rfl (aop_move (av := .v (.int .i64 ((i + 1 : Nat) : Int))) (.inr rfl) rfl rfl rfl ?_)
          refine op0 ?_
          show _ ∧ _
          refine ⟨by omega, trivial, ?_⟩
          exact imp_ler [(1, 1)] (ler1 1 1 _ _ rfl rfl (NoIL.out (l := [.one, .ro ((mkSecs d.form d.len).length) (enc eSec (mkSecs d.form d.len)), .ro ((mkParts d.form d.jn).length) (enc eIL (mkParts d.form d.jn)), .ro ((mkPts d.form).length) (enc ePnt (mkPts d.form)), .ro ((fullRoutes d.form d.len d.rs).length) (enc eIL (fullRoutes d.form d.len d.rs)), .v (.int .i64 (1 + d.speed % (2 * (10 * (1 + d.len % 20))))), .v (.int .i64 (1 + d.mute % 1000)), .v (.int .i64 (1 + d.wait % 1000)), .v (.int .i64 (1 + d.cancel)), .v (.int .i64 (d.stay % 4))])) (sr_same 14 (.v (.int .i64 ((i + 1) : Int))) rfl NoI.out (sr_same 13 (.ro ((ofK (mkParts d.form d.jn) (ownK f.own (mkParts d.form d.jn).length) (viewsL (mkSecs d.form d.len).length f.looks) (mkSecs d.form d.len).length).length) (enc eU8 (ofK (mkParts d.form d.jn) (ownK f.own (mkParts d.form d.jn).length) (viewsL (mkSecs d.form d.len).length f.looks) (mkSecs d.form d.len).length))) rfl NoI.out (sr_same 12 (.ro ((ofK (mkParts d.form d.jn) (ownK f.own (mkParts d.form d.jn).length) ((viewsL (mkSecs d.form d.len).length f.looks).take (n.toNat % ((viewsL (mkSecs d.form d.len).length f.looks).length + 1))) (mkSecs d.form d.len).length).length) (enc eU8 (ofK (mkParts d.form d.jn) (ownK f.own (mkParts d.form d.jn).length) ((viewsL (mkSecs d.form d.len).length f.looks).take (n.toNat % ((viewsL (mkSecs d.form d.len).length f.looks).length + 1))) (mkSecs d.form d.len).length))) rfl NoI.out (sr_same 10 (.ro ((ownK f.own (mkParts d.form d.jn).length).length) (enc eI (ownK f.own (mkParts d.form d.jn).length))) rfl NoI.out (sr_map 7 (.pt 1 0) (by first | exact Ok.sl _ _ _ (by first | decide | simp) | exact Ok.pt _ _ (by first | decide | simp)) rfl (sr_same 6 (.v (.bool false)) rfl NoI.out sr_none))))))) (keep_of rfl)
      · skip
        have hf29 := of_decide_eq_false hc2
        refine awp_exit ?_
        show AWP _ _ _ _ _
        refine seqR ?_
        refine opG rfl (aop_move (av := .v (.bool true)) (.inr rfl) rfl rfl rfl ?_)
        refine op0 ?_
        show AWP _ _ _ _ _
        refine awp_ret ?_
        exact fret (av := .v (.bool true)) rfl rfl (by simp)
end Go.Lo
