/- Walks of Go functions in the logic of values. -/
import Derived.Test.YtgebbfapgncodaaFnETy
import Derived.Test.YtgebbfapgncodaaDef
import Derived.Test.YtgebbfapgncodaaLay
import Derived.Test.YtgebbfapgncodaaDr
import Derived.Test.YtgebbfapgncodaaPt
import Derived.Test.YtgebbfapgncodaaFnB
import Derived.Test.YtgebbfapgncodaaFnC
import Derived.Test.YtgebbfapgncodaaFnM
import Derived.Test.YtgebbfapgncodaaFnF
import Derived.Test.YtgebbfapgncodaaFnD
set_option linter.unusedVariables false
set_option linter.unusedSimpArgs false
namespace Go.Lo
open Go.Proofs
set_option maxRecDepth 10000 in
set_option maxHeartbeats 16000000 in
theorem l14_PointMay (d : Draft) (states span : List Int) (locked held : List Bool) (p : Int) (near : Bool) (hd : DraftOk d) (hsp : ∀ y, y ∈ span → 0 ≤ y ∧ y ≤ 255) : Fn Try.prog 4 [.agg [.v (.int .u8 d.form), .v (.int .u8 d.len), .v (.int .u8 d.speed), .v (.int .u16 d.mute), .v (.int .u16 d.wait), .v (.int .u8 d.cancel), .v (.int .u8 d.stay), .v (.int .u8 d.jn), .ro d.rs.length (enc eUL d.rs)], .ro states.length (enc eU8 states), .ro span.length (enc eU8 span), .ro locked.length (enc eB locked), .ro held.length (enc eB held), .v (.int .i64 p), .v (.bool near)] (.v (.bool true)) := by
  have hd1 := hd.form
  have hd2 := hd.len
  have hd3 := hd.speed
  have hd4 := hd.mute
  have hd5 := hd.wait
  have hd6 := hd.cancel
  have hd7 := hd.stay
  have hd8 := hd.jn
  have hd9 := hd.n
  have hmx : maxLen = 9223372036854775807 := rfl
  refine fnE_of_body (N := 109) Try.func4 rfl rfl (resOf1 rfl) (by simp) (fun w0 X => ?_)
  refine seqR ?_
  refine opG rfl (aop_box 51 rfl rfl rfl rfl rfl rfl rfl ?_)
  refine opG rfl (aop_move (av := .v (.bool false)) (.inr rfl) rfl rfl rfl ?_)
  refine op0 ?_
  show AWP _ _ _ _ _
  refine awp_seq ?_
  refine seqR ?_
  refine opG rfl (call_ (l14_grows) rfl rfl rfl rfl rfl bd8 rfl ?_)
  refine opG rfl (aop_not rfl rfl rfl rfl ?_)
  refine opG rfl (aop_move (av := .v (.bool false)) (.inl rfl) rfl rfl rfl ?_)
  refine opY rfl rfl rfl rfl (aop_ldB (cells' := [.v (.int .u8 d.form), .v (.int .u8 d.len), .v (.int .u8 d.speed), .v (.int .u16 d.mute), .v (.int .u16 d.wait), .v (.int .u8 d.cancel), .v (.int .u8 d.stay), .v (.int .u8 d.jn), .ro d.rs.length (enc eUL d.rs)]) rfl rfl rfl ag39 sz39 rfl rfl rfl rfl ?_)
  refine opY rfl rfl rfl rfl (callW_ (r04_Small d.rs (by omega)) rfl rfl rfl rfl rfl bd13 (lends_cons (lend_agg (lends_cons (.one _ rfl) (lends_cons (.one _ rfl) (lends_cons (.one _ rfl) (lends_cons (.one _ rfl) (lends_cons (.one _ rfl) (lends_cons (.one _ rfl) (lends_cons (.one _ rfl) (lends_cons (.one _ rfl) (lends_cons (lend_n (av := .ro d.rs.length (enc eUL d.rs))) lends_nil)))))))))) lends_nil) ?_)
  refine opY rfl rfl rfl rfl (aop_not rfl rfl rfl rfl ?_)
  refine opG rfl (aop_pick (b := false) (av := .v (.bool (!(smallB d.rs)))) rfl rfl rfl rfl rfl ?_)
  refine opG rfl (aop_move (av := .v (.bool (!(smallB d.rs)))) (.inl rfl) rfl rfl rfl ?_)
  refine aops_grp 4 31 (.v (.bool ((!(smallB d.rs)) || (decide ((states.length : Int) > 40))))) ?_ ?_
  · rcases Bool.eq_false_or_eq_true (!(smallB d.rs)) with hg1 | hg1
    · skip
      have hf2 := not_t hg1
      refine opN rfl rfl rfl rfl (by show yv (.bool (!(smallB d.rs))) ≠ _; rw [hg1]; intro h; cases h) rfl rfl ?_
      refine opN rfl rfl rfl rfl (by show yv (.bool (!(smallB d.rs))) ≠ _; rw [hg1]; intro h; cases h) rfl rfl ?_
      refine opN rfl rfl rfl rfl (by show yv (.bool (!(smallB d.rs))) ≠ _; rw [hg1]; intro h; cases h) rfl rfl ?_
      refine opG rfl (aop_pick (b := (!(smallB d.rs))) rfl rfl rfl rfl (by rw [hg1] <;> rfl) ?_)
      refine op0 ?_
      exact imp_env (lee_both 31 _ _ (by rw [hg1] <;> rfl) (lee_out 30 _ rfl (lee_out 29 _ rfl (lee_out 28 _ rfl (lee_same _)))))
    · skip
      have hf3 := not_f hg1
      refine opY rfl rfl rfl (by show AV.v (.bool (!(smallB d.rs))) = _; rw [hg1]) (aop_move (av := .ro states.length (enc eU8 states)) (.inl rfl) rfl rfl rfl ?_)
      refine opY rfl rfl rfl (by show AV.v (.bool (!(smallB d.rs))) = _; rw [hg1]) (aop_len rfl rfl rfl rfl ut40 (len_ro rfl) ?_)
      refine opY rfl rfl rfl (by show AV.v (.bool (!(smallB d.rs))) = _; rw [hg1]) (aop_binI (u := (.bool (decide ((states.length : Int) > 40)))) rfl rfl rfl rfl rfl trivial rfl ?_)
      refine opG rfl (aop_pick (b := (!(smallB d.rs))) rfl rfl rfl rfl (by rw [hg1] <;> rfl) ?_)
      refine op0 ?_
      exact imp_env (lee_both 31 _ _ (by rw [hg1] <;> rfl) (lee_out 30 _ rfl (lee_out 29 _ rfl (lee_out 28 _ rfl (lee_same _)))))
  refine opG rfl (aop_move (av := .v (.bool ((!(smallB d.rs)) || (decide ((states.length : Int) > 40))))) (.inl rfl) rfl rfl rfl ?_)
  refine aops_grp 4 36 (.v (.bool (((!(smallB d.rs)) || (decide ((states.length : Int) > 40))) || (decide ((span.length : Int) > 12))))) ?_ ?_
  · rcases Bool.eq_false_or_eq_true ((!(smallB d.rs)) || (decide ((states.length : Int) > 40))) with hg4 | hg4
    · skip
      refine opN rfl rfl rfl rfl (by show yv (.bool ((!(smallB d.rs)) || (decide ((states.length : Int) > 40)))) ≠ _; rw [hg4]; intro h; cases h) rfl rfl ?_
      refine opN rfl rfl rfl rfl (by show yv (.bool ((!(smallB d.rs)) || (decide ((states.length : Int) > 40)))) ≠ _; rw [hg4]; intro h; cases h) rfl rfl ?_
      refine opN rfl rfl rfl rfl (by show yv (.bool ((!(smallB d.rs)) || (decide ((states.length : Int) > 40)))) ≠ _; rw [hg4]; intro h; cases h) rfl rfl ?_
      refine opG rfl (aop_pick (b := ((!(smallB d.rs)) || (decide ((states.length : Int) > 40)))) rfl rfl rfl rfl (by rw [hg4] <;> rfl) ?_)
      refine op0 ?_
      exact imp_env (lee_both 36 _ _ (by rw [hg4] <;> rfl) (lee_out 35 _ rfl (lee_out 34 _ rfl (lee_out 33 _ rfl (lee_same _)))))
    · skip
      obtain ⟨hf5a, hf5b⟩ := or_f hg4
      have hf6 := not_f hf5a
      have hf7 := of_decide_eq_false hf5b
      refine opY rfl rfl rfl (by show AV.v (.bool ((!(smallB d.rs)) || (decide ((states.length : Int) > 40)))) = _; rw [hg4]) (aop_move (av := .ro span.length (enc eU8 span)) (.inl rfl) rfl rfl rfl ?_)
      refine opY rfl rfl rfl (by show AV.v (.bool ((!(smallB d.rs)) || (decide ((states.length : Int) > 40)))) = _; rw [hg4]) (aop_len rfl rfl rfl rfl ut40 (len_ro rfl) ?_)
      refine opY rfl rfl rfl (by show AV.v (.bool ((!(smallB d.rs)) || (decide ((states.length : Int) > 40)))) = _; rw [hg4]) (aop_binI (u := (.bool (decide ((span.length : Int) > 12)))) rfl rfl rfl rfl rfl trivial rfl ?_)
      refine opG rfl (aop_pick (b := ((!(smallB d.rs)) || (decide ((states.length : Int) > 40)))) rfl rfl rfl rfl (by rw [hg4] <;> rfl) ?_)
      refine op0 ?_
      exact imp_env (lee_both 36 _ _ (by rw [hg4] <;> rfl) (lee_out 35 _ rfl (lee_out 34 _ rfl (lee_out 33 _ rfl (lee_same _)))))
  refine opG rfl (aop_move (av := .v (.bool (((!(smallB d.rs)) || (decide ((states.length : Int) > 40))) || (decide ((span.length : Int) > 12))))) (.inl rfl) rfl rfl rfl ?_)
  refine aops_grp 4 41 (.v (.bool ((((!(smallB d.rs)) || (decide ((states.length : Int) > 40))) || (decide ((span.length : Int) > 12))) || (decide ((locked.length : Int) > 40))))) ?_ ?_
  · rcases Bool.eq_false_or_eq_true (((!(smallB d.rs)) || (decide ((states.length : Int) > 40))) || (decide ((span.length : Int) > 12))) with hg8 | hg8
    · skip
      refine opN rfl rfl rfl rfl (by show yv (.bool (((!(smallB d.rs)) || (decide ((states.length : Int) > 40))) || (decide ((span.length : Int) > 12)))) ≠ _; rw [hg8]; intro h; cases h) rfl rfl ?_
      refine opN rfl rfl rfl rfl (by show yv (.bool (((!(smallB d.rs)) || (decide ((states.length : Int) > 40))) || (decide ((span.length : Int) > 12)))) ≠ _; rw [hg8]; intro h; cases h) rfl rfl ?_
      refine opN rfl rfl rfl rfl (by show yv (.bool (((!(smallB d.rs)) || (decide ((states.length : Int) > 40))) || (decide ((span.length : Int) > 12)))) ≠ _; rw [hg8]; intro h; cases h) rfl rfl ?_
      refine opG rfl (aop_pick (b := (((!(smallB d.rs)) || (decide ((states.length : Int) > 40))) || (decide ((span.length : Int) > 12)))) rfl rfl rfl rfl (by rw [hg8] <;> rfl) ?_)
      refine op0 ?_
      exact imp_env (lee_both 41 _ _ (by rw [hg8] <;> rfl) (lee_out 40 _ rfl (lee_out 39 _ rfl (lee_out 38 _ rfl (lee_same _)))))
    · skip
      obtain ⟨hf9a, hf9b⟩ := or_f hg8
      obtain ⟨hf10a, hf10b⟩ := or_f hf9a
      have hf11 := not_f hf10a
      have hf12 := of_decide_eq_false hf10b
      have hf13 := of_decide_eq_false hf9b
      refine opY rfl rfl rfl (by show AV.v (.bool (((!(smallB d.rs)) || (decide ((states.length : Int) > 40))) || (decide ((span.length : Int) > 12)))) = _; rw [hg8]) (aop_move (av := .ro locked.length (enc eB locked)) (.inl rfl) rfl rfl rfl ?_)
      refine opY rfl rfl rfl (by show AV.v (.bool (((!(smallB d.rs)) || (decide ((states.length : Int) > 40))) || (decide ((span.length : Int) > 12)))) = _; rw [hg8]) (aop_len rfl rfl rfl rfl ut23 (len_ro rfl) ?_)
      refine opY rfl rfl rfl (by show AV.v (.bool (((!(smallB d.rs)) || (decide ((states.length : Int) > 40))) || (decide ((span.length : Int) > 12)))) = _; rw [hg8]) (aop_binI (u := (.bool (decide ((locked.length : Int) > 40)))) rfl rfl rfl rfl rfl trivial rfl ?_)
      refine opG rfl (aop_pick (b := (((!(smallB d.rs)) || (decide ((states.length : Int) > 40))) || (decide ((span.length : Int) > 12)))) rfl rfl rfl rfl (by rw [hg8] <;> rfl) ?_)
      refine op0 ?_
      exact imp_env (lee_both 41 _ _ (by rw [hg8] <;> rfl) (lee_out 40 _ rfl (lee_out 39 _ rfl (lee_out 38 _ rfl (lee_same _)))))
  refine opG rfl (aop_move (av := .v (.bool ((((!(smallB d.rs)) || (decide ((states.length : Int) > 40))) || (decide ((span.length : Int) > 12))) || (decide ((locked.length : Int) > 40))))) (.inl rfl) rfl rfl rfl ?_)
  refine aops_grp 4 46 (.v (.bool (((((!(smallB d.rs)) || (decide ((states.length : Int) > 40))) || (decide ((span.length : Int) > 12))) || (decide ((locked.length : Int) > 40))) || (decide ((held.length : Int) > 40))))) ?_ ?_
  · rcases Bool.eq_false_or_eq_true ((((!(smallB d.rs)) || (decide ((states.length : Int) > 40))) || (decide ((span.length : Int) > 12))) || (decide ((locked.length : Int) > 40))) with hg14 | hg14
    · skip
      refine opN rfl rfl rfl rfl (by show yv (.bool ((((!(smallB d.rs)) || (decide ((states.length : Int) > 40))) || (decide ((span.length : Int) > 12))) || (decide ((locked.length : Int) > 40)))) ≠ _; rw [hg14]; intro h; cases h) rfl rfl ?_
      refine opN rfl rfl rfl rfl (by show yv (.bool ((((!(smallB d.rs)) || (decide ((states.length : Int) > 40))) || (decide ((span.length : Int) > 12))) || (decide ((locked.length : Int) > 40)))) ≠ _; rw [hg14]; intro h; cases h) rfl rfl ?_
      refine opN rfl rfl rfl rfl (by show yv (.bool ((((!(smallB d.rs)) || (decide ((states.length : Int) > 40))) || (decide ((span.length : Int) > 12))) || (decide ((locked.length : Int) > 40)))) ≠ _; rw [hg14]; intro h; cases h) rfl rfl ?_
      refine opG rfl (aop_pick (b := ((((!(smallB d.rs)) || (decide ((states.length : Int) > 40))) || (decide ((span.length : Int) > 12))) || (decide ((locked.length : Int) > 40)))) rfl rfl rfl rfl (by rw [hg14] <;> rfl) ?_)
      refine op0 ?_
      exact imp_env (lee_both 46 _ _ (by rw [hg14] <;> rfl) (lee_out 45 _ rfl (lee_out 44 _ rfl (lee_out 43 _ rfl (lee_same _)))))
    · skip
      obtain ⟨hf15a, hf15b⟩ := or_f hg14
      obtain ⟨hf16a, hf16b⟩ := or_f hf15a
      obtain ⟨hf17a, hf17b⟩ := or_f hf16a
      have hf18 := not_f hf17a
      have hf19 := of_decide_eq_false hf17b
      have hf20 := of_decide_eq_false hf16b
      have hf21 := of_decide_eq_false hf15b
      refine opY rfl rfl rfl (by show AV.v (.bool ((((!(smallB d.rs)) || (decide ((states.length : Int) > 40))) || (decide ((span.length : Int) > 12))) || (decide ((locked.length : Int) > 40)))) = _; rw [hg14]) (aop_move (av := .ro held.length (enc eB held)) (.inl rfl) rfl rfl rfl ?_)
      refine opY rfl rfl rfl (by show AV.v (.bool ((((!(smallB d.rs)) || (decide ((states.length : Int) > 40))) || (decide ((span.length : Int) > 12))) || (decide ((locked.length : Int) > 40)))) = _; rw [hg14]) (aop_len rfl rfl rfl rfl ut23 (len_ro rfl) ?_)
      refine opY rfl rfl rfl (by show AV.v (.bool ((((!(smallB d.rs)) || (decide ((states.length : Int) > 40))) || (decide ((span.length : Int) > 12))) || (decide ((locked.length : Int) > 40)))) = _; rw [hg14]) (aop_binI (u := (.bool (decide ((held.length : Int) > 40)))) rfl rfl rfl rfl rfl trivial rfl ?_)
      refine opG rfl (aop_pick (b := ((((!(smallB d.rs)) || (decide ((states.length : Int) > 40))) || (decide ((span.length : Int) > 12))) || (decide ((locked.length : Int) > 40)))) rfl rfl rfl rfl (by rw [hg14] <;> rfl) ?_)
      refine op0 ?_
      exact imp_env (lee_both 46 _ _ (by rw [hg14] <;> rfl) (lee_out 45 _ rfl (lee_out 44 _ rfl (lee_out 43 _ rfl (lee_same _)))))
  refine op0 ?_
  show AWP _ _ _ _ _
  refine awp_imp ⟨(upd (upd (upd (upd (upd (upd (upd (upd (upd none_ 1 (.ro states.length (enc eU8 states))) 2 (.ro span.length (enc eU8 span))) 3 (.ro locked.length (enc eB locked))) 4 (.ro held.length (enc eB held))) 5 (.v (.int .i64 p))) 6 (.v (.bool near))) 7 (.pt 51 0)) 14 (.v (.bool false))) 46 (.v (.bool (((((!(smallB d.rs)) || (decide ((states.length : Int) > 40))) || (decide ((span.length : Int) > 12))) || (decide ((locked.length : Int) > 40))) || (decide ((held.length : Int) > 40)))))), (updO noOb 51 (.live ⟨[.v (.int .u8 d.form), .v (.int .u8 d.len), .v (.int .u8 d.speed), .v (.int .u16 d.mute), .v (.int .u16 d.wait), .v (.int .u8 d.cancel), .v (.int .u8 d.stay), .v (.int .u8 d.jn), .ro d.rs.length (enc eUL d.rs)], 39, 1⟩))⟩ (imp_le ⟨(lee_upd 46 _ rfl (lee_upd 14 _ rfl (lee_upd 7 _ rfl (lee_upd 6 _ rfl (lee_upd 5 _ rfl (lee_upd 4 _ rfl (lee_upd 3 _ rfl (lee_upd 2 _ rfl (lee_upd 1 _ rfl (lee_none _)))))))))), fun _ => .inl rfl⟩) ?_
  refine awp_cond (((((!(smallB d.rs)) || (decide ((states.length : Int) > 40))) || (decide ((span.length : Int) > 12))) || (decide ((locked.length : Int) > 40))) || (decide ((held.length : Int) > 40))) rfl rfl (fun hc0 => ?_) (fun hc0 => ?_)
  · skip
    refine seqR ?_
    refine opG rfl (call_ (l14_grows) rfl rfl rfl rfl rfl bd8 rfl ?_)
    refine opG rfl (aop_move (av := .v (.bool true)) (.inr rfl) rfl rfl rfl ?_)
    refine op0 ?_
    show AWP _ _ _ _ _
    refine awp_ret ?_
    exact fret (av := .v (.bool true)) rfl rfl rfl
  · skip
    obtain ⟨hf22a, hf22b⟩ := or_f hc0
    obtain ⟨hf23a, hf23b⟩ := or_f hf22a
    obtain ⟨hf24a, hf24b⟩ := or_f hf23a
    obtain ⟨hf25a, hf25b⟩ := or_f hf24a
    have hf26 := not_f hf25a
    have hf27 := of_decide_eq_false hf25b
    have hf28 := of_decide_eq_false hf24b
    have hf29 := of_decide_eq_false hf23b
    have hf30 := of_decide_eq_false hf22b
    have hsm : smallB d.rs = true := by cases h : smallB d.rs <;> simp [h] at hc0 ⊢
    have hr := small_rs hsm hd.rs
    have hl1 : states.length ≤ 40 := by simp at hc0; omega
    have hl2 : span.length ≤ 12 := by simp at hc0; omega
    have hl3 : locked.length ≤ 40 := by simp at hc0; omega
    have hl4 : held.length ≤ 40 := by simp at hc0; omega
    have hpl := mkPts_len (1 + d.form % 3)
    have htn := tenL_len span
    have hv2 : ∀ v, v ∈ ([⟨2, false, tenL span⟩] : List View) → v.span.length ≤ 65536 := fun v h => by rw [List.mem_singleton.1 h]; show (tenL span).length ≤ _; omega
    refine awp_skip ?_
    show AWP _ _ _ _ _
    refine seqR ?_
    refine opG rfl (aop_fieldAddr (av := .pt 51 0) (av' := .pt 51 0) rfl rfl rfl ft39_0 sz5 rfl rfl rfl ?_)
    refine opG rfl (aop_ld (av := .v (.int .u8 d.form)) rfl rfl rfl ag5 rfl rfl ?_)
    refine opG rfl (aop_binI (u := (.int .u8 (d.form % 3))) rfl rfl rfl rfl rfl (by show _ ≠ _; decide) (remI (by omega)) ?_)
    refine opG rfl (aop_binI (u := (.int .u8 (1 + d.form % 3))) rfl rfl rfl rfl rfl trivial (addU8 (by omega)) ?_)
    refine opG rfl (aop_fieldAddr (av := .pt 51 0) (av' := .pt 51 0) rfl rfl rfl ft39_0 sz5 rfl rfl rfl ?_)
    refine opG rfl (aop_store rfl rfl rfl sz5 rfl rfl rfl rfl rfl (Nat.le_of_ble_eq_true rfl) rfl rfl ?_)
    refine op0 ?_
    show AWP _ _ _ _ _
    refine awp_imp ⟨(upd (upd (upd (upd (upd (upd (upd (upd none_ 1 (.ro states.length (enc eU8 states))) 2 (.ro span.length (enc eU8 span))) 3 (.ro locked.length (enc eB locked))) 4 (.ro held.length (enc eB held))) 5 (.v (.int .i64 p))) 6 (.v (.bool near))) 7 (.pt 51 0)) 14 (.v (.bool false))), (updO (updO noOb 51 (.live ⟨[.v (.int .u8 d.form), .v (.int .u8 d.len), .v (.int .u8 d.speed), .v (.int .u16 d.mute), .v (.int .u16 d.wait), .v (.int .u8 d.cancel), .v (.int .u8 d.stay), .v (.int .u8 d.jn), .ro d.rs.length (enc eUL d.rs)], 39, 1⟩)) 51 (.live ⟨[.v (.int .u8 (1 + d.form % 3)), .v (.int .u8 d.len), .v (.int .u8 d.speed), .v (.int .u16 d.mute), .v (.int .u16 d.wait), .v (.int .u8 d.cancel), .v (.int .u8 d.stay), .v (.int .u8 d.jn), .ro d.rs.length (enc eUL d.rs)], 39, 1⟩))⟩ (imp_le ⟨(lee_upd 14 _ rfl (lee_upd 7 _ rfl (lee_upd 6 _ rfl (lee_upd 5 _ rfl (lee_upd 4 _ rfl (lee_upd 3 _ rfl (lee_upd 2 _ rfl (lee_upd 1 _ rfl (lee_none _))))))))), fun _ => .inl rfl⟩) ?_
    refine seqR ?_
    refine opG rfl (aop_ldB (cells' := [.v (.int .u8 (1 + d.form % 3)), .v (.int .u8 d.len), .v (.int .u8 d.speed), .v (.int .u16 d.mute), .v (.int .u16 d.wait), .v (.int .u8 d.cancel), .v (.int .u8 d.stay), .v (.int .u8 d.jn), .ro d.rs.length (enc eUL d.rs)]) rfl rfl rfl ag39 sz39 rfl rfl rfl rfl ?_)
    refine opG rfl (call_ (r05_Full (1 + d.form % 3) d.len d.speed d.mute d.wait d.cancel d.stay d.jn d.rs (by omega) hd2 hd3 hd4 hd5 hd6 hd7 hd8 hr.1 hr.2) rfl rfl rfl rfl rfl bd14 rfl ?_)
    refine opG rfl (aop_alloc 52 rfl rfl rfl rfl ze47 rfl ?_)
    refine opG rfl (aop_store rfl rfl rfl sz47 rfl rfl rfl rfl rfl (Nat.le_of_ble_eq_true rfl) rfl rfl ?_)
    refine op0 ?_
    show AWP _ _ _ _ _
    refine awp_imp ⟨(upd (upd (upd (upd (upd (upd (upd (upd none_ 1 (.ro states.length (enc eU8 states))) 2 (.ro span.length (enc eU8 span))) 3 (.ro locked.length (enc eB locked))) 4 (.ro held.length (enc eB held))) 5 (.v (.int .i64 p))) 6 (.v (.bool near))) 14 (.v (.bool false))) 15 (.pt 52 0)), (updO (updO (updO (updO noOb 51 (.live ⟨[.v (.int .u8 d.form), .v (.int .u8 d.len), .v (.int .u8 d.speed), .v (.int .u16 d.mute), .v (.int .u16 d.wait), .v (.int .u8 d.cancel), .v (.int .u8 d.stay), .v (.int .u8 d.jn), .ro d.rs.length (enc eUL d.rs)], 39, 1⟩)) 51 (.live ⟨[.v (.int .u8 (1 + d.form % 3)), .v (.int .u8 d.len), .v (.int .u8 d.speed), .v (.int .u16 d.mute), .v (.int .u16 d.wait), .v (.int .u8 d.cancel), .v (.int .u8 d.stay), .v (.int .u8 d.jn), .ro d.rs.length (enc eUL d.rs)], 39, 1⟩)) 52 (.live ⟨[.v (.slice none 0 0), .v (.slice none 0 0), .v (.slice none 0 0), .v (.slice none 0 0), .v (.slice none 0 0), .v (.int .i64 0), .v (.int .i64 0), .v (.int .i64 0), .v (.int .i64 0), .v (.int .i64 0)], 47, 1⟩)) 52 (.live ⟨[.one, .ro ((mkSecs (1 + d.form % 3) d.len).length) (enc eSec (mkSecs (1 + d.form % 3) d.len)), .ro ((mkParts (1 + d.form % 3) d.jn).length) (enc eIL (mkParts (1 + d.form % 3) d.jn)), .ro ((mkPts (1 + d.form % 3)).length) (enc ePnt (mkPts (1 + d.form % 3))), .ro ((fullRoutes (1 + d.form % 3) d.len d.rs).length) (enc eIL (fullRoutes (1 + d.form % 3) d.len d.rs)), .v (.int .i64 (1 + d.speed % (2 * (10 * (1 + d.len % 20))))), .v (.int .i64 (1 + d.mute % 1000)), .v (.int .i64 (1 + d.wait % 1000)), .v (.int .i64 (1 + d.cancel)), .v (.int .i64 (d.stay % 4))], 47, 1⟩))⟩ (imp_le ⟨(lee_upd 15 _ rfl (lee_upd 14 _ rfl (lee_upd 6 _ rfl (lee_upd 5 _ rfl (lee_upd 4 _ rfl (lee_upd 3 _ rfl (lee_upd 2 _ rfl (lee_upd 1 _ rfl (lee_none _))))))))), fun _ => .inl rfl⟩) ?_
    refine awp_seq ?_
    refine seqR ?_
    refine opG rfl (aop_move (av := .v (.bool near)) (.inl rfl) rfl rfl rfl ?_)
    refine op0 ?_
    show AWP _ _ _ _ _
    refine cutG ⟨(upd (upd (upd (upd (upd (upd (upd none_ 1 (.ro states.length (enc eU8 states))) 2 (.ro span.length (enc eU8 span))) 3 (.ro locked.length (enc eB locked))) 4 (.ro held.length (enc eB held))) 5 (.v (.int .i64 (nearP near p)))) 14 (.v (.bool false))) 15 (.pt 1 0)), (updO noOb 1 (.live ⟨[.one, .ro ((mkSecs (1 + d.form % 3) d.len).length) (enc eSec (mkSecs (1 + d.form % 3) d.len)), .ro ((mkParts (1 + d.form % 3) d.jn).length) (enc eIL (mkParts (1 + d.form % 3) d.jn)), .ro ((mkPts (1 + d.form % 3)).length) (enc ePnt (mkPts (1 + d.form % 3))), .ro ((fullRoutes (1 + d.form % 3) d.len d.rs).length) (enc eIL (fullRoutes (1 + d.form % 3) d.len d.rs)), .v (.int .i64 (1 + d.speed % (2 * (10 * (1 + d.len % 20))))), .v (.int .i64 (1 + d.mute % 1000)), .v (.int .i64 (1 + d.wait % 1000)), .v (.int .i64 (1 + d.cancel)), .v (.int .i64 (d.stay % 4))], 47, 1⟩))⟩ (fun s h => h) ?_ ?_
    · skip
      refine awp_cond near rfl rfl (fun hc1 => ?_) (fun hc1 => ?_)
      · skip
        refine regR ?_
        refine opG rfl (aop_move (av := .v (.int .i64 p)) (.inl rfl) rfl rfl rfl ?_)
        refine opG rfl (aop_binI (u := (.int .i64 (Int.tmod p 3))) rfl rfl rfl rfl rfl (by show _ ≠ _; decide) rfl ?_)
        refine opG rfl (aop_move (av := .v (.int .i64 (Int.tmod p 3))) (.inr rfl) rfl rfl rfl ?_)
        refine op0 ?_
        show Imp _ _ _
        exact imp_ler [(52, 1)] (ler1 52 1 _ _ rfl rfl (NoIL.out (l := [.one, .ro ((mkSecs (1 + d.form % 3) d.len).length) (enc eSec (mkSecs (1 + d.form % 3) d.len)), .ro ((mkParts (1 + d.form % 3) d.jn).length) (enc eIL (mkParts (1 + d.form % 3) d.jn)), .ro ((mkPts (1 + d.form % 3)).length) (enc ePnt (mkPts (1 + d.form % 3))), .ro ((fullRoutes (1 + d.form % 3) d.len d.rs).length) (enc eIL (fullRoutes (1 + d.form % 3) d.len d.rs)), .v (.int .i64 (1 + d.speed % (2 * (10 * (1 + d.len % 20))))), .v (.int .i64 (1 + d.mute % 1000)), .v (.int .i64 (1 + d.wait % 1000)), .v (.int .i64 (1 + d.cancel)), .v (.int .i64 (d.stay % 4))])) (sr_map 15 (.pt 1 0) (by first | exact Ok.sl _ _ _ (by first | decide | simp) | exact Ok.pt _ _ (by first | decide | simp)) rfl (sr_same 14 (.v (.bool false)) rfl NoI.out (sr_same 5 (.v (.int .i64 (nearP near p))) (by exact congrArg (fun n_ : Int => AV.v (.int .i64 n_)) (by first | exact (nearP_t hc1).symm | exact (nearP_f hc1).symm)) NoI.out (sr_same 4 (.ro held.length (enc eB held)) rfl NoI.out (sr_same 3 (.ro locked.length (enc eB locked)) rfl NoI.out (sr_same 2 (.ro span.length (enc eU8 span)) rfl NoI.out (sr_same 1 (.ro states.length (enc eU8 states)) rfl NoI.out sr_none)))))))) (keep_of rfl)
      · skip
        refine awp_skip ?_
        show Imp _ _ _
        exact imp_ler [(52, 1)] (ler1 52 1 _ _ rfl rfl (NoIL.out (l := [.one, .ro ((mkSecs (1 + d.form % 3) d.len).length) (enc eSec (mkSecs (1 + d.form % 3) d.len)), .ro ((mkParts (1 + d.form % 3) d.jn).length) (enc eIL (mkParts (1 + d.form % 3) d.jn)), .ro ((mkPts (1 + d.form % 3)).length) (enc ePnt (mkPts (1 + d.form % 3))), .ro ((fullRoutes (1 + d.form % 3) d.len d.rs).length) (enc eIL (fullRoutes (1 + d.form % 3) d.len d.rs)), .v (.int .i64 (1 + d.speed % (2 * (10 * (1 + d.len % 20))))), .v (.int .i64 (1 + d.mute % 1000)), .v (.int .i64 (1 + d.wait % 1000)), .v (.int .i64 (1 + d.cancel)), .v (.int .i64 (d.stay % 4))])) (sr_map 15 (.pt 1 0) (by first | exact Ok.sl _ _ _ (by first | decide | simp) | exact Ok.pt _ _ (by first | decide | simp)) rfl (sr_same 14 (.v (.bool false)) rfl NoI.out (sr_same 5 (.v (.int .i64 (nearP near p))) (by exact congrArg (fun n_ : Int => AV.v (.int .i64 n_)) (by first | exact (nearP_t hc1).symm | exact (nearP_f hc1).symm)) NoI.out (sr_same 4 (.ro held.length (enc eB held)) rfl NoI.out (sr_same 3 (.ro locked.length (enc eB locked)) rfl NoI.out (sr_same 2 (.ro span.length (enc eU8 span)) rfl NoI.out (sr_same 1 (.ro states.length (enc eU8 states)) rfl NoI.out sr_none)))))))) (keep_of rfl)
    show AWP _ _ _ _ _
    refine seqR ?_
    refine opG rfl (aop_move (av := .v (.slice none 0 0)) (.inr rfl) rfl rfl rfl ?_)
    refine op0 ?_
    show AWP _ _ _ _ _
    refine awp_seq ?_
    refine seqR ?_
    refine opG rfl (aop_move (av := .v (.int .i64 0)) (.inr rfl) rfl rfl rfl ?_)
    refine op0 ?_
    show AWP _ _ _ _ _
    refine awp_block ?_
    refine awp_countI (fun k => ⟨(upd (upd (upd (upd (upd (upd (upd (upd (upd none_ 1 (.ro states.length (enc eU8 states))) 2 (.ro span.length (enc eU8 span))) 3 (.ro locked.length (enc eB locked))) 4 (.ro held.length (enc eB held))) 5 (.v (.int .i64 (nearP near p)))) 14 (.v (.bool false))) 15 (.pt 1 0)) 16 (.sl 2 0 ((tenL (span.take k)).length))) 17 (.v (.int .i64 (k : Int)))), (updO (updO noOb 1 (.live ⟨[.one, .ro ((mkSecs (1 + d.form % 3) d.len).length) (enc eSec (mkSecs (1 + d.form % 3) d.len)), .ro ((mkParts (1 + d.form % 3) d.jn).length) (enc eIL (mkParts (1 + d.form % 3) d.jn)), .ro ((mkPts (1 + d.form % 3)).length) (enc ePnt (mkPts (1 + d.form % 3))), .ro ((fullRoutes (1 + d.form % 3) d.len d.rs).length) (enc eIL (fullRoutes (1 + d.form % 3) d.len d.rs)), .v (.int .i64 (1 + d.speed % (2 * (10 * (1 + d.len % 20))))), .v (.int .i64 (1 + d.mute % 1000)), .v (.int .i64 (1 + d.wait % 1000)), .v (.int .i64 (1 + d.cancel)), .v (.int .i64 (d.stay % 4))], 47, 1⟩)) 2 (.live ⟨(enc eI (tenL (span.take k))), 3, 1⟩))⟩) (fun k => True) (span.length) ?_ trivial (fun k hk_k hinv => ?_)
    · skip
      refine (imp_adopt 16 53 3 1 rfl rfl).trans ?_
      exact imp_ler [(1, 1), (53, 2)] (ler2 1 1 53 2 _ _ _ _ (by decide) (by decide) rfl rfl rfl rfl (NoIL.out (l := [.one, .ro ((mkSecs (1 + d.form % 3) d.len).length) (enc eSec (mkSecs (1 + d.form % 3) d.len)), .ro ((mkParts (1 + d.form % 3) d.jn).length) (enc eIL (mkParts (1 + d.form % 3) d.jn)), .ro ((mkPts (1 + d.form % 3)).length) (enc ePnt (mkPts (1 + d.form % 3))), .ro ((fullRoutes (1 + d.form % 3) d.len d.rs).length) (enc eIL (fullRoutes (1 + d.form % 3) d.len d.rs)), .v (.int .i64 (1 + d.speed % (2 * (10 * (1 + d.len % 20))))), .v (.int .i64 (1 + d.mute % 1000)), .v (.int .i64 (1 + d.wait % 1000)), .v (.int .i64 (1 + d.cancel)), .v (.int .i64 (d.stay % 4))])) (NoIL.out (l := [])) (sr_same 17 (.v (.int .i64 (0 : Int))) rfl NoI.out (sr_map 16 (.sl 2 0 ((tenL (span.take 0)).length)) (by first | exact Ok.sl _ _ _ (by first | decide | simp) | exact Ok.pt _ _ (by first | decide | simp)) rfl (sr_map 15 (.pt 1 0) (by first | exact Ok.sl _ _ _ (by first | decide | simp) | exact Ok.pt _ _ (by first | decide | simp)) rfl (sr_same 14 (.v (.bool false)) rfl NoI.out (sr_same 5 (.v (.int .i64 (nearP near p))) rfl NoI.out (sr_same 4 (.ro held.length (enc eB held)) rfl NoI.out (sr_same 3 (.ro locked.length (enc eB locked)) rfl NoI.out (sr_same 2 (.ro span.length (enc eU8 span)) rfl NoI.out (sr_same 1 (.ro states.length (enc eU8 states)) rfl NoI.out sr_none)))))))))) (keep_of rfl)
    have htl := tenL_len (span.take k)
    have htk : (span.take k).length ≤ span.length := by simp; omega
    refine awp_seq ?_
    refine seqR ?_
    refine opG rfl (aop_move (av := .v (.int .i64 (k : Int))) (.inl rfl) rfl rfl rfl ?_)
    refine opG rfl (aop_move (av := .ro span.length (enc eU8 span)) (.inl rfl) rfl rfl rfl ?_)
    refine opG rfl (aop_len rfl rfl rfl rfl ut40 (len_ro rfl) ?_)
    refine opG rfl (aop_binI (u := (.bool (decide ((k : Int) < (span.length : Int))))) rfl rfl rfl rfl rfl trivial rfl ?_)
    refine op0 ?_
    show AWP _ _ _ _ _
    refine awp_imp ⟨(upd (upd (upd (upd (upd (upd (upd (upd (upd (upd none_ 1 (.ro states.length (enc eU8 states))) 2 (.ro span.length (enc eU8 span))) 3 (.ro locked.length (enc eB locked))) 4 (.ro held.length (enc eB held))) 5 (.v (.int .i64 (nearP near p)))) 14 (.v (.bool false))) 15 (.pt 1 0)) 16 (.sl 2 0 ((tenL (span.take k)).length))) 17 (.v (.int .i64 (k : Int)))) 61 (.v (.bool (decide ((k : Int) < (span.length : Int)))))), (updO (updO noOb 1 (.live ⟨[.one, .ro ((mkSecs (1 + d.form % 3) d.len).length) (enc eSec (mkSecs (1 + d.form % 3) d.len)), .ro ((mkParts (1 + d.form % 3) d.jn).length) (enc eIL (mkParts (1 + d.form % 3) d.jn)), .ro ((mkPts (1 + d.form % 3)).length) (enc ePnt (mkPts (1 + d.form % 3))), .ro ((fullRoutes (1 + d.form % 3) d.len d.rs).length) (enc eIL (fullRoutes (1 + d.form % 3) d.len d.rs)), .v (.int .i64 (1 + d.speed % (2 * (10 * (1 + d.len % 20))))), .v (.int .i64 (1 + d.mute % 1000)), .v (.int .i64 (1 + d.wait % 1000)), .v (.int .i64 (1 + d.cancel)), .v (.int .i64 (d.stay % 4))], 47, 1⟩)) 2 (.live ⟨(enc eI (tenL (span.take k))), 3, 1⟩))⟩ (imp_le ⟨(lee_upd 61 _ rfl (lee_upd 17 _ rfl (lee_upd 16 _ rfl (lee_upd 15 _ rfl (lee_upd 14 _ rfl (lee_upd 5 _ rfl (lee_upd 4 _ rfl (lee_upd 3 _ rfl (lee_upd 2 _ rfl (lee_upd 1 _ rfl (lee_none _))))))))))), fun _ => .inl rfl⟩) ?_
    refine awp_cond (decide ((k : Int) < (span.length : Int))) rfl rfl (fun hc2 => ?_) (fun hc2 => ?_)
    · skip
      have hf31 := of_decide_eq_true hc2
      have hs0 := hsp _ (getD_mem (l := span) (k := k) 0 (by omega))
      refine awp_skip ?_
      show AWP _ _ _ _ _
      refine awp_seq ?_
      refine awp_block ?_
      refine regR ?_
      refine opG rfl (aop_move (av := .sl 2 0 ((tenL (span.take k)).length)) (.inl rfl) rfl rfl rfl ?_)
      refine opG rfl (aop_move (av := .ro span.length (enc eU8 span)) (.inl rfl) rfl rfl rfl ?_)
      refine opG rfl (aop_move (av := .v (.int .i64 (k : Int))) (.inl rfl) rfl rfl rfl ?_)
      refine opG rfl (aop_ixE 0 rfl rfl rfl ut40 sz5 rfl rfl (fun _ => rfl) rfl (by first | omega | (simp; done) | decide | (simp; omega) | (simp at *; omega)) ?_)
      refine opG rfl (aop_ld (av := .v (.int .u8 (span.getD k 0))) rfl rfl rfl ag5 rfl rfl ?_)
      refine opG rfl (aop_binI (u := (.int .u8 ((span.getD k 0) % 10))) rfl rfl rfl rfl rfl (by show _ ≠ _; decide) (remI (by omega)) ?_)
      refine opG rfl (aop_conv' rfl rfl rfl ut5 ut3 rfl (IntWalk.i64_in _ (by omega)) ?_)
      refine opG rfl (aop_lit rfl rfl rfl ut49 iz3 (by decide) (by decide) rfl rfl ?_)
      refine opG rfl (aop_app1 (f := eI) (l := tenL (span.take k)) 54 ((span.getD k 0) % 10 : Int) rfl rfl rfl rfl ut49 in3 rfl (by decide) rfl rfl rfl rfl rfl rfl (fun _ => rfl) rfl rfl (by first | omega | (simp; done) | decide | (simp; omega) | (simp at *; omega)) (by first | omega | (simp; done) | decide | (simp; omega) | (simp at *; omega)) rfl ?_)
      refine opG rfl (aop_move (av := .sl 54 0 (((tenL (span.take k)) ++ [((span.getD k 0) % 10 : Int)]).length)) (.inr rfl) rfl rfl rfl ?_)
      refine op0 ?_
      show AWP _ _ _ _ _
      refine awp_imp ⟨(upd (upd (upd (upd (upd (upd (upd (upd (upd none_ 1 (.ro states.length (enc eU8 states))) 2 (.ro span.length (enc eU8 span))) 3 (.ro locked.length (enc eB locked))) 4 (.ro held.length (enc eB held))) 5 (.v (.int .i64 (nearP near p)))) 14 (.v (.bool false))) 15 (.pt 1 0)) 16 (.sl 54 0 (((tenL (span.take k)) ++ [((span.getD k 0) % 10 : Int)]).length))) 17 (.v (.int .i64 (k : Int)))), (updO (updO (updO (updO noOb 1 (.live ⟨[.one, .ro ((mkSecs (1 + d.form % 3) d.len).length) (enc eSec (mkSecs (1 + d.form % 3) d.len)), .ro ((mkParts (1 + d.form % 3) d.jn).length) (enc eIL (mkParts (1 + d.form % 3) d.jn)), .ro ((mkPts (1 + d.form % 3)).length) (enc ePnt (mkPts (1 + d.form % 3))), .ro ((fullRoutes (1 + d.form % 3) d.len d.rs).length) (enc eIL (fullRoutes (1 + d.form % 3) d.len d.rs)), .v (.int .i64 (1 + d.speed % (2 * (10 * (1 + d.len % 20))))), .v (.int .i64 (1 + d.mute % 1000)), .v (.int .i64 (1 + d.wait % 1000)), .v (.int .i64 (1 + d.cancel)), .v (.int .i64 (d.stay % 4))], 47, 1⟩)) 2 (.live ⟨(enc eI (tenL (span.take k))), 3, 1⟩)) 2 .dead) 54 (.live ⟨(enc eI ((tenL (span.take k)) ++ [((span.getD k 0) % 10 : Int)])), 3, 1⟩))⟩ (imp_le ⟨(lee_upd 17 _ rfl (lee_upd 16 _ rfl (lee_upd 15 _ rfl (lee_upd 14 _ rfl (lee_upd 5 _ rfl (lee_upd 4 _ rfl (lee_upd 3 _ rfl (lee_upd 2 _ rfl (lee_upd 1 _ rfl (lee_none _)))))))))), fun _ => .inl rfl⟩) ?_
      refine regR ?_
      refine opG rfl (aop_move (av := .v (.int .i64 (k : Int))) (.inl rfl) rfl rfl rfl ?_)
      refine opG rfl (aop_binI (u := (.int .i64 ((k + 1 : Nat) : Int))) rfl rfl rfl rfl rfl trivial (addN (by omega)) ?_)
      refine opG rfl (aop_move (av := .v (.int .i64 ((k + 1 : Nat) : Int))) (.inr rfl) rfl rfl rfl ?_)
      refine op0 ?_
      show _ ∧ _
      have hs_ := tenL_step (l := span) (k := k) (by omega)
      refine ⟨by omega, trivial, ?_⟩
      exact imp_ler [(1, 1), (54, 2)] (ler2 1 1 54 2 _ _ _ _ (by decide) (by decide) rfl rfl rfl (by exact congrArg (fun l_ => LObj.mk (enc eI l_) 3 1) hs_) (NoIL.out (l := [.one, .ro ((mkSecs (1 + d.form % 3) d.len).length) (enc eSec (mkSecs (1 + d.form % 3) d.len)), .ro ((mkParts (1 + d.form % 3) d.jn).length) (enc eIL (mkParts (1 + d.form % 3) d.jn)), .ro ((mkPts (1 + d.form % 3)).length) (enc ePnt (mkPts (1 + d.form % 3))), .ro ((fullRoutes (1 + d.form % 3) d.len d.rs).length) (enc eIL (fullRoutes (1 + d.form % 3) d.len d.rs)), .v (.int .i64 (1 + d.speed % (2 * (10 * (1 + d.len % 20))))), .v (.int .i64 (1 + d.mute % 1000)), .v (.int .i64 (1 + d.wait % 1000)), .v (.int .i64 (1 + d.cancel)), .v (.int .i64 (d.stay % 4))])) (NoIL.out (l := (enc eI ((tenL (span.take k)) ++ [((span.getD k 0) % 10 : Int)])))) (sr_same 17 (.v (.int .i64 ((k + 1) : Int))) rfl NoI.out (sr_map 16 (.sl 2 0 ((tenL (span.take (k + 1))).length)) (by first | exact Ok.sl _ _ _ (by first | decide | simp) | exact Ok.pt _ _ (by first | decide | simp)) (by exact congrArg (AV.sl 2 0) (congrArg List.length hs_.symm)) (sr_map 15 (.pt 1 0) (by first | exact Ok.sl _ _ _ (by first | decide | simp) | exact Ok.pt _ _ (by first | decide | simp)) rfl (sr_same 14 (.v (.bool false)) rfl NoI.out (sr_same 5 (.v (.int .i64 (nearP near p))) rfl NoI.out (sr_same 4 (.ro held.length (enc eB held)) rfl NoI.out (sr_same 3 (.ro locked.length (enc eB locked)) rfl NoI.out (sr_same 2 (.ro span.length (enc eU8 span)) rfl NoI.out (sr_same 1 (.ro states.length (enc eU8 states)) rfl NoI.out sr_none)))))))))) (keep_of rfl)
    · skip
      have hf32 := of_decide_eq_false hc2
      refine awp_exit ?_
      show AWP _ _ _ _ _
      have he : tenL (span.take k) = tenL span := by rw [List.take_of_length_le (by omega)]
      refine awp_imp ⟨(upd (upd (upd (upd (upd (upd (upd (upd (upd (upd none_ 1 (.ro states.length (enc eU8 states))) 2 (.ro span.length (enc eU8 span))) 3 (.ro locked.length (enc eB locked))) 4 (.ro held.length (enc eB held))) 5 (.v (.int .i64 (nearP near p)))) 14 (.v (.bool false))) 15 (.pt 1 0)) 16 (.ro ((tenL span).length) (enc eI (tenL span)))) 17 (.v (.int .i64 (k : Int)))) 61 (.v (.bool (decide ((k : Int) < (span.length : Int)))))), (updO noOb 1 (.live ⟨[.one, .ro ((mkSecs (1 + d.form % 3) d.len).length) (enc eSec (mkSecs (1 + d.form % 3) d.len)), .ro ((mkParts (1 + d.form % 3) d.jn).length) (enc eIL (mkParts (1 + d.form % 3) d.jn)), .ro ((mkPts (1 + d.form % 3)).length) (enc ePnt (mkPts (1 + d.form % 3))), .ro ((fullRoutes (1 + d.form % 3) d.len d.rs).length) (enc eIL (fullRoutes (1 + d.form % 3) d.len d.rs)), .v (.int .i64 (1 + d.speed % (2 * (10 * (1 + d.len % 20))))), .v (.int .i64 (1 + d.mute % 1000)), .v (.int .i64 (1 + d.wait % 1000)), .v (.int .i64 (1 + d.cancel)), .v (.int .i64 (d.stay % 4))], 47, 1⟩))⟩ ?_ ?_
      · skip
        refine (frz_ [1] [(1, ⟨[.one, .ro ((mkSecs (1 + d.form % 3) d.len).length) (enc eSec (mkSecs (1 + d.form % 3) d.len)), .ro ((mkParts (1 + d.form % 3) d.jn).length) (enc eIL (mkParts (1 + d.form % 3) d.jn)), .ro ((mkPts (1 + d.form % 3)).length) (enc ePnt (mkPts (1 + d.form % 3))), .ro ((fullRoutes (1 + d.form % 3) d.len d.rs).length) (enc eIL (fullRoutes (1 + d.form % 3) d.len d.rs)), .v (.int .i64 (1 + d.speed % (2 * (10 * (1 + d.len % 20))))), .v (.int .i64 (1 + d.mute % 1000)), .v (.int .i64 (1 + d.wait % 1000)), .v (.int .i64 (1 + d.cancel)), .v (.int .i64 (d.stay % 4))], 47, 1⟩)] rfl (fun _ h => h) ⟨keep_cells (cs := [.one, .ro ((mkSecs (1 + d.form % 3) d.len).length) (enc eSec (mkSecs (1 + d.form % 3) d.len)), .ro ((mkParts (1 + d.form % 3) d.jn).length) (enc eIL (mkParts (1 + d.form % 3) d.jn)), .ro ((mkPts (1 + d.form % 3)).length) (enc ePnt (mkPts (1 + d.form % 3))), .ro ((fullRoutes (1 + d.form % 3) d.len d.rs).length) (enc eIL (fullRoutes (1 + d.form % 3) d.len d.rs)), .v (.int .i64 (1 + d.speed % (2 * (10 * (1 + d.len % 20))))), .v (.int .i64 (1 + d.mute % 1000)), .v (.int .i64 (1 + d.wait % 1000)), .v (.int .i64 (1 + d.cancel)), .v (.int .i64 (d.stay % 4))]) (by simp) rfl rfl (frzs_cons (.inl rfl) (frzs_cons (.inl rfl) (frzs_cons (.inl rfl) (frzs_cons (.inl rfl) (frzs_cons (.inl rfl) (frzs_cons (.inl rfl) (frzs_cons (.inl rfl) (frzs_cons (.inl rfl) (frzs_cons (.inl rfl) (frzs_cons (.inl rfl) frzs_nil)))))))))), trivial⟩ (fz_same 61 (.v (.bool (decide ((k : Int) < (span.length : Int))))) rfl (fz_same 17 (.v (.int .i64 (k : Int))) rfl (fz_lend 16 (.ro ((tenL (span.take k)).length) (enc eI (tenL (span.take k)))) (lend_s (id := 2) (n := (tenL (span.take k)).length) (o := ⟨(enc eI (tenL (span.take k))), 3, 1⟩) rfl (enc_len (fun _ => rfl) (by first | rfl | (simp; done)))) (fz_same 15 (.pt 1 0) rfl (fz_same 14 (.v (.bool false)) rfl (fz_same 5 (.v (.int .i64 (nearP near p))) rfl (fz_same 4 (.ro held.length (enc eB held)) rfl (fz_same 3 (.ro locked.length (enc eB locked)) rfl (fz_same 2 (.ro span.length (enc eU8 span)) rfl (fz_same 1 (.ro states.length (enc eU8 states)) rfl fz_none))))))))))).trans ?_
        exact imp_ler [(1, 1)] (ler1 1 1 _ _ rfl rfl (NoIL.out (l := [.one, .ro ((mkSecs (1 + d.form % 3) d.len).length) (enc eSec (mkSecs (1 + d.form % 3) d.len)), .ro ((mkParts (1 + d.form % 3) d.jn).length) (enc eIL (mkParts (1 + d.form % 3) d.jn)), .ro ((mkPts (1 + d.form % 3)).length) (enc ePnt (mkPts (1 + d.form % 3))), .ro ((fullRoutes (1 + d.form % 3) d.len d.rs).length) (enc eIL (fullRoutes (1 + d.form % 3) d.len d.rs)), .v (.int .i64 (1 + d.speed % (2 * (10 * (1 + d.len % 20))))), .v (.int .i64 (1 + d.mute % 1000)), .v (.int .i64 (1 + d.wait % 1000)), .v (.int .i64 (1 + d.cancel)), .v (.int .i64 (d.stay % 4))])) (sr_same 61 (.v (.bool (decide ((k : Int) < (span.length : Int))))) rfl NoI.out (sr_same 17 (.v (.int .i64 (k : Int))) rfl NoI.out (sr_same 16 (.ro ((tenL span).length) (enc eI (tenL span))) (by rw [← he]; rfl) NoI.out (sr_map 15 (.pt 1 0) (by first | exact Ok.sl _ _ _ (by first | decide | simp) | exact Ok.pt _ _ (by first | decide | simp)) rfl (sr_same 14 (.v (.bool false)) rfl NoI.out (sr_same 5 (.v (.int .i64 (nearP near p))) rfl NoI.out (sr_same 4 (.ro held.length (enc eB held)) rfl NoI.out (sr_same 3 (.ro locked.length (enc eB locked)) rfl NoI.out (sr_same 2 (.ro span.length (enc eU8 span)) rfl NoI.out (sr_same 1 (.ro states.length (enc eU8 states)) rfl NoI.out sr_none))))))))))) (keep_of rfl)
      refine seqR ?_
      refine opG rfl (aop_move (av := .ro ((tenL span).length) (enc eI (tenL span))) (.inl rfl) rfl rfl rfl ?_)
      refine opG rfl (aop_build rfl rfl rfl pl51 rfl ?_)
      refine opG rfl (aop_lit rfl rfl rfl ut52 iz51 (by decide) (by decide) rfl rfl ?_)
      refine opG rfl (aop_move (av := .ro ((tenL span).length) (enc eI (tenL span))) (.inl rfl) rfl rfl rfl ?_)
      refine opG rfl (aop_build rfl rfl rfl pl53 rfl ?_)
      refine opG rfl (aop_lit rfl rfl rfl ut54 iz53 (by decide) (by decide) rfl rfl ?_)
      refine opG rfl (aop_move (av := .ro 1 [.v (.int .i64 2), .v (.bool false), .ro ((tenL span).length) (enc eI (tenL span))]) (.inr rfl) rfl rfl rfl ?_)
      refine opG rfl (aop_move (av := .ro 1 [.v (.int .i64 2), .v (.bool false), .ro ((tenL span).length) (enc eI (tenL span))]) (.inr rfl) rfl rfl rfl ?_)
      refine op0 ?_
      show AWP _ _ _ _ _
      refine awp_imp ⟨(upd (upd (upd (upd (upd (upd (upd (upd none_ 1 (.ro states.length (enc eU8 states))) 3 (.ro locked.length (enc eB locked))) 4 (.ro held.length (enc eB held))) 5 (.v (.int .i64 (nearP near p)))) 14 (.v (.bool false))) 15 (.pt 1 0)) 18 (.ro 1 [.v (.int .i64 2), .v (.bool false), .ro ((tenL span).length) (enc eI (tenL span))])) 19 (.ro 1 [.v (.int .i64 2), .v (.bool false), .ro ((tenL span).length) (enc eI (tenL span))])), (updO noOb 1 (.live ⟨[.one, .ro ((mkSecs (1 + d.form % 3) d.len).length) (enc eSec (mkSecs (1 + d.form % 3) d.len)), .ro ((mkParts (1 + d.form % 3) d.jn).length) (enc eIL (mkParts (1 + d.form % 3) d.jn)), .ro ((mkPts (1 + d.form % 3)).length) (enc ePnt (mkPts (1 + d.form % 3))), .ro ((fullRoutes (1 + d.form % 3) d.len d.rs).length) (enc eIL (fullRoutes (1 + d.form % 3) d.len d.rs)), .v (.int .i64 (1 + d.speed % (2 * (10 * (1 + d.len % 20))))), .v (.int .i64 (1 + d.mute % 1000)), .v (.int .i64 (1 + d.wait % 1000)), .v (.int .i64 (1 + d.cancel)), .v (.int .i64 (d.stay % 4))], 47, 1⟩))⟩ (imp_le ⟨(lee_upd 19 _ rfl (lee_upd 18 _ rfl (lee_upd 15 _ rfl (lee_upd 14 _ rfl (lee_upd 5 _ rfl (lee_upd 4 _ rfl (lee_upd 3 _ rfl (lee_upd 1 _ rfl (lee_none _))))))))), fun _ => .inl rfl⟩) ?_
      refine awp_seq ?_
      rcases Bool.eq_false_or_eq_true ((mayB (mkPts (1 + d.form % 3)) states [(⟨2, false, tenL span⟩ : View)] locked held (nearP near p)) == (mayB (mkPts (1 + d.form % 3)) states [(⟨2, false, tenL span⟩ : View)] locked held (nearP near p))) with hg33 | hg33
      · skip
        refine awp_draw (m := 30) [(108, .v (.bool ((mayB (mkPts (1 + d.form % 3)) states ([] : List View) locked held (nearP near p)) == (mayB (mkPts (1 + d.form % 3)) states ([] : List View) locked held (nearP near p))))), (107, .v (.bool ((mayB (mkPts (1 + d.form % 3)) states ([] : List View) locked held (nearP near p)) == (mayB (mkPts (1 + d.form % 3)) states ([] : List View) locked held (nearP near p))))), (106, .v (.bool (mayB (mkPts (1 + d.form % 3)) states ([] : List View) locked held (nearP near p)))), (105, .v (.int .i64 (nearP near p))), (104, .ro held.length (enc eB held)), (103, .ro locked.length (enc eB locked)), (102, .ro states.length (enc eU8 states)), (101, .agg [.one, .ro ((mkSecs (1 + d.form % 3) d.len).length) (enc eSec (mkSecs (1 + d.form % 3) d.len)), .ro ((mkParts (1 + d.form % 3) d.jn).length) (enc eIL (mkParts (1 + d.form % 3) d.jn)), .ro ((mkPts (1 + d.form % 3)).length) (enc ePnt (mkPts (1 + d.form % 3))), .ro ((fullRoutes (1 + d.form % 3) d.len d.rs).length) (enc eIL (fullRoutes (1 + d.form % 3) d.len d.rs)), .v (.int .i64 (1 + d.speed % (2 * (10 * (1 + d.len % 20))))), .v (.int .i64 (1 + d.mute % 1000)), .v (.int .i64 (1 + d.wait % 1000)), .v (.int .i64 (1 + d.cancel)), .v (.int .i64 (d.stay % 4))]), (100, .v (.bool (mayB (mkPts (1 + d.form % 3)) states ([] : List View) locked held (nearP near p)))), (99, .v (.int .i64 (nearP near p))), (98, .ro held.length (enc eB held)), (97, .ro locked.length (enc eB locked)), (96, .ro states.length (enc eU8 states)), (95, .agg [.one, .ro ((mkSecs (1 + d.form % 3) d.len).length) (enc eSec (mkSecs (1 + d.form % 3) d.len)), .ro ((mkParts (1 + d.form % 3) d.jn).length) (enc eIL (mkParts (1 + d.form % 3) d.jn)), .ro ((mkPts (1 + d.form % 3)).length) (enc ePnt (mkPts (1 + d.form % 3))), .ro ((fullRoutes (1 + d.form % 3) d.len d.rs).length) (enc eIL (fullRoutes (1 + d.form % 3) d.len d.rs)), .v (.int .i64 (1 + d.speed % (2 * (10 * (1 + d.len % 20))))), .v (.int .i64 (1 + d.mute % 1000)), .v (.int .i64 (1 + d.wait % 1000)), .v (.int .i64 (1 + d.cancel)), .v (.int .i64 (d.stay % 4))]), (94, .v (.bool ((mayB (mkPts (1 + d.form % 3)) states [(⟨2, false, tenL span⟩ : View)] locked held (nearP near p)) == (mayB (mkPts (1 + d.form % 3)) states [(⟨2, false, tenL span⟩ : View)] locked held (nearP near p))))), (93, .v (.bool ((mayB (mkPts (1 + d.form % 3)) states [(⟨2, false, tenL span⟩ : View)] locked held (nearP near p)) == (mayB (mkPts (1 + d.form % 3)) states [(⟨2, false, tenL span⟩ : View)] locked held (nearP near p))))), (92, .v (.bool (mayB (mkPts (1 + d.form % 3)) states [(⟨2, false, tenL span⟩ : View)] locked held (nearP near p)))), (91, .v (.int .i64 (nearP near p))), (90, .ro held.length (enc eB held)), (89, .ro locked.length (enc eB locked)), (88, .ro 1 [.v (.int .i64 2), .v (.bool false), .ro ((tenL span).length) (enc eI (tenL span))]), (87, .ro states.length (enc eU8 states)), (86, .agg [.one, .ro ((mkSecs (1 + d.form % 3) d.len).length) (enc eSec (mkSecs (1 + d.form % 3) d.len)), .ro ((mkParts (1 + d.form % 3) d.jn).length) (enc eIL (mkParts (1 + d.form % 3) d.jn)), .ro ((mkPts (1 + d.form % 3)).length) (enc ePnt (mkPts (1 + d.form % 3))), .ro ((fullRoutes (1 + d.form % 3) d.len d.rs).length) (enc eIL (fullRoutes (1 + d.form % 3) d.len d.rs)), .v (.int .i64 (1 + d.speed % (2 * (10 * (1 + d.len % 20))))), .v (.int .i64 (1 + d.mute % 1000)), .v (.int .i64 (1 + d.wait % 1000)), .v (.int .i64 (1 + d.cancel)), .v (.int .i64 (d.stay % 4))]), (85, .v (.bool (mayB (mkPts (1 + d.form % 3)) states [(⟨2, false, tenL span⟩ : View)] locked held (nearP near p)))), (84, .v (.int .i64 (nearP near p))), (83, .ro held.length (enc eB held)), (82, .ro locked.length (enc eB locked)), (81, .ro 1 [.v (.int .i64 2), .v (.bool false), .ro ((tenL span).length) (enc eI (tenL span))]), (80, .ro states.length (enc eU8 states)), (79, .agg [.one, .ro ((mkSecs (1 + d.form % 3) d.len).length) (enc eSec (mkSecs (1 + d.form % 3) d.len)), .ro ((mkParts (1 + d.form % 3) d.jn).length) (enc eIL (mkParts (1 + d.form % 3) d.jn)), .ro ((mkPts (1 + d.form % 3)).length) (enc ePnt (mkPts (1 + d.form % 3))), .ro ((fullRoutes (1 + d.form % 3) d.len d.rs).length) (enc eIL (fullRoutes (1 + d.form % 3) d.len d.rs)), .v (.int .i64 (1 + d.speed % (2 * (10 * (1 + d.len % 20))))), .v (.int .i64 (1 + d.mute % 1000)), .v (.int .i64 (1 + d.wait % 1000)), .v (.int .i64 (1 + d.cancel)), .v (.int .i64 (d.stay % 4))])] mixed (by kernel_rfl) ?_ ?_
        · refine ⟨?_, ?_, ?_, ?_, ?_, ?_, ?_, ?_, ?_, ?_, ?_, ?_, ?_, ?_, ?_, ?_, ?_, ?_, ?_, ?_, ?_, ?_, ?_, ?_, ?_, ?_, ?_, ?_, ?_, ?_, trivial⟩
          · exact ⟨79, rfl, blt_lt rfl, fun st hob hE => aop_ldB (cells' := [.one, .ro ((mkSecs (1 + d.form % 3) d.len).length) (enc eSec (mkSecs (1 + d.form % 3) d.len)), .ro ((mkParts (1 + d.form % 3) d.jn).length) (enc eIL (mkParts (1 + d.form % 3) d.jn)), .ro ((mkPts (1 + d.form % 3)).length) (enc ePnt (mkPts (1 + d.form % 3))), .ro ((fullRoutes (1 + d.form % 3) d.len d.rs).length) (enc eIL (fullRoutes (1 + d.form % 3) d.len d.rs)), .v (.int .i64 (1 + d.speed % (2 * (10 * (1 + d.len % 20))))), .v (.int .i64 (1 + d.mute % 1000)), .v (.int .i64 (1 + d.wait % 1000)), .v (.int .i64 (1 + d.cancel)), .v (.int .i64 (d.stay % 4))]) rfl rfl rfl ag47 sz47 (hE 15 rfl) (by rw [hob]; rfl) rfl rfl (by rw [hob]; rfl)⟩
          · exact ⟨80, rfl, blt_lt rfl, fun st hob hE => aop_move (av := .ro states.length (enc eU8 states)) (.inl rfl) rfl rfl (hE 1 rfl) (by rw [hob]; rfl)⟩
          · exact ⟨81, rfl, blt_lt rfl, fun st hob hE => aop_move (av := .ro 1 [.v (.int .i64 2), .v (.bool false), .ro ((tenL span).length) (enc eI (tenL span))]) (.inl rfl) rfl rfl (hE 18 rfl) (by rw [hob]; rfl)⟩
          · exact ⟨82, rfl, blt_lt rfl, fun st hob hE => aop_move (av := .ro locked.length (enc eB locked)) (.inl rfl) rfl rfl (hE 3 rfl) (by rw [hob]; rfl)⟩
          · exact ⟨83, rfl, blt_lt rfl, fun st hob hE => aop_move (av := .ro held.length (enc eB held)) (.inl rfl) rfl rfl (hE 4 rfl) (by rw [hob]; rfl)⟩
          · exact ⟨84, rfl, blt_lt rfl, fun st hob hE => aop_move (av := .v (.int .i64 (nearP near p))) (.inl rfl) rfl rfl (hE 5 rfl) (by rw [hob]; rfl)⟩
          · exact ⟨85, rfl, blt_lt rfl, fun st hob hE => callW_ (p_May (mkPts (1 + d.form % 3)) states [⟨2, false, tenL span⟩] locked held (nearP near p) (by omega) (by omega) (by simp) (by omega) (by omega) hv2) rfl rfl rfl rfl rfl bd15 (by show Lends _ ([st.env 79, st.env 80, st.env 81, st.env 82, st.env 83, st.env 84] ++ _) _; rw [hE 79 rfl, hE 80 rfl, hE 81 rfl, hE 82 rfl, hE 83 rfl, hE 84 rfl]; exact (lends_cons (lend_agg (lends_cons (lend_n (av := .one)) (lends_cons (.one _ rfl) (lends_cons (.one _ rfl) (lends_cons (lend_n (av := .ro ((mkPts (1 + d.form % 3)).length) (enc ePnt (mkPts (1 + d.form % 3))))) (lends_cons (.one _ rfl) (lends_cons (.one _ rfl) (lends_cons (.one _ rfl) (lends_cons (.one _ rfl) (lends_cons (.one _ rfl) (lends_cons (.one _ rfl) lends_nil))))))))))) (lends_cons (lend_n (av := .ro states.length (enc eU8 states))) (lends_cons (lend_n (av := .ro 1 [.v (.int .i64 2), .v (.bool false), .ro ((tenL span).length) (enc eI (tenL span))])) (lends_cons (lend_n (av := .ro locked.length (enc eB locked))) (lends_cons (lend_n (av := .ro held.length (enc eB held))) (lends_cons (lend_n (av := .v (.int .i64 (nearP near p)))) lends_nil))))))) (by rw [hob]; rfl)⟩
          · exact ⟨86, rfl, blt_lt rfl, fun st hob hE => aop_ldB (cells' := [.one, .ro ((mkSecs (1 + d.form % 3) d.len).length) (enc eSec (mkSecs (1 + d.form % 3) d.len)), .ro ((mkParts (1 + d.form % 3) d.jn).length) (enc eIL (mkParts (1 + d.form % 3) d.jn)), .ro ((mkPts (1 + d.form % 3)).length) (enc ePnt (mkPts (1 + d.form % 3))), .ro ((fullRoutes (1 + d.form % 3) d.len d.rs).length) (enc eIL (fullRoutes (1 + d.form % 3) d.len d.rs)), .v (.int .i64 (1 + d.speed % (2 * (10 * (1 + d.len % 20))))), .v (.int .i64 (1 + d.mute % 1000)), .v (.int .i64 (1 + d.wait % 1000)), .v (.int .i64 (1 + d.cancel)), .v (.int .i64 (d.stay % 4))]) rfl rfl rfl ag47 sz47 (hE 15 rfl) (by rw [hob]; rfl) rfl rfl (by rw [hob]; rfl)⟩
          · exact ⟨87, rfl, blt_lt rfl, fun st hob hE => aop_move (av := .ro states.length (enc eU8 states)) (.inl rfl) rfl rfl (hE 1 rfl) (by rw [hob]; rfl)⟩
          · exact ⟨88, rfl, blt_lt rfl, fun st hob hE => aop_move (av := .ro 1 [.v (.int .i64 2), .v (.bool false), .ro ((tenL span).length) (enc eI (tenL span))]) (.inl rfl) rfl rfl (hE 19 rfl) (by rw [hob]; rfl)⟩
          · exact ⟨89, rfl, blt_lt rfl, fun st hob hE => aop_move (av := .ro locked.length (enc eB locked)) (.inl rfl) rfl rfl (hE 3 rfl) (by rw [hob]; rfl)⟩
          · exact ⟨90, rfl, blt_lt rfl, fun st hob hE => aop_move (av := .ro held.length (enc eB held)) (.inl rfl) rfl rfl (hE 4 rfl) (by rw [hob]; rfl)⟩
          · exact ⟨91, rfl, blt_lt rfl, fun st hob hE => aop_move (av := .v (.int .i64 (nearP near p))) (.inl rfl) rfl rfl (hE 5 rfl) (by rw [hob]; rfl)⟩
          · exact ⟨92, rfl, blt_lt rfl, fun st hob hE => callW_ (r14_May (mkPts (1 + d.form % 3)) states [⟨2, false, tenL span⟩] locked held (nearP near p) (by omega) (by omega) (by simp) (by omega) (by omega) hv2) rfl rfl rfl rfl rfl bd16 (by show Lends _ ([st.env 86, st.env 87, st.env 88, st.env 89, st.env 90, st.env 91] ++ _) _; rw [hE 86 rfl, hE 87 rfl, hE 88 rfl, hE 89 rfl, hE 90 rfl, hE 91 rfl]; exact (lends_cons (lend_agg (lends_cons (lend_n (av := .one)) (lends_cons (.one _ rfl) (lends_cons (.one _ rfl) (lends_cons (lend_n (av := .ro ((mkPts (1 + d.form % 3)).length) (enc ePnt (mkPts (1 + d.form % 3))))) (lends_cons (.one _ rfl) (lends_cons (.one _ rfl) (lends_cons (.one _ rfl) (lends_cons (.one _ rfl) (lends_cons (.one _ rfl) (lends_cons (.one _ rfl) lends_nil))))))))))) (lends_cons (lend_n (av := .ro states.length (enc eU8 states))) (lends_cons (lend_n (av := .ro 1 [.v (.int .i64 2), .v (.bool false), .ro ((tenL span).length) (enc eI (tenL span))])) (lends_cons (lend_n (av := .ro locked.length (enc eB locked))) (lends_cons (lend_n (av := .ro held.length (enc eB held))) (lends_cons (lend_n (av := .v (.int .i64 (nearP near p)))) lends_nil))))))) (by rw [hob]; rfl)⟩
          · exact ⟨93, rfl, blt_lt rfl, fun st hob hE => aop_eqB rfl rfl rfl (hE 85 rfl) (hE 92 rfl) ut4 (by rw [hob]; rfl)⟩
          · exact ⟨94, rfl, blt_lt rfl, fun st hob hE => aop_move (av := .v (.bool ((mayB (mkPts (1 + d.form % 3)) states [(⟨2, false, tenL span⟩ : View)] locked held (nearP near p)) == (mayB (mkPts (1 + d.form % 3)) states [(⟨2, false, tenL span⟩ : View)] locked held (nearP near p))))) (.inl rfl) rfl rfl (hE 93 rfl) (by rw [hob]; rfl)⟩
          · exact ⟨94, .bool ((mayB (mkPts (1 + d.form % 3)) states [(⟨2, false, tenL span⟩ : View)] locked held (nearP near p)) == (mayB (mkPts (1 + d.form % 3)) states [(⟨2, false, tenL span⟩ : View)] locked held (nearP near p))), rfl, blt_lt rfl, rfl, (fun _ => ⟨95, rfl, blt_lt rfl, fun st hob hE => aop_ldB (cells' := [.one, .ro ((mkSecs (1 + d.form % 3) d.len).length) (enc eSec (mkSecs (1 + d.form % 3) d.len)), .ro ((mkParts (1 + d.form % 3) d.jn).length) (enc eIL (mkParts (1 + d.form % 3) d.jn)), .ro ((mkPts (1 + d.form % 3)).length) (enc ePnt (mkPts (1 + d.form % 3))), .ro ((fullRoutes (1 + d.form % 3) d.len d.rs).length) (enc eIL (fullRoutes (1 + d.form % 3) d.len d.rs)), .v (.int .i64 (1 + d.speed % (2 * (10 * (1 + d.len % 20))))), .v (.int .i64 (1 + d.mute % 1000)), .v (.int .i64 (1 + d.wait % 1000)), .v (.int .i64 (1 + d.cancel)), .v (.int .i64 (d.stay % 4))]) rfl rfl rfl ag47 sz47 (hE 15 rfl) (by rw [hob]; rfl) rfl rfl (by rw [hob]; rfl)⟩), (fun h => absurd (show yv (.bool ((mayB (mkPts (1 + d.form % 3)) states [(⟨2, false, tenL span⟩ : View)] locked held (nearP near p)) == (mayB (mkPts (1 + d.form % 3)) states [(⟨2, false, tenL span⟩ : View)] locked held (nearP near p)))) = _ by rw [hg33]; rfl) h)⟩
          · exact ⟨94, .bool ((mayB (mkPts (1 + d.form % 3)) states [(⟨2, false, tenL span⟩ : View)] locked held (nearP near p)) == (mayB (mkPts (1 + d.form % 3)) states [(⟨2, false, tenL span⟩ : View)] locked held (nearP near p))), rfl, blt_lt rfl, rfl, (fun _ => ⟨96, rfl, blt_lt rfl, fun st hob hE => aop_move (av := .ro states.length (enc eU8 states)) (.inl rfl) rfl rfl (hE 1 rfl) (by rw [hob]; rfl)⟩), (fun h => absurd (show yv (.bool ((mayB (mkPts (1 + d.form % 3)) states [(⟨2, false, tenL span⟩ : View)] locked held (nearP near p)) == (mayB (mkPts (1 + d.form % 3)) states [(⟨2, false, tenL span⟩ : View)] locked held (nearP near p)))) = _ by rw [hg33]; rfl) h)⟩
          · exact ⟨94, .bool ((mayB (mkPts (1 + d.form % 3)) states [(⟨2, false, tenL span⟩ : View)] locked held (nearP near p)) == (mayB (mkPts (1 + d.form % 3)) states [(⟨2, false, tenL span⟩ : View)] locked held (nearP near p))), rfl, blt_lt rfl, rfl, (fun _ => ⟨97, rfl, blt_lt rfl, fun st hob hE => aop_move (av := .ro locked.length (enc eB locked)) (.inl rfl) rfl rfl (hE 3 rfl) (by rw [hob]; rfl)⟩), (fun h => absurd (show yv (.bool ((mayB (mkPts (1 + d.form % 3)) states [(⟨2, false, tenL span⟩ : View)] locked held (nearP near p)) == (mayB (mkPts (1 + d.form % 3)) states [(⟨2, false, tenL span⟩ : View)] locked held (nearP near p)))) = _ by rw [hg33]; rfl) h)⟩
          · exact ⟨94, .bool ((mayB (mkPts (1 + d.form % 3)) states [(⟨2, false, tenL span⟩ : View)] locked held (nearP near p)) == (mayB (mkPts (1 + d.form % 3)) states [(⟨2, false, tenL span⟩ : View)] locked held (nearP near p))), rfl, blt_lt rfl, rfl, (fun _ => ⟨98, rfl, blt_lt rfl, fun st hob hE => aop_move (av := .ro held.length (enc eB held)) (.inl rfl) rfl rfl (hE 4 rfl) (by rw [hob]; rfl)⟩), (fun h => absurd (show yv (.bool ((mayB (mkPts (1 + d.form % 3)) states [(⟨2, false, tenL span⟩ : View)] locked held (nearP near p)) == (mayB (mkPts (1 + d.form % 3)) states [(⟨2, false, tenL span⟩ : View)] locked held (nearP near p)))) = _ by rw [hg33]; rfl) h)⟩
          · exact ⟨94, .bool ((mayB (mkPts (1 + d.form % 3)) states [(⟨2, false, tenL span⟩ : View)] locked held (nearP near p)) == (mayB (mkPts (1 + d.form % 3)) states [(⟨2, false, tenL span⟩ : View)] locked held (nearP near p))), rfl, blt_lt rfl, rfl, (fun _ => ⟨99, rfl, blt_lt rfl, fun st hob hE => aop_move (av := .v (.int .i64 (nearP near p))) (.inl rfl) rfl rfl (hE 5 rfl) (by rw [hob]; rfl)⟩), (fun h => absurd (show yv (.bool ((mayB (mkPts (1 + d.form % 3)) states [(⟨2, false, tenL span⟩ : View)] locked held (nearP near p)) == (mayB (mkPts (1 + d.form % 3)) states [(⟨2, false, tenL span⟩ : View)] locked held (nearP near p)))) = _ by rw [hg33]; rfl) h)⟩
          · exact ⟨94, .bool ((mayB (mkPts (1 + d.form % 3)) states [(⟨2, false, tenL span⟩ : View)] locked held (nearP near p)) == (mayB (mkPts (1 + d.form % 3)) states [(⟨2, false, tenL span⟩ : View)] locked held (nearP near p))), rfl, blt_lt rfl, rfl, (fun _ => ⟨100, rfl, blt_lt rfl, fun st hob hE => callW_ (p_May (mkPts (1 + d.form % 3)) states [] locked held (nearP near p) (by omega) (by omega) (by simp) (by omega) (by omega) (fun v h => by cases h)) rfl rfl rfl rfl rfl bd15 (by show Lends _ ([st.env 95, st.env 96, evA st.env (.const (.slice none 0 0)), st.env 97, st.env 98, st.env 99] ++ _) _; rw [hE 95 rfl, hE 96 rfl, hE 97 rfl, hE 98 rfl, hE 99 rfl]; exact (lends_cons (lend_agg (lends_cons (lend_n (av := .one)) (lends_cons (.one _ rfl) (lends_cons (.one _ rfl) (lends_cons (lend_n (av := .ro ((mkPts (1 + d.form % 3)).length) (enc ePnt (mkPts (1 + d.form % 3))))) (lends_cons (.one _ rfl) (lends_cons (.one _ rfl) (lends_cons (.one _ rfl) (lends_cons (.one _ rfl) (lends_cons (.one _ rfl) (lends_cons (.one _ rfl) lends_nil))))))))))) (lends_cons (lend_n (av := .ro states.length (enc eU8 states))) (lends_cons .nil (lends_cons (lend_n (av := .ro locked.length (enc eB locked))) (lends_cons (lend_n (av := .ro held.length (enc eB held))) (lends_cons (lend_n (av := .v (.int .i64 (nearP near p)))) lends_nil))))))) (by rw [hob]; rfl)⟩), (fun h => absurd (show yv (.bool ((mayB (mkPts (1 + d.form % 3)) states [(⟨2, false, tenL span⟩ : View)] locked held (nearP near p)) == (mayB (mkPts (1 + d.form % 3)) states [(⟨2, false, tenL span⟩ : View)] locked held (nearP near p)))) = _ by rw [hg33]; rfl) h)⟩
          · exact ⟨94, .bool ((mayB (mkPts (1 + d.form % 3)) states [(⟨2, false, tenL span⟩ : View)] locked held (nearP near p)) == (mayB (mkPts (1 + d.form % 3)) states [(⟨2, false, tenL span⟩ : View)] locked held (nearP near p))), rfl, blt_lt rfl, rfl, (fun _ => ⟨101, rfl, blt_lt rfl, fun st hob hE => aop_ldB (cells' := [.one, .ro ((mkSecs (1 + d.form % 3) d.len).length) (enc eSec (mkSecs (1 + d.form % 3) d.len)), .ro ((mkParts (1 + d.form % 3) d.jn).length) (enc eIL (mkParts (1 + d.form % 3) d.jn)), .ro ((mkPts (1 + d.form % 3)).length) (enc ePnt (mkPts (1 + d.form % 3))), .ro ((fullRoutes (1 + d.form % 3) d.len d.rs).length) (enc eIL (fullRoutes (1 + d.form % 3) d.len d.rs)), .v (.int .i64 (1 + d.speed % (2 * (10 * (1 + d.len % 20))))), .v (.int .i64 (1 + d.mute % 1000)), .v (.int .i64 (1 + d.wait % 1000)), .v (.int .i64 (1 + d.cancel)), .v (.int .i64 (d.stay % 4))]) rfl rfl rfl ag47 sz47 (hE 15 rfl) (by rw [hob]; rfl) rfl rfl (by rw [hob]; rfl)⟩), (fun h => absurd (show yv (.bool ((mayB (mkPts (1 + d.form % 3)) states [(⟨2, false, tenL span⟩ : View)] locked held (nearP near p)) == (mayB (mkPts (1 + d.form % 3)) states [(⟨2, false, tenL span⟩ : View)] locked held (nearP near p)))) = _ by rw [hg33]; rfl) h)⟩
          · exact ⟨94, .bool ((mayB (mkPts (1 + d.form % 3)) states [(⟨2, false, tenL span⟩ : View)] locked held (nearP near p)) == (mayB (mkPts (1 + d.form % 3)) states [(⟨2, false, tenL span⟩ : View)] locked held (nearP near p))), rfl, blt_lt rfl, rfl, (fun _ => ⟨102, rfl, blt_lt rfl, fun st hob hE => aop_move (av := .ro states.length (enc eU8 states)) (.inl rfl) rfl rfl (hE 1 rfl) (by rw [hob]; rfl)⟩), (fun h => absurd (show yv (.bool ((mayB (mkPts (1 + d.form % 3)) states [(⟨2, false, tenL span⟩ : View)] locked held (nearP near p)) == (mayB (mkPts (1 + d.form % 3)) states [(⟨2, false, tenL span⟩ : View)] locked held (nearP near p)))) = _ by rw [hg33]; rfl) h)⟩
          · exact ⟨94, .bool ((mayB (mkPts (1 + d.form % 3)) states [(⟨2, false, tenL span⟩ : View)] locked held (nearP near p)) == (mayB (mkPts (1 + d.form % 3)) states [(⟨2, false, tenL span⟩ : View)] locked held (nearP near p))), rfl, blt_lt rfl, rfl, (fun _ => ⟨103, rfl, blt_lt rfl, fun st hob hE => aop_move (av := .ro locked.length (enc eB locked)) (.inl rfl) rfl rfl (hE 3 rfl) (by rw [hob]; rfl)⟩), (fun h => absurd (show yv (.bool ((mayB (mkPts (1 + d.form % 3)) states [(⟨2, false, tenL span⟩ : View)] locked held (nearP near p)) == (mayB (mkPts (1 + d.form % 3)) states [(⟨2, false, tenL span⟩ : View)] locked held (nearP near p)))) = _ by rw [hg33]; rfl) h)⟩
          · exact ⟨94, .bool ((mayB (mkPts (1 + d.form % 3)) states [(⟨2, false, tenL span⟩ : View)] locked held (nearP near p)) == (mayB (mkPts (1 + d.form % 3)) states [(⟨2, false, tenL span⟩ : View)] locked held (nearP near p))), rfl, blt_lt rfl, rfl, (fun _ => ⟨104, rfl, blt_lt rfl, fun st hob hE => aop_move (av := .ro held.length (enc eB held)) (.inl rfl) rfl rfl (hE 4 rfl) (by rw [hob]; rfl)⟩), (fun h => absurd (show yv (.bool ((mayB (mkPts (1 + d.form % 3)) states [(⟨2, false, tenL span⟩ : View)] locked held (nearP near p)) == (mayB (mkPts (1 + d.form % 3)) states [(⟨2, false, tenL span⟩ : View)] locked held (nearP near p)))) = _ by rw [hg33]; rfl) h)⟩
          · exact ⟨94, .bool ((mayB (mkPts (1 + d.form % 3)) states [(⟨2, false, tenL span⟩ : View)] locked held (nearP near p)) == (mayB (mkPts (1 + d.form % 3)) states [(⟨2, false, tenL span⟩ : View)] locked held (nearP near p))), rfl, blt_lt rfl, rfl, (fun _ => ⟨105, rfl, blt_lt rfl, fun st hob hE => aop_move (av := .v (.int .i64 (nearP near p))) (.inl rfl) rfl rfl (hE 5 rfl) (by rw [hob]; rfl)⟩), (fun h => absurd (show yv (.bool ((mayB (mkPts (1 + d.form % 3)) states [(⟨2, false, tenL span⟩ : View)] locked held (nearP near p)) == (mayB (mkPts (1 + d.form % 3)) states [(⟨2, false, tenL span⟩ : View)] locked held (nearP near p)))) = _ by rw [hg33]; rfl) h)⟩
          · exact ⟨94, .bool ((mayB (mkPts (1 + d.form % 3)) states [(⟨2, false, tenL span⟩ : View)] locked held (nearP near p)) == (mayB (mkPts (1 + d.form % 3)) states [(⟨2, false, tenL span⟩ : View)] locked held (nearP near p))), rfl, blt_lt rfl, rfl, (fun _ => ⟨106, rfl, blt_lt rfl, fun st hob hE => callW_ (r14_May (mkPts (1 + d.form % 3)) states [] locked held (nearP near p) (by omega) (by omega) (by simp) (by omega) (by omega) (fun v h => by cases h)) rfl rfl rfl rfl rfl bd16 (by show Lends _ ([st.env 101, st.env 102, evA st.env (.const (.slice none 0 0)), st.env 103, st.env 104, st.env 105] ++ _) _; rw [hE 101 rfl, hE 102 rfl, hE 103 rfl, hE 104 rfl, hE 105 rfl]; exact (lends_cons (lend_agg (lends_cons (lend_n (av := .one)) (lends_cons (.one _ rfl) (lends_cons (.one _ rfl) (lends_cons (lend_n (av := .ro ((mkPts (1 + d.form % 3)).length) (enc ePnt (mkPts (1 + d.form % 3))))) (lends_cons (.one _ rfl) (lends_cons (.one _ rfl) (lends_cons (.one _ rfl) (lends_cons (.one _ rfl) (lends_cons (.one _ rfl) (lends_cons (.one _ rfl) lends_nil))))))))))) (lends_cons (lend_n (av := .ro states.length (enc eU8 states))) (lends_cons .nil (lends_cons (lend_n (av := .ro locked.length (enc eB locked))) (lends_cons (lend_n (av := .ro held.length (enc eB held))) (lends_cons (lend_n (av := .v (.int .i64 (nearP near p)))) lends_nil))))))) (by rw [hob]; rfl)⟩), (fun h => absurd (show yv (.bool ((mayB (mkPts (1 + d.form % 3)) states [(⟨2, false, tenL span⟩ : View)] locked held (nearP near p)) == (mayB (mkPts (1 + d.form % 3)) states [(⟨2, false, tenL span⟩ : View)] locked held (nearP near p)))) = _ by rw [hg33]; rfl) h)⟩
          · exact ⟨94, .bool ((mayB (mkPts (1 + d.form % 3)) states [(⟨2, false, tenL span⟩ : View)] locked held (nearP near p)) == (mayB (mkPts (1 + d.form % 3)) states [(⟨2, false, tenL span⟩ : View)] locked held (nearP near p))), rfl, blt_lt rfl, rfl, (fun _ => ⟨107, rfl, blt_lt rfl, fun st hob hE => aop_eqB rfl rfl rfl (hE 100 rfl) (hE 106 rfl) ut4 (by rw [hob]; rfl)⟩), (fun h => absurd (show yv (.bool ((mayB (mkPts (1 + d.form % 3)) states [(⟨2, false, tenL span⟩ : View)] locked held (nearP near p)) == (mayB (mkPts (1 + d.form % 3)) states [(⟨2, false, tenL span⟩ : View)] locked held (nearP near p)))) = _ by rw [hg33]; rfl) h)⟩
          · exact ⟨108, rfl, blt_lt rfl, fun st hob hE => aop_pick (b := ((mayB (mkPts (1 + d.form % 3)) states [(⟨2, false, tenL span⟩ : View)] locked held (nearP near p)) == (mayB (mkPts (1 + d.form % 3)) states [(⟨2, false, tenL span⟩ : View)] locked held (nearP near p)))) (av := .v (.bool ((mayB (mkPts (1 + d.form % 3)) states ([] : List View) locked held (nearP near p)) == (mayB (mkPts (1 + d.form % 3)) states ([] : List View) locked held (nearP near p))))) rfl rfl rfl (hE 94 rfl) (by rw [hg33]; exact hE 107 rfl) (by rw [hob]; rfl)⟩
        refine opG rfl (aop_move (av := .v (.bool ((mayB (mkPts (1 + d.form % 3)) states ([] : List View) locked held (nearP near p)) == (mayB (mkPts (1 + d.form % 3)) states ([] : List View) locked held (nearP near p))))) (.inr rfl) rfl rfl rfl ?_)
        refine op0 ?_
        show AWP _ _ _ _ _
        refine awp_ret ?_
        exact fret (av := .v (.bool ((mayB (mkPts (1 + d.form % 3)) states ([] : List View) locked held (nearP near p)) == (mayB (mkPts (1 + d.form % 3)) states ([] : List View) locked held (nearP near p))))) rfl rfl (by simp)
      · skip
        exfalso; simp at hg33
end Go.Lo
