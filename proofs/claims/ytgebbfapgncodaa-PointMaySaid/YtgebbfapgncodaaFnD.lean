/- Walks of Go functions in the logic of values. -/
import Derived.Test.YtgebbfapgncodaaFnDTy
import Derived.Test.YtgebbfapgncodaaDef
import Derived.Test.YtgebbfapgncodaaLay
import Derived.Test.YtgebbfapgncodaaDr
import Derived.Test.YtgebbfapgncodaaFnB
import Derived.Test.YtgebbfapgncodaaFnC
import Derived.Test.YtgebbfapgncodaaFnM
import Derived.Test.YtgebbfapgncodaaFnF
set_option linter.unusedVariables false
set_option linter.unusedSimpArgs false
namespace Go.Lo
open Go.Proofs
set_option maxRecDepth 10000 in
set_option maxHeartbeats 1000000 in
theorem ixI (l : List Int) (v : Int) (hl : l.length ≤ 4294967296) : Fn Try.prog 38 [.ro l.length (enc eI l), .v (.int .i64 v)] (.v (.int .i64 (idxB (fun x => decide (v = x)) l))) := by
  refine fnE_of_body (N := 19) Try.func38 rfl rfl (resOf1 rfl) (by simp) (fun w0 X => ?_)
  refine seqR ?_
  refine opG rfl (aop_move (av := .v (.int .i64 0)) (.inr rfl) rfl rfl rfl ?_)
  refine op0 ?_
  show AWP _ _ _ _ _
  refine awp_seq ?_
  refine seqR ?_
  refine opG rfl (aop_move (av := .ro l.length (enc eI l)) (.inl rfl) rfl rfl rfl ?_)
  refine opG rfl (aop_len rfl rfl rfl rfl ut49 (len_ro rfl) ?_)
  refine opG rfl (aop_move (av := .v (.int .i64 0)) (.inl rfl) rfl rfl rfl ?_)
  refine op0 ?_
  show AWP _ _ _ _ _
  refine awp_imp ⟨(upd (upd (upd (upd (upd none_ 0 (.ro l.length (enc eI l))) 1 (.v (.int .i64 v))) 4 (.v (.int .i64 0))) 7 (.v (.int .i64 (l.length : Int)))) 8 (.v (.int .i64 0))), noOb⟩ (imp_le ⟨(lee_upd 8 _ rfl (lee_upd 7 _ rfl (lee_upd 4 _ rfl (lee_upd 1 _ rfl (lee_upd 0 _ rfl (lee_none _)))))), fun _ => .inl rfl⟩) ?_
  refine awp_block ?_
  refine awp_countI (fun k => ⟨(upd (upd (upd (upd (upd none_ 0 (.ro l.length (enc eI l))) 1 (.v (.int .i64 v))) 4 (.v (.int .i64 0))) 7 (.v (.int .i64 (l.length : Int)))) 8 (.v (.int .i64 (k : Int)))), noOb⟩) (fun k => (l.take k).any (fun x => decide (v = x)) = false) (l.length) ?_ (by simp) (fun k hk_k hinv => ?_)
  · skip
    exact imp_ler [] (ler0 (sr_same 8 (.v (.int .i64 (0 : Int))) rfl NoI.out (sr_same 7 (.v (.int .i64 (l.length : Int))) rfl NoI.out (sr_same 4 (.v (.int .i64 0)) rfl NoI.out (sr_same 1 (.v (.int .i64 v)) rfl NoI.out (sr_same 0 (.ro l.length (enc eI l)) rfl NoI.out sr_none)))))) (keep_of rfl)
  refine seqR ?_
  refine opG rfl (aop_binI (u := (.bool (decide ((k : Int) < (l.length : Int))))) rfl rfl rfl rfl rfl trivial rfl ?_)
  refine op0 ?_
  show AWP _ _ _ _ _
  refine awp_seq ?_
  refine awp_cond (decide ((k : Int) < (l.length : Int))) rfl rfl (fun hc0 => ?_) (fun hc0 => ?_)
  · skip
    have hf1 := of_decide_eq_true hc0
    refine awp_skip ?_
    show AWP _ _ _ _ _
    refine awp_seq ?_
    refine awp_block ?_
    refine seqR ?_
    refine opG rfl (aop_move (av := .v (.int .i64 (k : Int))) (.inl rfl) rfl rfl rfl ?_)
    refine opG rfl (aop_move (av := .v (.int .i64 (k : Int))) (.inr rfl) rfl rfl rfl ?_)
    refine op0 ?_
    show AWP _ _ _ _ _
    refine seqR ?_
    refine opG rfl (aop_move (av := .v (.int .i64 v)) (.inl rfl) rfl rfl rfl ?_)
    refine opG rfl (aop_move (av := .ro l.length (enc eI l)) (.inl rfl) rfl rfl rfl ?_)
    refine opG rfl (aop_move (av := .v (.int .i64 (k : Int))) (.inl rfl) rfl rfl rfl ?_)
    refine opG rfl (aop_ixE 0 rfl rfl rfl ut49 sz3 rfl rfl (fun _ => rfl) rfl (by first | omega | (simp; done) | decide | (simp; omega) | (simp at *; omega)) ?_)
    refine opG rfl (aop_ld (av := .v (.int .i64 (l.getD k 0))) rfl rfl rfl ag3 rfl rfl ?_)
    refine opG rfl (aop_binI (u := (.bool (v == (l.getD k 0)))) rfl rfl rfl rfl rfl trivial rfl ?_)
    refine op0 ?_
    show AWP _ _ _ _ _
    refine awp_imp ⟨(upd (upd (upd (upd (upd (upd (upd none_ 0 (.ro l.length (enc eI l))) 1 (.v (.int .i64 v))) 4 (.v (.int .i64 0))) 5 (.v (.int .i64 (k : Int)))) 7 (.v (.int .i64 (l.length : Int)))) 8 (.v (.int .i64 (k : Int)))) 16 (.v (.bool (v == (l.getD k 0))))), noOb⟩ (imp_le ⟨(lee_upd 16 _ rfl (lee_upd 8 _ rfl (lee_upd 7 _ rfl (lee_upd 5 _ rfl (lee_upd 4 _ rfl (lee_upd 1 _ rfl (lee_upd 0 _ rfl (lee_none _)))))))), fun _ => .inl rfl⟩) ?_
    refine awp_cond (v == (l.getD k 0)) rfl rfl (fun hc1 => ?_) (fun hc1 => ?_)
    · skip
      have hf2 := (beq_iff_eq).1 hc1
      refine seqR ?_
      refine opG rfl (aop_move (av := .v (.int .i64 (k : Int))) (.inl rfl) rfl rfl rfl ?_)
      refine opG rfl (aop_move (av := .v (.int .i64 (k : Int))) (.inr rfl) rfl rfl rfl ?_)
      refine op0 ?_
      show AWP _ _ _ _ _
      refine awp_ret ?_
      exact fret (av := .v (.int .i64 (k : Int))) rfl rfl (by rw [idxB_stop (f := fun x => decide (v = x)) 0 (by omega) hinv (by simpa using hc1)] <;> rfl)
    · skip
      have hf3 := (beq_eq_false_iff_ne).1 hc1
      refine awp_skip ?_
      show AWP _ _ _ _ _
      refine regR ?_
      refine opG rfl (aop_binI (u := (.int .i64 ((k + 1 : Nat) : Int))) rfl rfl rfl rfl rfl trivial (addN (by omega)) ?_)
      refine opG rfl (aop_move (av := .v (.int .i64 ((k + 1 : Nat) : Int))) (.inl rfl) rfl rfl rfl ?_)
      refine op0 ?_
      show _ ∧ _
      refine ⟨by omega, (any_step 0 (by omega) hinv (by simpa using hc1)), ?_⟩
      exact imp_ler [] (ler0 (sr_same 8 (.v (.int .i64 ((k + 1) : Int))) rfl NoI.out (sr_same 7 (.v (.int .i64 (l.length : Int))) rfl NoI.out (sr_same 4 (.v (.int .i64 0)) rfl NoI.out (sr_same 1 (.v (.int .i64 v)) rfl NoI.out (sr_same 0 (.ro l.length (enc eI l)) rfl NoI.out sr_none)))))) (keep_of rfl)
  · skip
    have hf4 := of_decide_eq_false hc0
    refine awp_exit ?_
    show AWP _ _ _ _ _
    refine seqR ?_
    refine opG rfl (aop_move (av := .v (.int .i64 (-1))) (.inr rfl) rfl rfl rfl ?_)
    refine op0 ?_
    show AWP _ _ _ _ _
    refine awp_ret ?_
    exact fret (av := .v (.int .i64 (-1))) rfl rfl (by rw [idxB_end (f := fun x => decide (v = x)) (by omega) hinv] <;> rfl)

set_option maxRecDepth 10000 in
set_option maxHeartbeats 1000000 in
theorem coI (l : List Int) (v : Int) (hl : l.length ≤ 4294967296) : Fn Try.prog 28 [.ro l.length (enc eI l), .v (.int .i64 v)] (.v (.bool (decide (v ∈ l)))) := by
  refine fnE_of_body (N := 9) Try.func28 rfl rfl (resOf1 rfl) (by simp) (fun w0 X => ?_)
  refine seqR ?_
  refine opG rfl (aop_move (av := .v (.bool false)) (.inr rfl) rfl rfl rfl ?_)
  refine op0 ?_
  show AWP _ _ _ _ _
  refine seqR ?_
  refine opG rfl (aop_move (av := .ro l.length (enc eI l)) (.inl rfl) rfl rfl rfl ?_)
  refine opG rfl (aop_move (av := .v (.int .i64 v)) (.inl rfl) rfl rfl rfl ?_)
  refine opG rfl (call_ (ixI l v (by first | omega | (simp; done) | decide | (simp; omega) | (simp at *; omega))) rfl rfl rfl rfl rfl bd38 rfl ?_)
  refine opG rfl (aop_binI (u := (.bool (decide ((idxB (fun x => decide (v = x)) l) ≥ 0)))) rfl rfl rfl rfl rfl trivial rfl ?_)
  refine opG rfl (aop_move (av := .v (.bool (decide ((idxB (fun x => decide (v = x)) l) ≥ 0)))) (.inr rfl) rfl rfl rfl ?_)
  refine op0 ?_
  show AWP _ _ _ _ _
  refine awp_imp ⟨(upd none_ 4 (.v (.bool (decide ((idxB (fun x => decide (v = x)) l) ≥ 0))))), noOb⟩ (imp_le ⟨(lee_upd 4 _ rfl (lee_none _)), fun _ => .inl rfl⟩) ?_
  refine awp_ret ?_
  exact fret (av := .v (.bool (decide ((idxB (fun x => decide (v = x)) l) ≥ 0)))) rfl rfl (by rw [idxB_mem])

set_option maxRecDepth 10000 in
set_option maxHeartbeats 1000000 in
theorem p_May1 (span : List Int) (s : Int) (hl : span.length ≤ 4294967296) : Fn Try.prog 27 [.agg [.one, .one, .ro span.length (enc eI span)], .rp [.v (.int .i64 s)]] (.v (.bool (decide (s ∈ span)))) := by
  refine fnE_of_body (N := 8) Try.func27 rfl rfl (resOf1 rfl) (by simp) (fun w0 X => ?_)
  refine seqR ?_
  refine opG rfl (aop_box 51 rfl rfl rfl rfl rfl rfl rfl ?_)
  refine opG rfl (aop_move (av := .v (.bool false)) (.inr rfl) rfl rfl rfl ?_)
  refine op0 ?_
  show AWP _ _ _ _ _
  refine seqR ?_
  refine opG rfl (aop_fieldAddr (av := .pt 51 0) (av' := .pt 51 2) rfl rfl rfl ft51_2 sz49 rfl rfl rfl ?_)
  refine opG rfl (aop_ld (av := .ro span.length (enc eI span)) rfl rfl rfl ag49 rfl rfl ?_)
  refine opG rfl (aop_ld (av := .v (.int .i64 s)) rfl rfl rfl ag3 rfl rfl ?_)
  refine opG rfl (call_ (coI span s (by first | omega | (simp; done) | decide | (simp; omega) | (simp at *; omega))) rfl rfl rfl rfl rfl bd28 rfl ?_)
  refine opG rfl (aop_move (av := .v (.bool (decide (s ∈ span)))) (.inr rfl) rfl rfl rfl ?_)
  refine op0 ?_
  show AWP _ _ _ _ _
  refine awp_imp ⟨(upd none_ 3 (.v (.bool (decide (s ∈ span))))), (updO noOb 51 (.live ⟨[.one, .one, .ro span.length (enc eI span)], 51, 1⟩))⟩ (imp_le ⟨(lee_upd 3 _ rfl (lee_none _)), fun _ => .inl rfl⟩) ?_
  refine awp_ret ?_
  exact fret (av := .v (.bool (decide (s ∈ span)))) rfl rfl rfl

set_option maxRecDepth 10000 in
set_option maxHeartbeats 1000000 in
theorem ixVm (views : List View) (s : Int) (hn : views.length ≤ 4294967296) (hv : ∀ v, v ∈ views → v.span.length ≤ 65536) : Fn Try.prog 37 [.ro views.length (enc eV views), .fn 27 [.rp [.v (.int .i64 s)]]] (.v (.int .i64 (idxB (hasV s) views))) := by
  refine fnE_of_body (N := 19) Try.func37 rfl rfl (resOf1 rfl) (by simp) (fun w0 X => ?_)
  refine seqR ?_
  refine opG rfl (aop_move (av := .v (.int .i64 0)) (.inr rfl) rfl rfl rfl ?_)
  refine op0 ?_
  show AWP _ _ _ _ _
  refine awp_seq ?_
  refine seqR ?_
  refine opG rfl (aop_move (av := .ro views.length (enc eV views)) (.inl rfl) rfl rfl rfl ?_)
  refine opG rfl (aop_len rfl rfl rfl rfl ut52 (len_ro rfl) ?_)
  refine opG rfl (aop_move (av := .v (.int .i64 0)) (.inl rfl) rfl rfl rfl ?_)
  refine op0 ?_
  show AWP _ _ _ _ _
  refine awp_imp ⟨(upd (upd (upd (upd (upd none_ 0 (.ro views.length (enc eV views))) 1 (.fn 27 [.rp [.v (.int .i64 s)]])) 4 (.v (.int .i64 0))) 7 (.v (.int .i64 (views.length : Int)))) 8 (.v (.int .i64 0))), noOb⟩ (imp_le ⟨(lee_upd 8 _ rfl (lee_upd 7 _ rfl (lee_upd 4 _ rfl (lee_upd 1 _ rfl (lee_upd 0 _ rfl (lee_none _)))))), fun _ => .inl rfl⟩) ?_
  refine awp_block ?_
  refine awp_countI (fun k => ⟨(upd (upd (upd (upd (upd none_ 0 (.ro views.length (enc eV views))) 1 (.fn 27 [.rp [.v (.int .i64 s)]])) 4 (.v (.int .i64 0))) 7 (.v (.int .i64 (views.length : Int)))) 8 (.v (.int .i64 (k : Int)))), noOb⟩) (fun k => (views.take k).any (hasV s) = false) (views.length) ?_ (by simp) (fun k hk_k hinv => ?_)
  · skip
    exact imp_ler [] (ler0 (sr_same 8 (.v (.int .i64 (0 : Int))) rfl NoI.out (sr_same 7 (.v (.int .i64 (views.length : Int))) rfl NoI.out (sr_same 4 (.v (.int .i64 0)) rfl NoI.out (sr_same 1 (.fn 27 [.rp [.v (.int .i64 s)]]) rfl NoI.out (sr_same 0 (.ro views.length (enc eV views)) rfl NoI.out sr_none)))))) (keep_of rfl)
  refine seqR ?_
  refine opG rfl (aop_binI (u := (.bool (decide ((k : Int) < (views.length : Int))))) rfl rfl rfl rfl rfl trivial rfl ?_)
  refine op0 ?_
  show AWP _ _ _ _ _
  refine awp_seq ?_
  refine awp_cond (decide ((k : Int) < (views.length : Int))) rfl rfl (fun hc0 => ?_) (fun hc0 => ?_)
  · skip
    have hf1 := of_decide_eq_true hc0
    have hvk := hv _ (getD_mem (l := views) (k := k) dV (by omega))
    refine awp_skip ?_
    show AWP _ _ _ _ _
    refine awp_seq ?_
    refine awp_block ?_
    refine seqR ?_
    refine opG rfl (aop_move (av := .v (.int .i64 (k : Int))) (.inl rfl) rfl rfl rfl ?_)
    refine opG rfl (aop_move (av := .v (.int .i64 (k : Int))) (.inr rfl) rfl rfl rfl ?_)
    refine op0 ?_
    show AWP _ _ _ _ _
    refine seqR ?_
    refine opG rfl (aop_move (av := .fn 27 [.rp [.v (.int .i64 s)]]) (.inl rfl) rfl rfl rfl ?_)
    refine opG rfl (aop_move (av := .ro views.length (enc eV views)) (.inl rfl) rfl rfl rfl ?_)
    refine opG rfl (aop_move (av := .v (.int .i64 (k : Int))) (.inl rfl) rfl rfl rfl ?_)
    refine opG rfl (aop_ixE dV rfl rfl rfl ut52 sz51 rfl rfl (fun _ => rfl) rfl (by first | omega | (simp; done) | decide | (simp; omega) | (simp at *; omega)) ?_)
    refine opG rfl (aop_ldB (cells' := [.v (.int .i64 ((views.getD k dV).id)), .v (.bool ((views.getD k dV).sure)), .ro ((views.getD k dV).span.length) (enc eI ((views.getD k dV).span))]) rfl rfl rfl ag51 sz51 rfl rfl rfl rfl ?_)
    refine opG rfl (callW_ (p_May1 ((views.getD k dV).span) s (by first | omega | (simp; done) | decide | (simp; omega) | (simp at *; omega))) rfl rfl rfl rfl rfl bd27 (lends_cons (lend_agg (lends_cons (.one _ rfl) (lends_cons (.one _ rfl) (lends_cons (lend_n (av := .ro ((views.getD k dV).span.length) (enc eI ((views.getD k dV).span)))) lends_nil)))) (lends_cons (lend_n (av := .rp [.v (.int .i64 s)])) lends_nil)) ?_)
    refine op0 ?_
    show AWP _ _ _ _ _
    refine awp_imp ⟨(upd (upd (upd (upd (upd (upd (upd none_ 0 (.ro views.length (enc eV views))) 1 (.fn 27 [.rp [.v (.int .i64 s)]])) 4 (.v (.int .i64 0))) 5 (.v (.int .i64 (k : Int)))) 7 (.v (.int .i64 (views.length : Int)))) 8 (.v (.int .i64 (k : Int)))) 16 (.v (.bool (decide (s ∈ ((views.getD k dV).span)))))), noOb⟩ (imp_le ⟨(lee_upd 16 _ rfl (lee_upd 8 _ rfl (lee_upd 7 _ rfl (lee_upd 5 _ rfl (lee_upd 4 _ rfl (lee_upd 1 _ rfl (lee_upd 0 _ rfl (lee_none _)))))))), fun _ => .inl rfl⟩) ?_
    refine awp_cond (decide (s ∈ ((views.getD k dV).span))) rfl rfl (fun hc1 => ?_) (fun hc1 => ?_)
    · skip
      refine seqR ?_
      refine opG rfl (aop_move (av := .v (.int .i64 (k : Int))) (.inl rfl) rfl rfl rfl ?_)
      refine opG rfl (aop_move (av := .v (.int .i64 (k : Int))) (.inr rfl) rfl rfl rfl ?_)
      refine op0 ?_
      show AWP _ _ _ _ _
      refine awp_ret ?_
      exact fret (av := .v (.int .i64 (k : Int))) rfl rfl (by rw [idxB_stop (f := hasV s) dV (by omega) hinv hc1] <;> rfl)
    · skip
      refine awp_skip ?_
      show AWP _ _ _ _ _
      refine regR ?_
      refine opG rfl (aop_binI (u := (.int .i64 ((k + 1 : Nat) : Int))) rfl rfl rfl rfl rfl trivial (addN (by omega)) ?_)
      refine opG rfl (aop_move (av := .v (.int .i64 ((k + 1 : Nat) : Int))) (.inl rfl) rfl rfl rfl ?_)
      refine op0 ?_
      show _ ∧ _
      refine ⟨by omega, (any_step dV (by omega) hinv hc1), ?_⟩
      exact imp_ler [] (ler0 (sr_same 8 (.v (.int .i64 ((k + 1) : Int))) rfl NoI.out (sr_same 7 (.v (.int .i64 (views.length : Int))) rfl NoI.out (sr_same 4 (.v (.int .i64 0)) rfl NoI.out (sr_same 1 (.fn 27 [.rp [.v (.int .i64 s)]]) rfl NoI.out (sr_same 0 (.ro views.length (enc eV views)) rfl NoI.out sr_none)))))) (keep_of rfl)
  · skip
    have hf2 := of_decide_eq_false hc0
    refine awp_exit ?_
    show AWP _ _ _ _ _
    refine seqR ?_
    refine opG rfl (aop_move (av := .v (.int .i64 (-1))) (.inr rfl) rfl rfl rfl ?_)
    refine op0 ?_
    show AWP _ _ _ _ _
    refine awp_ret ?_
    exact fret (av := .v (.int .i64 (-1))) rfl rfl (by rw [idxB_end (f := hasV s) (by omega) hinv] <;> rfl)

set_option maxRecDepth 10000 in
set_option maxHeartbeats 1000000 in
theorem coVm (views : List View) (s : Int) (hn : views.length ≤ 4294967296) (hv : ∀ v, v ∈ views → v.span.length ≤ 65536) : Fn Try.prog 26 [.ro views.length (enc eV views), .fn 27 [.rp [.v (.int .i64 s)]]] (.v (.bool (views.any (hasV s)))) := by
  refine fnE_of_body (N := 9) Try.func26 rfl rfl (resOf1 rfl) (by simp) (fun w0 X => ?_)
  refine seqR ?_
  refine opG rfl (aop_move (av := .v (.bool false)) (.inr rfl) rfl rfl rfl ?_)
  refine op0 ?_
  show AWP _ _ _ _ _
  refine seqR ?_
  refine opG rfl (aop_move (av := .ro views.length (enc eV views)) (.inl rfl) rfl rfl rfl ?_)
  refine opG rfl (aop_move (av := .fn 27 [.rp [.v (.int .i64 s)]]) (.inl rfl) rfl rfl rfl ?_)
  refine opG rfl (call_ (ixVm views s (by first | omega | (simp; done) | decide | (simp; omega) | (simp at *; omega)) (by first | omega | (simp; done) | decide | (simp; omega) | (simp at *; omega))) rfl rfl rfl rfl rfl bd37 rfl ?_)
  refine opG rfl (aop_binI (u := (.bool (decide ((idxB (hasV s) views) ≥ 0)))) rfl rfl rfl rfl rfl trivial rfl ?_)
  refine opG rfl (aop_move (av := .v (.bool (decide ((idxB (hasV s) views) ≥ 0)))) (.inr rfl) rfl rfl rfl ?_)
  refine op0 ?_
  show AWP _ _ _ _ _
  refine awp_imp ⟨(upd none_ 4 (.v (.bool (decide ((idxB (hasV s) views) ≥ 0))))), noOb⟩ (imp_le ⟨(lee_upd 4 _ rfl (lee_none _)), fun _ => .inl rfl⟩) ?_
  refine awp_ret ?_
  exact fret (av := .v (.bool (decide ((idxB (hasV s) views) ≥ 0)))) rfl rfl (by rw [idxB_any dV] <;> rfl)

set_option maxRecDepth 10000 in
set_option maxHeartbeats 1000000 in
theorem p_May (pts : List Pnt) (states : List Int) (views : List View) (locked held : List Bool) (p : Int) (hp : pts.length ≤ 65536) (hs : states.length ≤ 65536) (hn : views.length ≤ 65536) (hlk : locked.length ≤ 65536) (hh : held.length ≤ 65536) (hv : ∀ v, v ∈ views → v.span.length ≤ 65536) : Fn Try.prog 15 [.agg [.one, .one, .one, .ro pts.length (enc ePnt pts), .one, .one, .one, .one, .one, .one], .ro states.length (enc eU8 states), .ro views.length (enc eV views), .ro locked.length (enc eB locked), .ro held.length (enc eB held), .v (.int .i64 p)] (.v (.bool (mayB pts states views locked held p))) := by
  refine fnE_of_body (N := 58) Try.func15 rfl rfl (resOf1 rfl) (by simp) (fun w0 X => ?_)
  refine seqR ?_
  refine opG rfl (aop_box 51 rfl rfl rfl rfl rfl rfl rfl ?_)
  refine opG rfl (aop_move (av := .v (.bool false)) (.inr rfl) rfl rfl rfl ?_)
  refine op0 ?_
  show AWP _ _ _ _ _
  refine awp_seq ?_
  refine seqR ?_
  refine opG rfl (aop_move (av := .v (.int .i64 p)) (.inl rfl) rfl rfl rfl ?_)
  refine opG rfl (aop_binI (u := (.bool (decide (p < 0)))) rfl rfl rfl rfl rfl trivial rfl ?_)
  refine opG rfl (aop_move (av := .v (.bool (decide (p < 0)))) (.inl rfl) rfl rfl rfl ?_)
  refine aops_grp 6 22 (.v (.bool ((decide (p < 0)) || (decide (p ≥ (pts.length : Int)))))) ?_ ?_
  · rcases Bool.eq_false_or_eq_true (decide (p < 0)) with hg1 | hg1
    · skip
      have hf2 := of_decide_eq_true hg1
      refine opN rfl rfl rfl rfl (by show yv (.bool (decide (p < 0))) ≠ _; rw [hg1]; intro h; cases h) rfl rfl ?_
      refine opN rfl rfl rfl rfl (by show yv (.bool (decide (p < 0))) ≠ _; rw [hg1]; intro h; cases h) rfl rfl ?_
      refine opN rfl rfl rfl rfl (by show yv (.bool (decide (p < 0))) ≠ _; rw [hg1]; intro h; cases h) rfl rfl ?_
      refine opN rfl rfl rfl rfl (by show yv (.bool (decide (p < 0))) ≠ _; rw [hg1]; intro h; cases h) rfl rfl ?_
      refine opN rfl rfl rfl rfl (by show yv (.bool (decide (p < 0))) ≠ _; rw [hg1]; intro h; cases h) rfl rfl ?_
      refine opG rfl (aop_pick (b := (decide (p < 0))) rfl rfl rfl rfl (by rw [hg1] <;> rfl) ?_)
      refine op0 ?_
      exact imp_env (lee_both 22 _ _ (by rw [hg1] <;> rfl) (lee_out 21 _ rfl (lee_out 20 _ rfl (lee_out 19 _ rfl (lee_out 18 _ rfl (lee_out 17 _ rfl (lee_same _)))))))
    · skip
      have hf3 := of_decide_eq_false hg1
      refine opY rfl rfl rfl (by show AV.v (.bool (decide (p < 0))) = _; rw [hg1]) (aop_move (av := .v (.int .i64 p)) (.inl rfl) rfl rfl rfl ?_)
      refine opY rfl rfl rfl (by show AV.v (.bool (decide (p < 0))) = _; rw [hg1]) (aop_fieldAddr (av := .pt 51 0) (av' := .pt 51 3) rfl rfl rfl ft47_3 sz45 rfl rfl rfl ?_)
      refine opY rfl rfl rfl (by show AV.v (.bool (decide (p < 0))) = _; rw [hg1]) (aop_ld (av := .ro pts.length (enc ePnt pts)) rfl rfl rfl ag45 rfl rfl ?_)
      refine opY rfl rfl rfl (by show AV.v (.bool (decide (p < 0))) = _; rw [hg1]) (aop_len rfl rfl rfl rfl ut45 (len_ro rfl) ?_)
      refine opY rfl rfl rfl (by show AV.v (.bool (decide (p < 0))) = _; rw [hg1]) (aop_binI (u := (.bool (decide (p ≥ (pts.length : Int))))) rfl rfl rfl rfl rfl trivial rfl ?_)
      refine opG rfl (aop_pick (b := (decide (p < 0))) rfl rfl rfl rfl (by rw [hg1] <;> rfl) ?_)
      refine op0 ?_
      exact imp_env (lee_both 22 _ _ (by rw [hg1] <;> rfl) (lee_out 21 _ rfl (lee_out 20 _ rfl (lee_out 19 _ rfl (lee_out 18 _ rfl (lee_out 17 _ rfl (lee_same _)))))))
  refine opG rfl (aop_move (av := .v (.bool ((decide (p < 0)) || (decide (p ≥ (pts.length : Int)))))) (.inl rfl) rfl rfl rfl ?_)
  refine aops_grp 4 27 (.v (.bool (((decide (p < 0)) || (decide (p ≥ (pts.length : Int)))) || (hasB held p)))) ?_ ?_
  · rcases Bool.eq_false_or_eq_true ((decide (p < 0)) || (decide (p ≥ (pts.length : Int)))) with hg4 | hg4
    · skip
      refine opN rfl rfl rfl rfl (by show yv (.bool ((decide (p < 0)) || (decide (p ≥ (pts.length : Int))))) ≠ _; rw [hg4]; intro h; cases h) rfl rfl ?_
      refine opN rfl rfl rfl rfl (by show yv (.bool ((decide (p < 0)) || (decide (p ≥ (pts.length : Int))))) ≠ _; rw [hg4]; intro h; cases h) rfl rfl ?_
      refine opN rfl rfl rfl rfl (by show yv (.bool ((decide (p < 0)) || (decide (p ≥ (pts.length : Int))))) ≠ _; rw [hg4]; intro h; cases h) rfl rfl ?_
      refine opG rfl (aop_pick (b := ((decide (p < 0)) || (decide (p ≥ (pts.length : Int))))) rfl rfl rfl rfl (by rw [hg4] <;> rfl) ?_)
      refine op0 ?_
      exact imp_env (lee_both 27 _ _ (by rw [hg4] <;> rfl) (lee_out 26 _ rfl (lee_out 25 _ rfl (lee_out 24 _ rfl (lee_same _)))))
    · skip
      obtain ⟨hf5a, hf5b⟩ := or_f hg4
      have hf6 := of_decide_eq_false hf5a
      have hf7 := of_decide_eq_false hf5b
      refine opY rfl rfl rfl (by show AV.v (.bool ((decide (p < 0)) || (decide (p ≥ (pts.length : Int))))) = _; rw [hg4]) (aop_move (av := .ro held.length (enc eB held)) (.inl rfl) rfl rfl rfl ?_)
      refine opY rfl rfl rfl (by show AV.v (.bool ((decide (p < 0)) || (decide (p ≥ (pts.length : Int))))) = _; rw [hg4]) (aop_move (av := .v (.int .i64 p)) (.inl rfl) rfl rfl rfl ?_)
      refine opY rfl rfl rfl (by show AV.v (.bool ((decide (p < 0)) || (decide (p ≥ (pts.length : Int))))) = _; rw [hg4]) (call_ (p_has held p (by first | omega | (simp; done) | decide | (simp; omega) | (simp at *; omega))) rfl rfl rfl rfl rfl bd25 rfl ?_)
      refine opG rfl (aop_pick (b := ((decide (p < 0)) || (decide (p ≥ (pts.length : Int))))) rfl rfl rfl rfl (by rw [hg4] <;> rfl) ?_)
      refine op0 ?_
      exact imp_env (lee_both 27 _ _ (by rw [hg4] <;> rfl) (lee_out 26 _ rfl (lee_out 25 _ rfl (lee_out 24 _ rfl (lee_same _)))))
  refine op0 ?_
  show AWP _ _ _ _ _
  refine awp_imp ⟨(upd (upd (upd (upd (upd (upd (upd none_ 1 (.ro states.length (enc eU8 states))) 2 (.ro views.length (enc eV views))) 3 (.ro locked.length (enc eB locked))) 5 (.v (.int .i64 p))) 6 (.pt 51 0)) 12 (.v (.bool false))) 27 (.v (.bool (((decide (p < 0)) || (decide (p ≥ (pts.length : Int)))) || (hasB held p))))), (updO noOb 51 (.live ⟨[.one, .one, .one, .ro pts.length (enc ePnt pts), .one, .one, .one, .one, .one, .one], 47, 1⟩))⟩ (imp_le ⟨(lee_upd 27 _ rfl (lee_upd 12 _ rfl (lee_upd 6 _ rfl (lee_upd 5 _ rfl (lee_upd 3 _ rfl (lee_upd 2 _ rfl (lee_upd 1 _ rfl (lee_none _)))))))), fun _ => .inl rfl⟩) ?_
  refine awp_cond (((decide (p < 0)) || (decide (p ≥ (pts.length : Int)))) || (hasB held p)) rfl rfl (fun hc0 => ?_) (fun hc0 => ?_)
  · skip
    refine seqR ?_
    refine opG rfl (aop_move (av := .v (.bool false)) (.inr rfl) rfl rfl rfl ?_)
    refine op0 ?_
    show AWP _ _ _ _ _
    refine awp_ret ?_
    exact fret (av := .v (.bool false)) rfl rfl (by rw [may_no hc0])
  · skip
    obtain ⟨hf8a, hf8b⟩ := or_f hc0
    obtain ⟨hf9a, hf9b⟩ := or_f hf8a
    have hf10 := of_decide_eq_false hf9a
    have hf11 := of_decide_eq_false hf9b
    have hno : (decide (p < 0) || decide (p ≥ (pts.length : Int)) || hasB held p) = false := hc0
    have hpr : 0 ≤ p ∧ p < (pts.length : Int) := by simp only [Bool.or_eq_false_iff, decide_eq_false_iff_not] at hno; omega
    refine awp_skip ?_
    show AWP _ _ _ _ _
    refine seqR ?_
    refine opG rfl (aop_fieldAddr (av := .pt 51 0) (av' := .pt 51 3) rfl rfl rfl ft47_3 sz45 rfl rfl rfl ?_)
    refine opG rfl (aop_ld (av := .ro pts.length (enc ePnt pts)) rfl rfl rfl ag45 rfl rfl ?_)
    refine opG rfl (aop_move (av := .v (.int .i64 p)) (.inl rfl) rfl rfl rfl ?_)
    refine opG rfl (aop_ixI dP rfl rfl rfl ut45 sz60 rfl rfl (fun _ => rfl) rfl (by omega) (by first | omega | (simp; done) | decide | (simp; omega) | (simp at *; omega)) ?_)
    refine opG rfl (aop_fieldAddr (av := .rp (([.v (.int .i64 ((pts.getD p.toNat dP).node)), .v (.int .i64 ((pts.getD p.toNat dP).stem)), .v (.int .i64 ((pts.getD p.toNat dP).left)), .v (.int .i64 ((pts.getD p.toNat dP).right))] : List AV) ++ ((enc ePnt pts).drop ((p.toNat + 1) * 4)))) (av' := .rp (([.v (.int .i64 ((pts.getD p.toNat dP).stem)), .v (.int .i64 ((pts.getD p.toNat dP).left)), .v (.int .i64 ((pts.getD p.toNat dP).right))] : List AV) ++ ((enc ePnt pts).drop ((p.toNat + 1) * 4)))) rfl rfl rfl ft60_1 sz3 rfl rfl rfl ?_)
    refine opG rfl (aop_ld (av := .v (.int .i64 ((pts.getD p.toNat dP).stem))) rfl rfl rfl ag3 rfl rfl ?_)
    refine opG rfl (aop_alloc 52 rfl rfl rfl rfl ze3 rfl ?_)
    refine opG rfl (aop_store rfl rfl rfl sz3 rfl rfl rfl rfl rfl (Nat.le_of_ble_eq_true rfl) rfl rfl ?_)
    refine op0 ?_
    show AWP _ _ _ _ _
    refine awp_imp ⟨(upd (upd (upd (upd (upd none_ 1 (.ro states.length (enc eU8 states))) 2 (.ro views.length (enc eV views))) 3 (.ro locked.length (enc eB locked))) 12 (.v (.bool false))) 13 (.pt 52 0)), (updO (updO (updO noOb 51 (.live ⟨[.one, .one, .one, .ro pts.length (enc ePnt pts), .one, .one, .one, .one, .one, .one], 47, 1⟩)) 52 (.live ⟨[.v (.int .i64 0)], 3, 1⟩)) 52 (.live ⟨[.v (.int .i64 ((pts.getD p.toNat dP).stem))], 3, 1⟩))⟩ (imp_le ⟨(lee_upd 13 _ rfl (lee_upd 12 _ rfl (lee_upd 3 _ rfl (lee_upd 2 _ rfl (lee_upd 1 _ rfl (lee_none _)))))), fun _ => .inl rfl⟩) ?_
    refine awp_seq ?_
    refine seqR ?_
    refine opG rfl (aop_move (av := .ro views.length (enc eV views)) (.inl rfl) rfl rfl rfl ?_)
    refine opG rfl (aop_makeFunc (caps := [.tmp 13]) rfl rfl rfl rfl ?_)
    refine opG rfl (callL_ (coVm views (pts.getD p.toNat dP).stem (by omega) hv) rfl rfl rfl rfl rfl bd26 (lends_cons (lend_n (av := .ro views.length (enc eV views))) (lends_cons (lend_fn (lends_cons (lend_pt rfl (lends_cons (lend_n (av := .v (.int .i64 ((pts.getD p.toNat dP).stem)))) lends_nil)) lends_nil)) lends_nil)) ?_)
    refine op0 ?_
    show AWP _ _ _ _ _
    refine awp_cond (views.any (hasV ((pts.getD p.toNat dP).stem))) rfl rfl (fun hc1 => ?_) (fun hc1 => ?_)
    · skip
      refine seqR ?_
      refine opG rfl (aop_move (av := .v (.bool false)) (.inr rfl) rfl rfl rfl ?_)
      refine op0 ?_
      show AWP _ _ _ _ _
      refine awp_imp ⟨(upd (upd (upd (upd none_ 1 (.ro states.length (enc eU8 states))) 3 (.ro locked.length (enc eB locked))) 12 (.v (.bool false))) 13 (.pt 52 0)), (updO (updO (updO noOb 51 (.live ⟨[.one, .one, .one, .ro pts.length (enc ePnt pts), .one, .one, .one, .one, .one, .one], 47, 1⟩)) 52 (.live ⟨[.v (.int .i64 0)], 3, 1⟩)) 52 (.live ⟨[.v (.int .i64 ((pts.getD p.toNat dP).stem))], 3, 1⟩))⟩ (imp_le ⟨(lee_upd 13 _ rfl (lee_upd 12 _ rfl (lee_upd 3 _ rfl (lee_upd 1 _ rfl (lee_none _))))), fun _ => .inl rfl⟩) ?_
      refine awp_ret ?_
      exact fret (av := .v (.bool false)) rfl rfl (by rw [may_in hno hc1])
    · skip
      refine awp_skip ?_
      show AWP _ _ _ _ _
      refine seqR ?_
      refine opG rfl (aop_ld (av := .v (.int .i64 ((pts.getD p.toNat dP).stem))) rfl rfl rfl ag3 rfl rfl ?_)
      refine opG rfl (aop_binI (u := (.bool (decide (((pts.getD p.toNat dP).stem) ≥ 0)))) rfl rfl rfl rfl rfl trivial rfl ?_)
      refine opG rfl (aop_move (av := .v (.bool (decide (((pts.getD p.toNat dP).stem) ≥ 0)))) (.inl rfl) rfl rfl rfl ?_)
      refine aops_grp 5 44 (.v (.bool ((decide (((pts.getD p.toNat dP).stem) ≥ 0)) && (decide (((pts.getD p.toNat dP).stem) < (states.length : Int)))))) ?_ ?_
      · rcases Bool.eq_false_or_eq_true (decide (((pts.getD p.toNat dP).stem) ≥ 0)) with hg12 | hg12
        · skip
          have hf13 := of_decide_eq_true hg12
          refine opY rfl rfl rfl (by show AV.v (.bool (decide (((pts.getD p.toNat dP).stem) ≥ 0))) = _; rw [hg12]) (aop_ld (av := .v (.int .i64 ((pts.getD p.toNat dP).stem))) rfl rfl rfl ag3 rfl rfl ?_)
          refine opY rfl rfl rfl (by show AV.v (.bool (decide (((pts.getD p.toNat dP).stem) ≥ 0))) = _; rw [hg12]) (aop_move (av := .ro states.length (enc eU8 states)) (.inl rfl) rfl rfl rfl ?_)
          refine opY rfl rfl rfl (by show AV.v (.bool (decide (((pts.getD p.toNat dP).stem) ≥ 0))) = _; rw [hg12]) (aop_len rfl rfl rfl rfl ut40 (len_ro rfl) ?_)
          refine opY rfl rfl rfl (by show AV.v (.bool (decide (((pts.getD p.toNat dP).stem) ≥ 0))) = _; rw [hg12]) (aop_binI (u := (.bool (decide (((pts.getD p.toNat dP).stem) < (states.length : Int))))) rfl rfl rfl rfl rfl trivial rfl ?_)
          refine opG rfl (aop_pick (b := (decide (((pts.getD p.toNat dP).stem) ≥ 0))) rfl rfl rfl rfl (by rw [hg12] <;> rfl) ?_)
          refine op0 ?_
          exact imp_env (lee_both 44 _ _ (by rw [hg12] <;> rfl) (lee_out 43 _ rfl (lee_out 42 _ rfl (lee_out 41 _ rfl (lee_out 40 _ rfl (lee_same _))))))
        · skip
          have hf14 := of_decide_eq_false hg12
          refine opN rfl rfl rfl rfl (by show yv (.bool (decide (((pts.getD p.toNat dP).stem) ≥ 0))) ≠ _; rw [hg12]; intro h; cases h) rfl rfl ?_
          refine opN rfl rfl rfl rfl (by show yv (.bool (decide (((pts.getD p.toNat dP).stem) ≥ 0))) ≠ _; rw [hg12]; intro h; cases h) rfl rfl ?_
          refine opN rfl rfl rfl rfl (by show yv (.bool (decide (((pts.getD p.toNat dP).stem) ≥ 0))) ≠ _; rw [hg12]; intro h; cases h) rfl rfl ?_
          refine opN rfl rfl rfl rfl (by show yv (.bool (decide (((pts.getD p.toNat dP).stem) ≥ 0))) ≠ _; rw [hg12]; intro h; cases h) rfl rfl ?_
          refine opG rfl (aop_pick (b := (decide (((pts.getD p.toNat dP).stem) ≥ 0))) rfl rfl rfl rfl (by rw [hg12] <;> rfl) ?_)
          refine op0 ?_
          exact imp_env (lee_both 44 _ _ (by rw [hg12] <;> rfl) (lee_out 43 _ rfl (lee_out 42 _ rfl (lee_out 41 _ rfl (lee_out 40 _ rfl (lee_same _))))))
      refine opG rfl (aop_move (av := .v (.bool ((decide (((pts.getD p.toNat dP).stem) ≥ 0)) && (decide (((pts.getD p.toNat dP).stem) < (states.length : Int)))))) (.inl rfl) rfl rfl rfl ?_)
      refine aops_grp 6 51 (.v (.bool (((decide (((pts.getD p.toNat dP).stem) ≥ 0)) && (decide (((pts.getD p.toNat dP).stem) < (states.length : Int)))) && ((states.getD ((pts.getD p.toNat dP).stem).toNat 0) == 0)))) ?_ ?_
      · rcases Bool.eq_false_or_eq_true ((decide (((pts.getD p.toNat dP).stem) ≥ 0)) && (decide (((pts.getD p.toNat dP).stem) < (states.length : Int)))) with hg15 | hg15
        · skip
          obtain ⟨hf16a, hf16b⟩ := and_t hg15
          have hf17 := of_decide_eq_true hf16a
          have hf18 := of_decide_eq_true hf16b
          refine opY rfl rfl rfl (by show AV.v (.bool ((decide (((pts.getD p.toNat dP).stem) ≥ 0)) && (decide (((pts.getD p.toNat dP).stem) < (states.length : Int))))) = _; rw [hg15]) (aop_move (av := .ro states.length (enc eU8 states)) (.inl rfl) rfl rfl rfl ?_)
          refine opY rfl rfl rfl (by show AV.v (.bool ((decide (((pts.getD p.toNat dP).stem) ≥ 0)) && (decide (((pts.getD p.toNat dP).stem) < (states.length : Int))))) = _; rw [hg15]) (aop_ld (av := .v (.int .i64 ((pts.getD p.toNat dP).stem))) rfl rfl rfl ag3 rfl rfl ?_)
          refine opY rfl rfl rfl (by show AV.v (.bool ((decide (((pts.getD p.toNat dP).stem) ≥ 0)) && (decide (((pts.getD p.toNat dP).stem) < (states.length : Int))))) = _; rw [hg15]) (aop_ixI 0 rfl rfl rfl ut40 sz5 rfl rfl (fun _ => rfl) rfl (by omega) (by first | omega | (simp; done) | decide | (simp; omega) | (simp at *; omega)) ?_)
          refine opY rfl rfl rfl (by show AV.v (.bool ((decide (((pts.getD p.toNat dP).stem) ≥ 0)) && (decide (((pts.getD p.toNat dP).stem) < (states.length : Int))))) = _; rw [hg15]) (aop_ld (av := .v (.int .u8 (states.getD ((pts.getD p.toNat dP).stem).toNat 0))) rfl rfl rfl ag5 rfl rfl ?_)
          refine opY rfl rfl rfl (by show AV.v (.bool ((decide (((pts.getD p.toNat dP).stem) ≥ 0)) && (decide (((pts.getD p.toNat dP).stem) < (states.length : Int))))) = _; rw [hg15]) (aop_binI (u := (.bool ((states.getD ((pts.getD p.toNat dP).stem).toNat 0) == 0))) rfl rfl rfl rfl rfl trivial rfl ?_)
          refine opG rfl (aop_pick (b := ((decide (((pts.getD p.toNat dP).stem) ≥ 0)) && (decide (((pts.getD p.toNat dP).stem) < (states.length : Int))))) rfl rfl rfl rfl (by rw [hg15] <;> rfl) ?_)
          refine op0 ?_
          exact imp_env (lee_both 51 _ _ (by rw [hg15] <;> rfl) (lee_out 50 _ rfl (lee_out 49 _ rfl (lee_out 48 _ rfl (lee_out 47 _ rfl (lee_out 46 _ rfl (lee_same _)))))))
        · skip
          refine opN rfl rfl rfl rfl (by show yv (.bool ((decide (((pts.getD p.toNat dP).stem) ≥ 0)) && (decide (((pts.getD p.toNat dP).stem) < (states.length : Int))))) ≠ _; rw [hg15]; intro h; cases h) rfl rfl ?_
          refine opN rfl rfl rfl rfl (by show yv (.bool ((decide (((pts.getD p.toNat dP).stem) ≥ 0)) && (decide (((pts.getD p.toNat dP).stem) < (states.length : Int))))) ≠ _; rw [hg15]; intro h; cases h) rfl rfl ?_
          refine opN rfl rfl rfl rfl (by show yv (.bool ((decide (((pts.getD p.toNat dP).stem) ≥ 0)) && (decide (((pts.getD p.toNat dP).stem) < (states.length : Int))))) ≠ _; rw [hg15]; intro h; cases h) rfl rfl ?_
          refine opN rfl rfl rfl rfl (by show yv (.bool ((decide (((pts.getD p.toNat dP).stem) ≥ 0)) && (decide (((pts.getD p.toNat dP).stem) < (states.length : Int))))) ≠ _; rw [hg15]; intro h; cases h) rfl rfl ?_
          refine opN rfl rfl rfl rfl (by show yv (.bool ((decide (((pts.getD p.toNat dP).stem) ≥ 0)) && (decide (((pts.getD p.toNat dP).stem) < (states.length : Int))))) ≠ _; rw [hg15]; intro h; cases h) rfl rfl ?_
          refine opG rfl (aop_pick (b := ((decide (((pts.getD p.toNat dP).stem) ≥ 0)) && (decide (((pts.getD p.toNat dP).stem) < (states.length : Int))))) rfl rfl rfl rfl (by rw [hg15] <;> rfl) ?_)
          refine op0 ?_
          exact imp_env (lee_both 51 _ _ (by rw [hg15] <;> rfl) (lee_out 50 _ rfl (lee_out 49 _ rfl (lee_out 48 _ rfl (lee_out 47 _ rfl (lee_out 46 _ rfl (lee_same _)))))))
      refine opG rfl (aop_move (av := .v (.bool (((decide (((pts.getD p.toNat dP).stem) ≥ 0)) && (decide (((pts.getD p.toNat dP).stem) < (states.length : Int)))) && ((states.getD ((pts.getD p.toNat dP).stem).toNat 0) == 0)))) (.inl rfl) rfl rfl rfl ?_)
      refine aops_grp 5 57 (.v (.bool ((((decide (((pts.getD p.toNat dP).stem) ≥ 0)) && (decide (((pts.getD p.toNat dP).stem) < (states.length : Int)))) && ((states.getD ((pts.getD p.toNat dP).stem).toNat 0) == 0)) && (!(hasB locked ((pts.getD p.toNat dP).stem)))))) ?_ ?_
      · rcases Bool.eq_false_or_eq_true (((decide (((pts.getD p.toNat dP).stem) ≥ 0)) && (decide (((pts.getD p.toNat dP).stem) < (states.length : Int)))) && ((states.getD ((pts.getD p.toNat dP).stem).toNat 0) == 0)) with hg19 | hg19
        · skip
          obtain ⟨hf20a, hf20b⟩ := and_t hg19
          obtain ⟨hf21a, hf21b⟩ := and_t hf20a
          have hf22 := of_decide_eq_true hf21a
          have hf23 := of_decide_eq_true hf21b
          have hf24 := (beq_iff_eq).1 hf20b
          refine opY rfl rfl rfl (by show AV.v (.bool (((decide (((pts.getD p.toNat dP).stem) ≥ 0)) && (decide (((pts.getD p.toNat dP).stem) < (states.length : Int)))) && ((states.getD ((pts.getD p.toNat dP).stem).toNat 0) == 0))) = _; rw [hg19]) (aop_move (av := .ro locked.length (enc eB locked)) (.inl rfl) rfl rfl rfl ?_)
          refine opY rfl rfl rfl (by show AV.v (.bool (((decide (((pts.getD p.toNat dP).stem) ≥ 0)) && (decide (((pts.getD p.toNat dP).stem) < (states.length : Int)))) && ((states.getD ((pts.getD p.toNat dP).stem).toNat 0) == 0))) = _; rw [hg19]) (aop_ld (av := .v (.int .i64 ((pts.getD p.toNat dP).stem))) rfl rfl rfl ag3 rfl rfl ?_)
          refine opY rfl rfl rfl (by show AV.v (.bool (((decide (((pts.getD p.toNat dP).stem) ≥ 0)) && (decide (((pts.getD p.toNat dP).stem) < (states.length : Int)))) && ((states.getD ((pts.getD p.toNat dP).stem).toNat 0) == 0))) = _; rw [hg19]) (call_ (p_has locked ((pts.getD p.toNat dP).stem) (by first | omega | (simp; done) | decide | (simp; omega) | (simp at *; omega))) rfl rfl rfl rfl rfl bd25 rfl ?_)
          refine opY rfl rfl rfl (by show AV.v (.bool (((decide (((pts.getD p.toNat dP).stem) ≥ 0)) && (decide (((pts.getD p.toNat dP).stem) < (states.length : Int)))) && ((states.getD ((pts.getD p.toNat dP).stem).toNat 0) == 0))) = _; rw [hg19]) (aop_not rfl rfl rfl rfl ?_)
          refine opG rfl (aop_pick (b := (((decide (((pts.getD p.toNat dP).stem) ≥ 0)) && (decide (((pts.getD p.toNat dP).stem) < (states.length : Int)))) && ((states.getD ((pts.getD p.toNat dP).stem).toNat 0) == 0))) rfl rfl rfl rfl (by rw [hg19] <;> rfl) ?_)
          refine op0 ?_
          exact imp_env (lee_both 57 _ _ (by rw [hg19] <;> rfl) (lee_out 56 _ rfl (lee_out 55 _ rfl (lee_out 54 _ rfl (lee_out 53 _ rfl (lee_same _))))))
        · skip
          refine opN rfl rfl rfl rfl (by show yv (.bool (((decide (((pts.getD p.toNat dP).stem) ≥ 0)) && (decide (((pts.getD p.toNat dP).stem) < (states.length : Int)))) && ((states.getD ((pts.getD p.toNat dP).stem).toNat 0) == 0))) ≠ _; rw [hg19]; intro h; cases h) rfl rfl ?_
          refine opN rfl rfl rfl rfl (by show yv (.bool (((decide (((pts.getD p.toNat dP).stem) ≥ 0)) && (decide (((pts.getD p.toNat dP).stem) < (states.length : Int)))) && ((states.getD ((pts.getD p.toNat dP).stem).toNat 0) == 0))) ≠ _; rw [hg19]; intro h; cases h) rfl rfl ?_
          refine opN rfl rfl rfl rfl (by show yv (.bool (((decide (((pts.getD p.toNat dP).stem) ≥ 0)) && (decide (((pts.getD p.toNat dP).stem) < (states.length : Int)))) && ((states.getD ((pts.getD p.toNat dP).stem).toNat 0) == 0))) ≠ _; rw [hg19]; intro h; cases h) rfl rfl ?_
          refine opN rfl rfl rfl rfl (by show yv (.bool (((decide (((pts.getD p.toNat dP).stem) ≥ 0)) && (decide (((pts.getD p.toNat dP).stem) < (states.length : Int)))) && ((states.getD ((pts.getD p.toNat dP).stem).toNat 0) == 0))) ≠ _; rw [hg19]; intro h; cases h) rfl rfl ?_
          refine opG rfl (aop_pick (b := (((decide (((pts.getD p.toNat dP).stem) ≥ 0)) && (decide (((pts.getD p.toNat dP).stem) < (states.length : Int)))) && ((states.getD ((pts.getD p.toNat dP).stem).toNat 0) == 0))) rfl rfl rfl rfl (by rw [hg19] <;> rfl) ?_)
          refine op0 ?_
          exact imp_env (lee_both 57 _ _ (by rw [hg19] <;> rfl) (lee_out 56 _ rfl (lee_out 55 _ rfl (lee_out 54 _ rfl (lee_out 53 _ rfl (lee_same _))))))
      refine opG rfl (aop_move (av := .v (.bool ((((decide (((pts.getD p.toNat dP).stem) ≥ 0)) && (decide (((pts.getD p.toNat dP).stem) < (states.length : Int)))) && ((states.getD ((pts.getD p.toNat dP).stem).toNat 0) == 0)) && (!(hasB locked ((pts.getD p.toNat dP).stem)))))) (.inr rfl) rfl rfl rfl ?_)
      refine op0 ?_
      show AWP _ _ _ _ _
      refine awp_imp ⟨(upd none_ 12 (.v (.bool ((((decide (((pts.getD p.toNat dP).stem) ≥ 0)) && (decide (((pts.getD p.toNat dP).stem) < (states.length : Int)))) && ((states.getD ((pts.getD p.toNat dP).stem).toNat 0) == 0)) && (!(hasB locked ((pts.getD p.toNat dP).stem))))))), (updO (updO (updO noOb 51 (.live ⟨[.one, .one, .one, .ro pts.length (enc ePnt pts), .one, .one, .one, .one, .one, .one], 47, 1⟩)) 52 (.live ⟨[.v (.int .i64 0)], 3, 1⟩)) 52 (.live ⟨[.v (.int .i64 ((pts.getD p.toNat dP).stem))], 3, 1⟩))⟩ (imp_le ⟨(lee_upd 12 _ rfl (lee_none _)), fun _ => .inl rfl⟩) ?_
      refine awp_ret ?_
      exact fret (av := .v (.bool ((((decide (((pts.getD p.toNat dP).stem) ≥ 0)) && (decide (((pts.getD p.toNat dP).stem) < (states.length : Int)))) && ((states.getD ((pts.getD p.toNat dP).stem).toNat 0) == 0)) && (!(hasB locked ((pts.getD p.toNat dP).stem)))))) rfl rfl (by rw [may_end hno hc1])

set_option maxRecDepth 10000 in
set_option maxHeartbeats 1000000 in
theorem r14_May (pts : List Pnt) (states : List Int) (views : List View) (locked held : List Bool) (p : Int) (hp : pts.length ≤ 65536) (hs : states.length ≤ 65536) (hn : views.length ≤ 65536) (hlk : locked.length ≤ 65536) (hh : held.length ≤ 65536) (hv : ∀ v, v ∈ views → v.span.length ≤ 65536) : Fn Try.prog 16 [.agg [.one, .one, .one, .ro pts.length (enc ePnt pts), .one, .one, .one, .one, .one, .one], .ro states.length (enc eU8 states), .ro views.length (enc eV views), .ro locked.length (enc eB locked), .ro held.length (enc eB held), .v (.int .i64 p)] (.v (.bool (mayB pts states views locked held p))) := by
  refine fnE_of_body (N := 69) Try.func16 rfl rfl (resOf1 rfl) (by simp) (fun w0 X => ?_)
  refine seqR ?_
  refine opG rfl (aop_box 51 rfl rfl rfl rfl rfl rfl rfl ?_)
  refine opG rfl (aop_move (av := .v (.bool false)) (.inr rfl) rfl rfl rfl ?_)
  refine op0 ?_
  show AWP _ _ _ _ _
  refine awp_seq ?_
  refine seqR ?_
  refine opG rfl (aop_move (av := .v (.int .i64 p)) (.inl rfl) rfl rfl rfl ?_)
  refine opG rfl (aop_binI (u := (.bool (decide (p < 0)))) rfl rfl rfl rfl rfl trivial rfl ?_)
  refine opG rfl (aop_move (av := .v (.bool (decide (p < 0)))) (.inl rfl) rfl rfl rfl ?_)
  refine aops_grp 6 23 (.v (.bool ((decide (p < 0)) || (decide (p ≥ (pts.length : Int)))))) ?_ ?_
  · rcases Bool.eq_false_or_eq_true (decide (p < 0)) with hg1 | hg1
    · skip
      have hf2 := of_decide_eq_true hg1
      refine opN rfl rfl rfl rfl (by show yv (.bool (decide (p < 0))) ≠ _; rw [hg1]; intro h; cases h) rfl rfl ?_
      refine opN rfl rfl rfl rfl (by show yv (.bool (decide (p < 0))) ≠ _; rw [hg1]; intro h; cases h) rfl rfl ?_
      refine opN rfl rfl rfl rfl (by show yv (.bool (decide (p < 0))) ≠ _; rw [hg1]; intro h; cases h) rfl rfl ?_
      refine opN rfl rfl rfl rfl (by show yv (.bool (decide (p < 0))) ≠ _; rw [hg1]; intro h; cases h) rfl rfl ?_
      refine opN rfl rfl rfl rfl (by show yv (.bool (decide (p < 0))) ≠ _; rw [hg1]; intro h; cases h) rfl rfl ?_
      refine opG rfl (aop_pick (b := (decide (p < 0))) rfl rfl rfl rfl (by rw [hg1] <;> rfl) ?_)
      refine op0 ?_
      exact imp_env (lee_both 23 _ _ (by rw [hg1] <;> rfl) (lee_out 22 _ rfl (lee_out 21 _ rfl (lee_out 20 _ rfl (lee_out 19 _ rfl (lee_out 18 _ rfl (lee_same _)))))))
    · skip
      have hf3 := of_decide_eq_false hg1
      refine opY rfl rfl rfl (by show AV.v (.bool (decide (p < 0))) = _; rw [hg1]) (aop_move (av := .v (.int .i64 p)) (.inl rfl) rfl rfl rfl ?_)
      refine opY rfl rfl rfl (by show AV.v (.bool (decide (p < 0))) = _; rw [hg1]) (aop_fieldAddr (av := .pt 51 0) (av' := .pt 51 3) rfl rfl rfl ft47_3 sz45 rfl rfl rfl ?_)
      refine opY rfl rfl rfl (by show AV.v (.bool (decide (p < 0))) = _; rw [hg1]) (aop_ld (av := .ro pts.length (enc ePnt pts)) rfl rfl rfl ag45 rfl rfl ?_)
      refine opY rfl rfl rfl (by show AV.v (.bool (decide (p < 0))) = _; rw [hg1]) (aop_len rfl rfl rfl rfl ut45 (len_ro rfl) ?_)
      refine opY rfl rfl rfl (by show AV.v (.bool (decide (p < 0))) = _; rw [hg1]) (aop_binI (u := (.bool (decide (p ≥ (pts.length : Int))))) rfl rfl rfl rfl rfl trivial rfl ?_)
      refine opG rfl (aop_pick (b := (decide (p < 0))) rfl rfl rfl rfl (by rw [hg1] <;> rfl) ?_)
      refine op0 ?_
      exact imp_env (lee_both 23 _ _ (by rw [hg1] <;> rfl) (lee_out 22 _ rfl (lee_out 21 _ rfl (lee_out 20 _ rfl (lee_out 19 _ rfl (lee_out 18 _ rfl (lee_same _)))))))
  refine opG rfl (aop_move (av := .v (.bool ((decide (p < 0)) || (decide (p ≥ (pts.length : Int)))))) (.inl rfl) rfl rfl rfl ?_)
  refine aops_grp 4 28 (.v (.bool (((decide (p < 0)) || (decide (p ≥ (pts.length : Int)))) || (hasB held p)))) ?_ ?_
  · rcases Bool.eq_false_or_eq_true ((decide (p < 0)) || (decide (p ≥ (pts.length : Int)))) with hg4 | hg4
    · skip
      refine opN rfl rfl rfl rfl (by show yv (.bool ((decide (p < 0)) || (decide (p ≥ (pts.length : Int))))) ≠ _; rw [hg4]; intro h; cases h) rfl rfl ?_
      refine opN rfl rfl rfl rfl (by show yv (.bool ((decide (p < 0)) || (decide (p ≥ (pts.length : Int))))) ≠ _; rw [hg4]; intro h; cases h) rfl rfl ?_
      refine opN rfl rfl rfl rfl (by show yv (.bool ((decide (p < 0)) || (decide (p ≥ (pts.length : Int))))) ≠ _; rw [hg4]; intro h; cases h) rfl rfl ?_
      refine opG rfl (aop_pick (b := ((decide (p < 0)) || (decide (p ≥ (pts.length : Int))))) rfl rfl rfl rfl (by rw [hg4] <;> rfl) ?_)
      refine op0 ?_
      exact imp_env (lee_both 28 _ _ (by rw [hg4] <;> rfl) (lee_out 27 _ rfl (lee_out 26 _ rfl (lee_out 25 _ rfl (lee_same _)))))
    · skip
      obtain ⟨hf5a, hf5b⟩ := or_f hg4
      have hf6 := of_decide_eq_false hf5a
      have hf7 := of_decide_eq_false hf5b
      refine opY rfl rfl rfl (by show AV.v (.bool ((decide (p < 0)) || (decide (p ≥ (pts.length : Int))))) = _; rw [hg4]) (aop_move (av := .ro held.length (enc eB held)) (.inl rfl) rfl rfl rfl ?_)
      refine opY rfl rfl rfl (by show AV.v (.bool ((decide (p < 0)) || (decide (p ≥ (pts.length : Int))))) = _; rw [hg4]) (aop_move (av := .v (.int .i64 p)) (.inl rfl) rfl rfl rfl ?_)
      refine opY rfl rfl rfl (by show AV.v (.bool ((decide (p < 0)) || (decide (p ≥ (pts.length : Int))))) = _; rw [hg4]) (call_ (r14_stands held p (by first | omega | (simp; done) | decide | (simp; omega) | (simp at *; omega))) rfl rfl rfl rfl rfl bd22 rfl ?_)
      refine opG rfl (aop_pick (b := ((decide (p < 0)) || (decide (p ≥ (pts.length : Int))))) rfl rfl rfl rfl (by rw [hg4] <;> rfl) ?_)
      refine op0 ?_
      exact imp_env (lee_both 28 _ _ (by rw [hg4] <;> rfl) (lee_out 27 _ rfl (lee_out 26 _ rfl (lee_out 25 _ rfl (lee_same _)))))
  refine op0 ?_
  show AWP _ _ _ _ _
  refine awp_imp ⟨(upd (upd (upd (upd (upd (upd (upd none_ 1 (.ro states.length (enc eU8 states))) 2 (.ro views.length (enc eV views))) 3 (.ro locked.length (enc eB locked))) 5 (.v (.int .i64 p))) 6 (.pt 51 0)) 12 (.v (.bool false))) 28 (.v (.bool (((decide (p < 0)) || (decide (p ≥ (pts.length : Int)))) || (hasB held p))))), (updO noOb 51 (.live ⟨[.one, .one, .one, .ro pts.length (enc ePnt pts), .one, .one, .one, .one, .one, .one], 47, 1⟩))⟩ (imp_le ⟨(lee_upd 28 _ rfl (lee_upd 12 _ rfl (lee_upd 6 _ rfl (lee_upd 5 _ rfl (lee_upd 3 _ rfl (lee_upd 2 _ rfl (lee_upd 1 _ rfl (lee_none _)))))))), fun _ => .inl rfl⟩) ?_
  refine awp_cond (((decide (p < 0)) || (decide (p ≥ (pts.length : Int)))) || (hasB held p)) rfl rfl (fun hc0 => ?_) (fun hc0 => ?_)
  · skip
    refine seqR ?_
    refine opG rfl (aop_move (av := .v (.bool false)) (.inr rfl) rfl rfl rfl ?_)
    refine op0 ?_
    show AWP _ _ _ _ _
    refine awp_ret ?_
    exact fret (av := .v (.bool false)) rfl rfl (by rw [may_no hc0])
  · skip
    obtain ⟨hf8a, hf8b⟩ := or_f hc0
    obtain ⟨hf9a, hf9b⟩ := or_f hf8a
    have hf10 := of_decide_eq_false hf9a
    have hf11 := of_decide_eq_false hf9b
    have hno : (decide (p < 0) || decide (p ≥ (pts.length : Int)) || hasB held p) = false := hc0
    have hpr : 0 ≤ p ∧ p < (pts.length : Int) := by simp only [Bool.or_eq_false_iff, decide_eq_false_iff_not] at hno; omega
    refine awp_skip ?_
    show AWP _ _ _ _ _
    refine seqR ?_
    refine opG rfl (aop_fieldAddr (av := .pt 51 0) (av' := .pt 51 3) rfl rfl rfl ft47_3 sz45 rfl rfl rfl ?_)
    refine opG rfl (aop_ld (av := .ro pts.length (enc ePnt pts)) rfl rfl rfl ag45 rfl rfl ?_)
    refine opG rfl (aop_move (av := .v (.int .i64 p)) (.inl rfl) rfl rfl rfl ?_)
    refine opG rfl (aop_ixI dP rfl rfl rfl ut45 sz60 rfl rfl (fun _ => rfl) rfl (by omega) (by first | omega | (simp; done) | decide | (simp; omega) | (simp at *; omega)) ?_)
    refine opG rfl (aop_fieldAddr (av := .rp (([.v (.int .i64 ((pts.getD p.toNat dP).node)), .v (.int .i64 ((pts.getD p.toNat dP).stem)), .v (.int .i64 ((pts.getD p.toNat dP).left)), .v (.int .i64 ((pts.getD p.toNat dP).right))] : List AV) ++ ((enc ePnt pts).drop ((p.toNat + 1) * 4)))) (av' := .rp (([.v (.int .i64 ((pts.getD p.toNat dP).stem)), .v (.int .i64 ((pts.getD p.toNat dP).left)), .v (.int .i64 ((pts.getD p.toNat dP).right))] : List AV) ++ ((enc ePnt pts).drop ((p.toNat + 1) * 4)))) rfl rfl rfl ft60_1 sz3 rfl rfl rfl ?_)
    refine opG rfl (aop_ld (av := .v (.int .i64 ((pts.getD p.toNat dP).stem))) rfl rfl rfl ag3 rfl rfl ?_)
    refine opG rfl (aop_move (av := .v (.int .i64 ((pts.getD p.toNat dP).stem))) (.inr rfl) rfl rfl rfl ?_)
    refine op0 ?_
    show AWP _ _ _ _ _
    refine awp_imp ⟨(upd (upd (upd (upd (upd none_ 1 (.ro states.length (enc eU8 states))) 2 (.ro views.length (enc eV views))) 3 (.ro locked.length (enc eB locked))) 12 (.v (.bool false))) 13 (.v (.int .i64 ((pts.getD p.toNat dP).stem)))), (updO noOb 51 (.live ⟨[.one, .one, .one, .ro pts.length (enc ePnt pts), .one, .one, .one, .one, .one, .one], 47, 1⟩))⟩ (imp_le ⟨(lee_upd 13 _ rfl (lee_upd 12 _ rfl (lee_upd 3 _ rfl (lee_upd 2 _ rfl (lee_upd 1 _ rfl (lee_none _)))))), fun _ => .inl rfl⟩) ?_
    refine awp_seq ?_
    refine seqR ?_
    refine opG rfl (aop_move (av := .v (.int .i64 0)) (.inr rfl) rfl rfl rfl ?_)
    refine op0 ?_
    show AWP _ _ _ _ _
    refine awp_block ?_
    refine awp_countI (fun k => ⟨(upd (upd (upd (upd (upd (upd none_ 1 (.ro states.length (enc eU8 states))) 2 (.ro views.length (enc eV views))) 3 (.ro locked.length (enc eB locked))) 12 (.v (.bool false))) 13 (.v (.int .i64 ((pts.getD p.toNat dP).stem)))) 14 (.v (.int .i64 (k : Int)))), noOb⟩) (fun k => (views.take k).any (hasV (pts.getD p.toNat dP).stem) = false) (views.length) ?_ (by simp) (fun k hk_k hinv => ?_)
    · skip
      exact imp_ler [] (ler0 (sr_same 14 (.v (.int .i64 (0 : Int))) rfl NoI.out (sr_same 13 (.v (.int .i64 ((pts.getD p.toNat dP).stem))) rfl NoI.out (sr_same 12 (.v (.bool false)) rfl NoI.out (sr_same 3 (.ro locked.length (enc eB locked)) rfl NoI.out (sr_same 2 (.ro views.length (enc eV views)) rfl NoI.out (sr_same 1 (.ro states.length (enc eU8 states)) rfl NoI.out sr_none))))))) (keep_of rfl)
    refine awp_seq ?_
    refine seqR ?_
    refine opG rfl (aop_move (av := .v (.int .i64 (k : Int))) (.inl rfl) rfl rfl rfl ?_)
    refine opG rfl (aop_move (av := .ro views.length (enc eV views)) (.inl rfl) rfl rfl rfl ?_)
    refine opG rfl (aop_len rfl rfl rfl rfl ut54 (len_ro rfl) ?_)
    refine opG rfl (aop_binI (u := (.bool (decide ((k : Int) < (views.length : Int))))) rfl rfl rfl rfl rfl trivial rfl ?_)
    refine op0 ?_
    show AWP _ _ _ _ _
    refine awp_imp ⟨(upd (upd (upd (upd (upd (upd (upd none_ 1 (.ro states.length (enc eU8 states))) 2 (.ro views.length (enc eV views))) 3 (.ro locked.length (enc eB locked))) 12 (.v (.bool false))) 13 (.v (.int .i64 ((pts.getD p.toNat dP).stem)))) 14 (.v (.int .i64 (k : Int)))) 38 (.v (.bool (decide ((k : Int) < (views.length : Int)))))), noOb⟩ (imp_le ⟨(lee_upd 38 _ rfl (lee_upd 14 _ rfl (lee_upd 13 _ rfl (lee_upd 12 _ rfl (lee_upd 3 _ rfl (lee_upd 2 _ rfl (lee_upd 1 _ rfl (lee_none _)))))))), fun _ => .inl rfl⟩) ?_
    refine awp_cond (decide ((k : Int) < (views.length : Int))) rfl rfl (fun hc1 => ?_) (fun hc1 => ?_)
    · skip
      have hf12 := of_decide_eq_true hc1
      have hvk := hv _ (getD_mem (l := views) (k := k) dV (by omega))
      refine awp_skip ?_
      show AWP _ _ _ _ _
      refine awp_seq ?_
      refine awp_block ?_
      refine seqR ?_
      refine opG rfl (aop_move (av := .ro views.length (enc eV views)) (.inl rfl) rfl rfl rfl ?_)
      refine opG rfl (aop_move (av := .v (.int .i64 (k : Int))) (.inl rfl) rfl rfl rfl ?_)
      refine opG rfl (aop_ixE dV rfl rfl rfl ut54 sz53 rfl rfl (fun _ => rfl) rfl (by first | omega | (simp; done) | decide | (simp; omega) | (simp at *; omega)) ?_)
      refine opG rfl (aop_fieldAddr (av := .rp (([.v (.int .i64 ((views.getD k dV).id)), .v (.bool ((views.getD k dV).sure)), .ro ((views.getD k dV).span.length) (enc eI ((views.getD k dV).span))] : List AV) ++ ((enc eV views).drop ((k + 1) * 3)))) (av' := .rp (([.ro ((views.getD k dV).span.length) (enc eI ((views.getD k dV).span))] : List AV) ++ ((enc eV views).drop ((k + 1) * 3)))) rfl rfl rfl ft53_2 sz49 rfl rfl rfl ?_)
      refine opG rfl (aop_ld (av := .ro ((views.getD k dV).span.length) (enc eI ((views.getD k dV).span))) rfl rfl rfl ag49 rfl rfl ?_)
      refine opG rfl (aop_move (av := .v (.int .i64 ((pts.getD p.toNat dP).stem))) (.inl rfl) rfl rfl rfl ?_)
      refine opG rfl (call_ (r01_Has ((views.getD k dV).span) ((pts.getD p.toNat dP).stem) (by first | omega | (simp; done) | decide | (simp; omega) | (simp at *; omega))) rfl rfl rfl rfl rfl bd29 rfl ?_)
      refine op0 ?_
      show AWP _ _ _ _ _
      refine awp_imp ⟨(upd (upd (upd (upd (upd (upd (upd none_ 1 (.ro states.length (enc eU8 states))) 2 (.ro views.length (enc eV views))) 3 (.ro locked.length (enc eB locked))) 12 (.v (.bool false))) 13 (.v (.int .i64 ((pts.getD p.toNat dP).stem)))) 14 (.v (.int .i64 (k : Int)))) 47 (.v (.bool (decide (((pts.getD p.toNat dP).stem) ∈ ((views.getD k dV).span)))))), noOb⟩ (imp_le ⟨(lee_upd 47 _ rfl (lee_upd 14 _ rfl (lee_upd 13 _ rfl (lee_upd 12 _ rfl (lee_upd 3 _ rfl (lee_upd 2 _ rfl (lee_upd 1 _ rfl (lee_none _)))))))), fun _ => .inl rfl⟩) ?_
      refine awp_cond (decide (((pts.getD p.toNat dP).stem) ∈ ((views.getD k dV).span))) rfl rfl (fun hc2 => ?_) (fun hc2 => ?_)
      · skip
        refine seqR ?_
        refine opG rfl (aop_move (av := .v (.bool false)) (.inr rfl) rfl rfl rfl ?_)
        refine op0 ?_
        show AWP _ _ _ _ _
        refine awp_ret ?_
        exact fret (av := .v (.bool false)) rfl rfl (by rw [may_in hno (List.any_eq_true.2 ⟨_, getD_mem (l := views) (k := k) dV (by omega), hc2⟩)])
      · skip
        refine awp_skip ?_
        show AWP _ _ _ _ _
        refine regR ?_
        refine opG rfl (aop_move (av := .v (.int .i64 (k : Int))) (.inl rfl) rfl rfl rfl ?_)
        refine opG rfl (aop_binI (u := (.int .i64 ((k + 1 : Nat) : Int))) rfl rfl rfl rfl rfl trivial (addN (by omega)) ?_)
        refine opG rfl (aop_move (av := .v (.int .i64 ((k + 1 : Nat) : Int))) (.inr rfl) rfl rfl rfl ?_)
        refine op0 ?_
        show _ ∧ _
        refine ⟨by omega, (any_step dV (by omega) hinv hc2), ?_⟩
        exact imp_ler [] (ler0 (sr_same 14 (.v (.int .i64 ((k + 1) : Int))) rfl NoI.out (sr_same 13 (.v (.int .i64 ((pts.getD p.toNat dP).stem))) rfl NoI.out (sr_same 12 (.v (.bool false)) rfl NoI.out (sr_same 3 (.ro locked.length (enc eB locked)) rfl NoI.out (sr_same 2 (.ro views.length (enc eV views)) rfl NoI.out (sr_same 1 (.ro states.length (enc eU8 states)) rfl NoI.out sr_none))))))) (keep_of rfl)
    · skip
      have hf13 := of_decide_eq_false hc1
      refine awp_exit ?_
      show AWP _ _ _ _ _
      refine seqR ?_
      refine opG rfl (aop_move (av := .v (.int .i64 ((pts.getD p.toNat dP).stem))) (.inl rfl) rfl rfl rfl ?_)
      refine opG rfl (aop_binI (u := (.bool (decide (((pts.getD p.toNat dP).stem) ≥ 0)))) rfl rfl rfl rfl rfl trivial rfl ?_)
      refine opG rfl (aop_move (av := .v (.bool (decide (((pts.getD p.toNat dP).stem) ≥ 0)))) (.inl rfl) rfl rfl rfl ?_)
      refine aops_grp 5 55 (.v (.bool ((decide (((pts.getD p.toNat dP).stem) ≥ 0)) && (decide (((pts.getD p.toNat dP).stem) < (states.length : Int)))))) ?_ ?_
      · rcases Bool.eq_false_or_eq_true (decide (((pts.getD p.toNat dP).stem) ≥ 0)) with hg14 | hg14
        · skip
          have hf15 := of_decide_eq_true hg14
          refine opY rfl rfl rfl (by show AV.v (.bool (decide (((pts.getD p.toNat dP).stem) ≥ 0))) = _; rw [hg14]) (aop_move (av := .v (.int .i64 ((pts.getD p.toNat dP).stem))) (.inl rfl) rfl rfl rfl ?_)
          refine opY rfl rfl rfl (by show AV.v (.bool (decide (((pts.getD p.toNat dP).stem) ≥ 0))) = _; rw [hg14]) (aop_move (av := .ro states.length (enc eU8 states)) (.inl rfl) rfl rfl rfl ?_)
          refine opY rfl rfl rfl (by show AV.v (.bool (decide (((pts.getD p.toNat dP).stem) ≥ 0))) = _; rw [hg14]) (aop_len rfl rfl rfl rfl ut40 (len_ro rfl) ?_)
          refine opY rfl rfl rfl (by show AV.v (.bool (decide (((pts.getD p.toNat dP).stem) ≥ 0))) = _; rw [hg14]) (aop_binI (u := (.bool (decide (((pts.getD p.toNat dP).stem) < (states.length : Int))))) rfl rfl rfl rfl rfl trivial rfl ?_)
          refine opG rfl (aop_pick (b := (decide (((pts.getD p.toNat dP).stem) ≥ 0))) rfl rfl rfl rfl (by rw [hg14] <;> rfl) ?_)
          refine op0 ?_
          exact imp_env (lee_both 55 _ _ (by rw [hg14] <;> rfl) (lee_out 54 _ rfl (lee_out 53 _ rfl (lee_out 52 _ rfl (lee_out 51 _ rfl (lee_same _))))))
        · skip
          have hf16 := of_decide_eq_false hg14
          refine opN rfl rfl rfl rfl (by show yv (.bool (decide (((pts.getD p.toNat dP).stem) ≥ 0))) ≠ _; rw [hg14]; intro h; cases h) rfl rfl ?_
          refine opN rfl rfl rfl rfl (by show yv (.bool (decide (((pts.getD p.toNat dP).stem) ≥ 0))) ≠ _; rw [hg14]; intro h; cases h) rfl rfl ?_
          refine opN rfl rfl rfl rfl (by show yv (.bool (decide (((pts.getD p.toNat dP).stem) ≥ 0))) ≠ _; rw [hg14]; intro h; cases h) rfl rfl ?_
          refine opN rfl rfl rfl rfl (by show yv (.bool (decide (((pts.getD p.toNat dP).stem) ≥ 0))) ≠ _; rw [hg14]; intro h; cases h) rfl rfl ?_
          refine opG rfl (aop_pick (b := (decide (((pts.getD p.toNat dP).stem) ≥ 0))) rfl rfl rfl rfl (by rw [hg14] <;> rfl) ?_)
          refine op0 ?_
          exact imp_env (lee_both 55 _ _ (by rw [hg14] <;> rfl) (lee_out 54 _ rfl (lee_out 53 _ rfl (lee_out 52 _ rfl (lee_out 51 _ rfl (lee_same _))))))
      refine opG rfl (aop_move (av := .v (.bool ((decide (((pts.getD p.toNat dP).stem) ≥ 0)) && (decide (((pts.getD p.toNat dP).stem) < (states.length : Int)))))) (.inl rfl) rfl rfl rfl ?_)
      refine aops_grp 6 62 (.v (.bool (((decide (((pts.getD p.toNat dP).stem) ≥ 0)) && (decide (((pts.getD p.toNat dP).stem) < (states.length : Int)))) && ((states.getD ((pts.getD p.toNat dP).stem).toNat 0) == 0)))) ?_ ?_
      · rcases Bool.eq_false_or_eq_true ((decide (((pts.getD p.toNat dP).stem) ≥ 0)) && (decide (((pts.getD p.toNat dP).stem) < (states.length : Int)))) with hg17 | hg17
        · skip
          obtain ⟨hf18a, hf18b⟩ := and_t hg17
          have hf19 := of_decide_eq_true hf18a
          have hf20 := of_decide_eq_true hf18b
          refine opY rfl rfl rfl (by show AV.v (.bool ((decide (((pts.getD p.toNat dP).stem) ≥ 0)) && (decide (((pts.getD p.toNat dP).stem) < (states.length : Int))))) = _; rw [hg17]) (aop_move (av := .ro states.length (enc eU8 states)) (.inl rfl) rfl rfl rfl ?_)
          refine opY rfl rfl rfl (by show AV.v (.bool ((decide (((pts.getD p.toNat dP).stem) ≥ 0)) && (decide (((pts.getD p.toNat dP).stem) < (states.length : Int))))) = _; rw [hg17]) (aop_move (av := .v (.int .i64 ((pts.getD p.toNat dP).stem))) (.inl rfl) rfl rfl rfl ?_)
          refine opY rfl rfl rfl (by show AV.v (.bool ((decide (((pts.getD p.toNat dP).stem) ≥ 0)) && (decide (((pts.getD p.toNat dP).stem) < (states.length : Int))))) = _; rw [hg17]) (aop_ixI 0 rfl rfl rfl ut40 sz5 rfl rfl (fun _ => rfl) rfl (by omega) (by first | omega | (simp; done) | decide | (simp; omega) | (simp at *; omega)) ?_)
          refine opY rfl rfl rfl (by show AV.v (.bool ((decide (((pts.getD p.toNat dP).stem) ≥ 0)) && (decide (((pts.getD p.toNat dP).stem) < (states.length : Int))))) = _; rw [hg17]) (aop_ld (av := .v (.int .u8 (states.getD ((pts.getD p.toNat dP).stem).toNat 0))) rfl rfl rfl ag5 rfl rfl ?_)
          refine opY rfl rfl rfl (by show AV.v (.bool ((decide (((pts.getD p.toNat dP).stem) ≥ 0)) && (decide (((pts.getD p.toNat dP).stem) < (states.length : Int))))) = _; rw [hg17]) (aop_binI (u := (.bool ((states.getD ((pts.getD p.toNat dP).stem).toNat 0) == 0))) rfl rfl rfl rfl rfl trivial rfl ?_)
          refine opG rfl (aop_pick (b := ((decide (((pts.getD p.toNat dP).stem) ≥ 0)) && (decide (((pts.getD p.toNat dP).stem) < (states.length : Int))))) rfl rfl rfl rfl (by rw [hg17] <;> rfl) ?_)
          refine op0 ?_
          exact imp_env (lee_both 62 _ _ (by rw [hg17] <;> rfl) (lee_out 61 _ rfl (lee_out 60 _ rfl (lee_out 59 _ rfl (lee_out 58 _ rfl (lee_out 57 _ rfl (lee_same _)))))))
        · skip
          refine opN rfl rfl rfl rfl (by show yv (.bool ((decide (((pts.getD p.toNat dP).stem) ≥ 0)) && (decide (((pts.getD p.toNat dP).stem) < (states.length : Int))))) ≠ _; rw [hg17]; intro h; cases h) rfl rfl ?_
          refine opN rfl rfl rfl rfl (by show yv (.bool ((decide (((pts.getD p.toNat dP).stem) ≥ 0)) && (decide (((pts.getD p.toNat dP).stem) < (states.length : Int))))) ≠ _; rw [hg17]; intro h; cases h) rfl rfl ?_
          refine opN rfl rfl rfl rfl (by show yv (.bool ((decide (((pts.getD p.toNat dP).stem) ≥ 0)) && (decide (((pts.getD p.toNat dP).stem) < (states.length : Int))))) ≠ _; rw [hg17]; intro h; cases h) rfl rfl ?_
          refine opN rfl rfl rfl rfl (by show yv (.bool ((decide (((pts.getD p.toNat dP).stem) ≥ 0)) && (decide (((pts.getD p.toNat dP).stem) < (states.length : Int))))) ≠ _; rw [hg17]; intro h; cases h) rfl rfl ?_
          refine opN rfl rfl rfl rfl (by show yv (.bool ((decide (((pts.getD p.toNat dP).stem) ≥ 0)) && (decide (((pts.getD p.toNat dP).stem) < (states.length : Int))))) ≠ _; rw [hg17]; intro h; cases h) rfl rfl ?_
          refine opG rfl (aop_pick (b := ((decide (((pts.getD p.toNat dP).stem) ≥ 0)) && (decide (((pts.getD p.toNat dP).stem) < (states.length : Int))))) rfl rfl rfl rfl (by rw [hg17] <;> rfl) ?_)
          refine op0 ?_
          exact imp_env (lee_both 62 _ _ (by rw [hg17] <;> rfl) (lee_out 61 _ rfl (lee_out 60 _ rfl (lee_out 59 _ rfl (lee_out 58 _ rfl (lee_out 57 _ rfl (lee_same _)))))))
      refine opG rfl (aop_move (av := .v (.bool (((decide (((pts.getD p.toNat dP).stem) ≥ 0)) && (decide (((pts.getD p.toNat dP).stem) < (states.length : Int)))) && ((states.getD ((pts.getD p.toNat dP).stem).toNat 0) == 0)))) (.inl rfl) rfl rfl rfl ?_)
      refine aops_grp 5 68 (.v (.bool ((((decide (((pts.getD p.toNat dP).stem) ≥ 0)) && (decide (((pts.getD p.toNat dP).stem) < (states.length : Int)))) && ((states.getD ((pts.getD p.toNat dP).stem).toNat 0) == 0)) && (!(hasB locked ((pts.getD p.toNat dP).stem)))))) ?_ ?_
      · rcases Bool.eq_false_or_eq_true (((decide (((pts.getD p.toNat dP).stem) ≥ 0)) && (decide (((pts.getD p.toNat dP).stem) < (states.length : Int)))) && ((states.getD ((pts.getD p.toNat dP).stem).toNat 0) == 0)) with hg21 | hg21
        · skip
          obtain ⟨hf22a, hf22b⟩ := and_t hg21
          obtain ⟨hf23a, hf23b⟩ := and_t hf22a
          have hf24 := of_decide_eq_true hf23a
          have hf25 := of_decide_eq_true hf23b
          have hf26 := (beq_iff_eq).1 hf22b
          refine opY rfl rfl rfl (by show AV.v (.bool (((decide (((pts.getD p.toNat dP).stem) ≥ 0)) && (decide (((pts.getD p.toNat dP).stem) < (states.length : Int)))) && ((states.getD ((pts.getD p.toNat dP).stem).toNat 0) == 0))) = _; rw [hg21]) (aop_move (av := .ro locked.length (enc eB locked)) (.inl rfl) rfl rfl rfl ?_)
          refine opY rfl rfl rfl (by show AV.v (.bool (((decide (((pts.getD p.toNat dP).stem) ≥ 0)) && (decide (((pts.getD p.toNat dP).stem) < (states.length : Int)))) && ((states.getD ((pts.getD p.toNat dP).stem).toNat 0) == 0))) = _; rw [hg21]) (aop_move (av := .v (.int .i64 ((pts.getD p.toNat dP).stem))) (.inl rfl) rfl rfl rfl ?_)
          refine opY rfl rfl rfl (by show AV.v (.bool (((decide (((pts.getD p.toNat dP).stem) ≥ 0)) && (decide (((pts.getD p.toNat dP).stem) < (states.length : Int)))) && ((states.getD ((pts.getD p.toNat dP).stem).toNat 0) == 0))) = _; rw [hg21]) (call_ (r14_stands locked ((pts.getD p.toNat dP).stem) (by first | omega | (simp; done) | decide | (simp; omega) | (simp at *; omega))) rfl rfl rfl rfl rfl bd22 rfl ?_)
          refine opY rfl rfl rfl (by show AV.v (.bool (((decide (((pts.getD p.toNat dP).stem) ≥ 0)) && (decide (((pts.getD p.toNat dP).stem) < (states.length : Int)))) && ((states.getD ((pts.getD p.toNat dP).stem).toNat 0) == 0))) = _; rw [hg21]) (aop_not rfl rfl rfl rfl ?_)
          refine opG rfl (aop_pick (b := (((decide (((pts.getD p.toNat dP).stem) ≥ 0)) && (decide (((pts.getD p.toNat dP).stem) < (states.length : Int)))) && ((states.getD ((pts.getD p.toNat dP).stem).toNat 0) == 0))) rfl rfl rfl rfl (by rw [hg21] <;> rfl) ?_)
          refine op0 ?_
          exact imp_env (lee_both 68 _ _ (by rw [hg21] <;> rfl) (lee_out 67 _ rfl (lee_out 66 _ rfl (lee_out 65 _ rfl (lee_out 64 _ rfl (lee_same _))))))
        · skip
          refine opN rfl rfl rfl rfl (by show yv (.bool (((decide (((pts.getD p.toNat dP).stem) ≥ 0)) && (decide (((pts.getD p.toNat dP).stem) < (states.length : Int)))) && ((states.getD ((pts.getD p.toNat dP).stem).toNat 0) == 0))) ≠ _; rw [hg21]; intro h; cases h) rfl rfl ?_
          refine opN rfl rfl rfl rfl (by show yv (.bool (((decide (((pts.getD p.toNat dP).stem) ≥ 0)) && (decide (((pts.getD p.toNat dP).stem) < (states.length : Int)))) && ((states.getD ((pts.getD p.toNat dP).stem).toNat 0) == 0))) ≠ _; rw [hg21]; intro h; cases h) rfl rfl ?_
          refine opN rfl rfl rfl rfl (by show yv (.bool (((decide (((pts.getD p.toNat dP).stem) ≥ 0)) && (decide (((pts.getD p.toNat dP).stem) < (states.length : Int)))) && ((states.getD ((pts.getD p.toNat dP).stem).toNat 0) == 0))) ≠ _; rw [hg21]; intro h; cases h) rfl rfl ?_
          refine opN rfl rfl rfl rfl (by show yv (.bool (((decide (((pts.getD p.toNat dP).stem) ≥ 0)) && (decide (((pts.getD p.toNat dP).stem) < (states.length : Int)))) && ((states.getD ((pts.getD p.toNat dP).stem).toNat 0) == 0))) ≠ _; rw [hg21]; intro h; cases h) rfl rfl ?_
          refine opG rfl (aop_pick (b := (((decide (((pts.getD p.toNat dP).stem) ≥ 0)) && (decide (((pts.getD p.toNat dP).stem) < (states.length : Int)))) && ((states.getD ((pts.getD p.toNat dP).stem).toNat 0) == 0))) rfl rfl rfl rfl (by rw [hg21] <;> rfl) ?_)
          refine op0 ?_
          exact imp_env (lee_both 68 _ _ (by rw [hg21] <;> rfl) (lee_out 67 _ rfl (lee_out 66 _ rfl (lee_out 65 _ rfl (lee_out 64 _ rfl (lee_same _))))))
      refine opG rfl (aop_move (av := .v (.bool ((((decide (((pts.getD p.toNat dP).stem) ≥ 0)) && (decide (((pts.getD p.toNat dP).stem) < (states.length : Int)))) && ((states.getD ((pts.getD p.toNat dP).stem).toNat 0) == 0)) && (!(hasB locked ((pts.getD p.toNat dP).stem)))))) (.inr rfl) rfl rfl rfl ?_)
      refine op0 ?_
      show AWP _ _ _ _ _
      refine awp_imp ⟨(upd none_ 12 (.v (.bool ((((decide (((pts.getD p.toNat dP).stem) ≥ 0)) && (decide (((pts.getD p.toNat dP).stem) < (states.length : Int)))) && ((states.getD ((pts.getD p.toNat dP).stem).toNat 0) == 0)) && (!(hasB locked ((pts.getD p.toNat dP).stem))))))), noOb⟩ (imp_le ⟨(lee_upd 12 _ rfl (lee_none _)), fun _ => .inl rfl⟩) ?_
      refine awp_ret ?_
      exact fret (av := .v (.bool ((((decide (((pts.getD p.toNat dP).stem) ≥ 0)) && (decide (((pts.getD p.toNat dP).stem) < (states.length : Int)))) && ((states.getD ((pts.getD p.toNat dP).stem).toNat 0) == 0)) && (!(hasB locked ((pts.getD p.toNat dP).stem)))))) rfl rfl (by rw [may_end hno (by rw [List.take_of_length_le (by omega)] at hinv; exact hinv)])
end Go.Lo
