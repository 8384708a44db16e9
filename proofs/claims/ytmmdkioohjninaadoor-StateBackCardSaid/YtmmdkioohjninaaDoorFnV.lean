/- Walks of Go functions in the logic of values. -/
import Derived.Test.YtmmdkioohjninaaDoorFnVTy
import Derived.Test.YtmmdkioohjninaaDoorDef
import Derived.Test.YtmmdkioohjninaaDoorLay
import Derived.Test.YtmmdkioohjninaaDoorSt
import Derived.Test.YtmmdkioohjninaaDoorSv
import Derived.Test.YtmmdkioohjninaaDoorFnA
import Derived.Test.YtmmdkioohjninaaDoorFnC
import Derived.Test.YtmmdkioohjninaaDoorFnM
import Derived.Test.YtmmdkioohjninaaDoorFnF
import Derived.Test.YtmmdkioohjninaaDoorFnS
set_option linter.unusedVariables false
set_option linter.unusedSimpArgs false
namespace Go.Lo
open Go.Proofs
set_option maxRecDepth 10000 in
set_option maxHeartbeats 16000000 in
theorem l13_few (looks : List Look) (hn : looks.length ≤ 9223372036854775807) : Fn Tryd.prog 12 [.agg [.one, .one, .ro looks.length (enc eLk looks)]] (.v (.bool (fewB looks))) := by
  refine fnE_of_body (N := 23) Tryd.func12 rfl rfl (resOf1 rfl) (by simp) (fun w0 X hL_ => ?_)
  refine seqR ?_
  refine opG rfl (aop_box 51 rfl rfl rfl rfl rfl rfl rfl ?_)
  refine opG rfl (aop_move (av := .v (.bool false)) (.inr rfl) rfl rfl rfl ?_)
  refine op0 ?_
  show AWP _ _ _ _ _
  refine awp_seq ?_
  refine seqR ?_
  refine opG rfl (aop_move (av := .v (.int .i64 0)) (.inr rfl) rfl rfl rfl ?_)
  refine op0 ?_
  show AWP _ _ _ _ _
  refine awp_block ?_
  refine awp_countI (fun k => ⟨(upd (upd (upd none_ 1 (.pt 1 0)) 2 (.v (.bool false))) 3 (.v (.int .i64 (k : Int)))), (updO noOb 1 (.live ⟨[.one, .one, .ro looks.length (enc eLk looks)], 30, 1⟩))⟩) (fun k => (looks.take k).any (fun x => decide (x.span.length > 14)) = false) (looks.length) ?_ (by simp) (fun k hk_k hinv => ?_)
  · skip
    exact imp_ler [(51, 1)] (ler1 51 1 _ _ rfl rfl (NoIL.out (l := [.one, .one, .ro looks.length (enc eLk looks)])) (sr_same 3 (.v (.int .i64 (0 : Int))) rfl NoI.out (sr_same 2 (.v (.bool false)) rfl NoI.out (sr_map 1 (.pt 1 0) (by first | exact Ok.sl _ _ _ (by first | decide | simp) | exact Ok.pt _ _ (by first | decide | simp)) rfl sr_none)))) (keep_of rfl)
  refine awp_seq ?_
  refine seqR ?_
  refine opG rfl (aop_move (av := .v (.int .i64 (k : Int))) (.inl rfl) rfl rfl rfl ?_)
  refine opG rfl (aop_fieldAddr (av := .pt 1 0) (av' := .pt 1 2) rfl rfl rfl ft30_2 sz28 rfl rfl rfl ?_)
  refine opG rfl (aop_ld (av := .ro looks.length (enc eLk looks)) rfl rfl rfl ag28 rfl rfl ?_)
  refine opG rfl (aop_len rfl rfl rfl rfl ut28 (len_ro rfl) ?_)
  refine opG rfl (aop_binI (u := (.bool (decide ((k : Int) < (looks.length : Int))))) rfl rfl rfl rfl rfl trivial rfl ?_)
  refine op0 ?_
  show AWP _ _ _ _ _
  refine awp_imp ⟨(upd (upd (upd (upd none_ 1 (.pt 1 0)) 2 (.v (.bool false))) 3 (.v (.int .i64 (k : Int)))) 8 (.v (.bool (decide ((k : Int) < (looks.length : Int)))))), (updO noOb 1 (.live ⟨[.one, .one, .ro looks.length (enc eLk looks)], 30, 1⟩))⟩ (imp_le ⟨(lee_upd 8 _ rfl (lee_upd 3 _ rfl (lee_upd 2 _ rfl (lee_upd 1 _ rfl (lee_none _))))), fun _ => .inl rfl⟩) ?_
  refine awp_cond (decide ((k : Int) < (looks.length : Int))) rfl rfl (fun hc0 => ?_) (fun hc0 => ?_)
  · skip
    have hf1 := of_decide_eq_true hc0
    refine awp_skip ?_
    show AWP _ _ _ _ _
    refine awp_seq ?_
    refine awp_block ?_
    refine seqR ?_
    refine opG rfl (aop_fieldAddr (av := .pt 1 0) (av' := .pt 1 2) rfl rfl rfl ft30_2 sz28 rfl rfl rfl ?_)
    refine opG rfl (aop_ld (av := .ro looks.length (enc eLk looks)) rfl rfl rfl ag28 rfl rfl ?_)
    refine opG rfl (aop_move (av := .v (.int .i64 (k : Int))) (.inl rfl) rfl rfl rfl ?_)
    refine opG rfl (aop_ixE dL rfl rfl rfl ut28 sz71 rfl rfl (fun _ => rfl) rfl (by first | omega | (simp; done) | decide | (simp; omega) | (simp at *; omega)) ?_)
    refine opG rfl (aop_fieldAddr (av := .rp (([.v (.int .u8 ((looks.getD k dL).id)), .v (.bool ((looks.getD k dL).sure)), .ro ((looks.getD k dL).span.length) (enc eU8 ((looks.getD k dL).span))] : List AV) ++ ((enc eLk looks).drop ((k + 1) * 3)))) (av' := .rp (([.ro ((looks.getD k dL).span.length) (enc eU8 ((looks.getD k dL).span))] : List AV) ++ ((enc eLk looks).drop ((k + 1) * 3)))) rfl rfl rfl ft71_2 sz26 rfl rfl rfl ?_)
    refine opG rfl (aop_ld (av := .ro ((looks.getD k dL).span.length) (enc eU8 ((looks.getD k dL).span))) rfl rfl rfl ag26 rfl rfl ?_)
    refine opG rfl (aop_len rfl rfl rfl rfl ut26 (len_ro rfl) ?_)
    refine opG rfl (aop_binI (u := (.bool (decide (((looks.getD k dL).span.length : Int) > 14)))) rfl rfl rfl rfl rfl trivial rfl ?_)
    refine op0 ?_
    show AWP _ _ _ _ _
    refine awp_imp ⟨(upd (upd (upd (upd none_ 1 (.pt 1 0)) 2 (.v (.bool false))) 3 (.v (.int .i64 (k : Int)))) 18 (.v (.bool (decide (((looks.getD k dL).span.length : Int) > 14))))), (updO noOb 1 (.live ⟨[.one, .one, .ro looks.length (enc eLk looks)], 30, 1⟩))⟩ (imp_le ⟨(lee_upd 18 _ rfl (lee_upd 3 _ rfl (lee_upd 2 _ rfl (lee_upd 1 _ rfl (lee_none _))))), fun _ => .inl rfl⟩) ?_
    refine awp_cond (decide (((looks.getD k dL).span.length : Int) > 14)) rfl rfl (fun hc1 => ?_) (fun hc1 => ?_)
    · skip
      have hf2 := of_decide_eq_true hc1
      refine seqR ?_
      refine opG rfl (aop_move (av := .v (.bool false)) (.inr rfl) rfl rfl rfl ?_)
      refine op0 ?_
      show AWP _ _ _ _ _
      refine awp_ret ?_
      exact fret (av := .v (.bool false)) rfl rfl (by rw [fewB_big (k := k) (by omega) (by simp at hc1 ⊢; omega)])
    · skip
      have hf3 := of_decide_eq_false hc1
      refine awp_skip ?_
      show AWP _ _ _ _ _
      refine regR ?_
      refine opG rfl (aop_move (av := .v (.int .i64 (k : Int))) (.inl rfl) rfl rfl rfl ?_)
      refine opG rfl (aop_binI (u := (.int .i64 ((k + 1 : Nat) : Int))) rfl rfl rfl rfl rfl trivial (addN (by omega)) ?_)
      refine opG rfl (aop_move (av := .v (.int .i64 ((k + 1 : Nat) : Int))) (.inr rfl) rfl rfl rfl ?_)
      refine op0 ?_
      show _ ∧ _
      refine ⟨by omega, (any_step dL (by omega) hinv (by simp at hc1 ⊢; omega)), ?_⟩
      exact imp_ler [(1, 1)] (ler1 1 1 _ _ rfl rfl (NoIL.out (l := [.one, .one, .ro looks.length (enc eLk looks)])) (sr_same 3 (.v (.int .i64 ((k + 1) : Int))) rfl NoI.out (sr_same 2 (.v (.bool false)) rfl NoI.out (sr_map 1 (.pt 1 0) (by first | exact Ok.sl _ _ _ (by first | decide | simp) | exact Ok.pt _ _ (by first | decide | simp)) rfl sr_none)))) (keep_of rfl)
  · skip
    have hf4 := of_decide_eq_false hc0
    refine awp_exit ?_
    show AWP _ _ _ _ _
    refine seqR ?_
    refine opG rfl (aop_fieldAddr (av := .pt 1 0) (av' := .pt 1 2) rfl rfl rfl ft30_2 sz28 rfl rfl rfl ?_)
    refine opG rfl (aop_ld (av := .ro looks.length (enc eLk looks)) rfl rfl rfl ag28 rfl rfl ?_)
    refine opG rfl (aop_len rfl rfl rfl rfl ut28 (len_ro rfl) ?_)
    refine opG rfl (aop_binI (u := (.bool (decide ((looks.length : Int) ≤ 6)))) rfl rfl rfl rfl rfl trivial rfl ?_)
    refine opG rfl (aop_move (av := .v (.bool (decide ((looks.length : Int) ≤ 6)))) (.inr rfl) rfl rfl rfl ?_)
    refine op0 ?_
    show AWP _ _ _ _ _
    refine awp_imp ⟨(upd none_ 2 (.v (.bool (decide ((looks.length : Int) ≤ 6))))), (updO noOb 1 (.live ⟨[.one, .one, .ro looks.length (enc eLk looks)], 30, 1⟩))⟩ (imp_le ⟨(lee_upd 2 _ rfl (lee_none _)), fun _ => .inl rfl⟩) ?_
    refine awp_ret ?_
    exact fret (av := .v (.bool (decide ((looks.length : Int) ≤ 6)))) rfl rfl (by rw [fewB_end (k := k) (by omega) hinv]; simp; omega)

set_option maxRecDepth 10000 in
set_option maxHeartbeats 16000000 in
theorem l13_owners (parts : List (List Int)) (own : List Int) (hp : parts.length ≤ 65536) (hob : ∀ x, x ∈ own → 0 ≤ x ∧ x ≤ 255) : Fn Tryd.prog 17 [.agg [.one, .one, .ro parts.length (enc eIL parts), .one, .one, .one, .one, .one, .one, .one], .agg [.ro own.length (enc eU8 own), .one, .one]] (.ro ((ownK own parts.length).length) (enc eI (ownK own parts.length))) := by
  refine fnE_of_body (N := 33) Tryd.func17 rfl rfl (resOf1 rfl) (by simp) (fun w0 X hL_ => ?_)
  refine seqR ?_
  refine opG rfl (aop_box 51 rfl rfl rfl rfl rfl rfl rfl ?_)
  refine opG rfl (aop_box 52 rfl rfl rfl rfl rfl rfl rfl ?_)
  refine opG rfl (aop_move (av := .v (.slice none 0 0)) (.inr rfl) rfl rfl rfl ?_)
  refine op0 ?_
  show AWP _ _ _ _ _
  refine seqR ?_
  refine opG rfl (aop_move (av := .v (.slice none 0 0)) (.inr rfl) rfl rfl rfl ?_)
  refine op0 ?_
  show AWP _ _ _ _ _
  refine awp_imp ⟨(upd (upd (upd (upd none_ 2 (.pt 51 0)) 3 (.pt 52 0)) 4 (.v (.slice none 0 0))) 5 (.v (.slice none 0 0))), (updO (updO noOb 51 (.live ⟨[.one, .one, .ro parts.length (enc eIL parts), .one, .one, .one, .one, .one, .one, .one], 39, 1⟩)) 52 (.live ⟨[.ro own.length (enc eU8 own), .one, .one], 30, 1⟩))⟩ (imp_le ⟨(lee_upd 5 _ rfl (lee_upd 4 _ rfl (lee_upd 3 _ rfl (lee_upd 2 _ rfl (lee_none _))))), fun _ => .inl rfl⟩) ?_
  refine awp_seq ?_
  refine seqR ?_
  refine opG rfl (aop_move (av := .v (.int .i64 0)) (.inr rfl) rfl rfl rfl ?_)
  refine op0 ?_
  show AWP _ _ _ _ _
  refine awp_block ?_
  refine awp_countI (fun k => ⟨(upd (upd (upd (upd (upd none_ 2 (.pt 2 0)) 3 (.pt 3 0)) 4 (.v (.slice none 0 0))) 5 (.sl 1 0 ((ownK own k).length))) 6 (.v (.int .i64 (k : Int)))), (updO (updO (updO noOb 1 (.live ⟨(enc eI (ownK own k)), 3, 1⟩)) 2 (.live ⟨[.one, .one, .ro parts.length (enc eIL parts), .one, .one, .one, .one, .one, .one, .one], 39, 1⟩)) 3 (.live ⟨[.ro own.length (enc eU8 own), .one, .one], 30, 1⟩))⟩) (fun k => True) (parts.length) ?_ trivial (fun k hk_k hinv => ?_)
  · skip
    refine (imp_adopt 5 53 3 1 rfl rfl).trans ?_
    exact imp_ler [(53, 1), (51, 2), (52, 3)] (lerL [(53, 1), (51, 2), (52, 3)] [((53, 1), .live ⟨(enc eI (ownK own 0)), 3, 1⟩), ((51, 2), .live ⟨[.one, .one, .ro parts.length (enc eIL parts), .one, .one, .one, .one, .one, .one, .one], 39, 1⟩), ((52, 3), .live ⟨[.ro own.length (enc eU8 own), .one, .one], 30, 1⟩)] rfl (by decide) (by decide) ⟨row_no (o := ⟨[], 3, 1⟩) rfl rfl, row_no (o := ⟨[.one, .one, .ro parts.length (enc eIL parts), .one, .one, .one, .one, .one, .one, .one], 39, 1⟩) rfl rfl, row_no (o := ⟨[.ro own.length (enc eU8 own), .one, .one], 30, 1⟩) rfl rfl, trivial⟩ (sr_same 6 (.v (.int .i64 (0 : Int))) rfl NoI.out (sr_map 5 (.sl 1 0 ((ownK own 0).length)) (by first | exact Ok.sl _ _ _ (by first | decide | simp) | exact Ok.pt _ _ (by first | decide | simp)) rfl (sr_same 4 (.v (.slice none 0 0)) rfl NoI.out (sr_map 3 (.pt 3 0) (by first | exact Ok.sl _ _ _ (by first | decide | simp) | exact Ok.pt _ _ (by first | decide | simp)) rfl (sr_map 2 (.pt 2 0) (by first | exact Ok.sl _ _ _ (by first | decide | simp) | exact Ok.pt _ _ (by first | decide | simp)) rfl sr_none)))))) (keep_of rfl)
  have hol := ownK_len own k
  have h1r := own1_range own k
  refine awp_seq ?_
  refine seqR ?_
  refine opG rfl (aop_move (av := .v (.int .i64 (k : Int))) (.inl rfl) rfl rfl rfl ?_)
  refine opG rfl (aop_fieldAddr (av := .pt 2 0) (av' := .pt 2 2) rfl rfl rfl ft39_2 sz36 rfl rfl rfl ?_)
  refine opG rfl (aop_ld (av := .ro parts.length (enc eIL parts)) rfl rfl rfl ag36 rfl rfl ?_)
  refine opG rfl (aop_len rfl rfl rfl rfl ut36 (len_ro rfl) ?_)
  refine opG rfl (aop_binI (u := (.bool (decide ((k : Int) < (parts.length : Int))))) rfl rfl rfl rfl rfl trivial rfl ?_)
  refine op0 ?_
  show AWP _ _ _ _ _
  refine awp_imp ⟨(upd (upd (upd (upd (upd (upd none_ 2 (.pt 2 0)) 3 (.pt 3 0)) 4 (.v (.slice none 0 0))) 5 (.sl 1 0 ((ownK own k).length))) 6 (.v (.int .i64 (k : Int)))) 12 (.v (.bool (decide ((k : Int) < (parts.length : Int)))))), (updO (updO (updO noOb 1 (.live ⟨(enc eI (ownK own k)), 3, 1⟩)) 2 (.live ⟨[.one, .one, .ro parts.length (enc eIL parts), .one, .one, .one, .one, .one, .one, .one], 39, 1⟩)) 3 (.live ⟨[.ro own.length (enc eU8 own), .one, .one], 30, 1⟩))⟩ (imp_le ⟨(lee_upd 12 _ rfl (lee_upd 6 _ rfl (lee_upd 5 _ rfl (lee_upd 4 _ rfl (lee_upd 3 _ rfl (lee_upd 2 _ rfl (lee_none _))))))), fun _ => .inl rfl⟩) ?_
  refine awp_cond (decide ((k : Int) < (parts.length : Int))) rfl rfl (fun hc0 => ?_) (fun hc0 => ?_)
  · skip
    have hf1 := of_decide_eq_true hc0
    refine awp_skip ?_
    show AWP _ _ _ _ _
    refine awp_seq ?_
    refine awp_block ?_
    refine seqR ?_
    refine opG rfl (aop_move (av := .v (.int .i64 0)) (.inr rfl) rfl rfl rfl ?_)
    refine op0 ?_
    show AWP _ _ _ _ _
    refine awp_seq ?_
    refine seqR ?_
    refine opG rfl (aop_move (av := .v (.int .i64 (k : Int))) (.inl rfl) rfl rfl rfl ?_)
    refine opG rfl (aop_fieldAddr (av := .pt 3 0) (av' := .pt 3 0) rfl rfl rfl ft30_0 sz26 rfl rfl rfl ?_)
    refine opG rfl (aop_ld (av := .ro own.length (enc eU8 own)) rfl rfl rfl ag26 rfl rfl ?_)
    refine opG rfl (aop_len rfl rfl rfl rfl ut26 (len_ro rfl) ?_)
    refine opG rfl (aop_binI (u := (.bool (decide ((k : Int) < (own.length : Int))))) rfl rfl rfl rfl rfl trivial rfl ?_)
    refine op0 ?_
    show AWP _ _ _ _ _
    refine awp_imp ⟨(upd (upd (upd (upd (upd (upd (upd none_ 2 (.pt 2 0)) 3 (.pt 3 0)) 4 (.v (.slice none 0 0))) 5 (.sl 1 0 ((ownK own k).length))) 6 (.v (.int .i64 (k : Int)))) 7 (.v (.int .i64 0))) 19 (.v (.bool (decide ((k : Int) < (own.length : Int)))))), (updO (updO (updO noOb 1 (.live ⟨(enc eI (ownK own k)), 3, 1⟩)) 2 (.live ⟨[.one, .one, .ro parts.length (enc eIL parts), .one, .one, .one, .one, .one, .one, .one], 39, 1⟩)) 3 (.live ⟨[.ro own.length (enc eU8 own), .one, .one], 30, 1⟩))⟩ (imp_le ⟨(lee_upd 19 _ rfl (lee_upd 7 _ rfl (lee_upd 6 _ rfl (lee_upd 5 _ rfl (lee_upd 4 _ rfl (lee_upd 3 _ rfl (lee_upd 2 _ rfl (lee_none _)))))))), fun _ => .inl rfl⟩) ?_
    refine cutG ⟨(upd (upd (upd (upd (upd (upd none_ 2 (.pt 2 0)) 3 (.pt 3 0)) 4 (.v (.slice none 0 0))) 5 (.sl 1 0 ((ownK own k).length))) 6 (.v (.int .i64 (k : Int)))) 7 (.v (.int .i64 (own1 own k)))), (updO (updO (updO noOb 1 (.live ⟨(enc eI (ownK own k)), 3, 1⟩)) 2 (.live ⟨[.one, .one, .ro parts.length (enc eIL parts), .one, .one, .one, .one, .one, .one, .one], 39, 1⟩)) 3 (.live ⟨[.ro own.length (enc eU8 own), .one, .one], 30, 1⟩))⟩ (fun s h => h) ?_ ?_
    · skip
      refine awp_cond (decide ((k : Int) < (own.length : Int))) rfl rfl (fun hc1 => ?_) (fun hc1 => ?_)
      · skip
        have hf2 := of_decide_eq_true hc1
        have hko : k < own.length := by simp at hc1; omega
        have hb := hob _ (getD_mem (l := own) (k := k) 0 hko)
        refine regR ?_
        refine opG rfl (aop_fieldAddr (av := .pt 3 0) (av' := .pt 3 0) rfl rfl rfl ft30_0 sz26 rfl rfl rfl ?_)
        refine opG rfl (aop_ld (av := .ro own.length (enc eU8 own)) rfl rfl rfl ag26 rfl rfl ?_)
        refine opG rfl (aop_move (av := .v (.int .i64 (k : Int))) (.inl rfl) rfl rfl rfl ?_)
        refine opG rfl (aop_ixE 0 rfl rfl rfl ut26 sz5 rfl rfl (fun _ => rfl) rfl (by first | omega | (simp; done) | decide | (simp; omega) | (simp at *; omega)) ?_)
        refine opG rfl (aop_ld (av := .v (.int .u8 (own.getD k 0))) rfl rfl rfl ag5 rfl rfl ?_)
        refine opG rfl (aop_binI (u := (.int .u8 ((own.getD k 0) % 5))) rfl rfl rfl rfl rfl (by show _ ≠ _; decide) (remI (by omega)) ?_)
        refine opG rfl (aop_conv' rfl rfl rfl ut5 ut3 rfl (IntWalk.i64_in _ (by omega)) ?_)
        refine opG rfl (aop_move (av := .v (.int .i64 ((own.getD k 0) % 5))) (.inr rfl) rfl rfl rfl ?_)
        refine op0 ?_
        show Imp _ _ _
        exact imp_ler [(1, 1), (2, 2), (3, 3)] (lerL [(1, 1), (2, 2), (3, 3)] [((1, 1), .live ⟨(enc eI (ownK own k)), 3, 1⟩), ((2, 2), .live ⟨[.one, .one, .ro parts.length (enc eIL parts), .one, .one, .one, .one, .one, .one, .one], 39, 1⟩), ((3, 3), .live ⟨[.ro own.length (enc eU8 own), .one, .one], 30, 1⟩)] rfl (by decide) (by decide) ⟨row_no (o := ⟨(enc eI (ownK own k)), 3, 1⟩) rfl rfl, row_no (o := ⟨[.one, .one, .ro parts.length (enc eIL parts), .one, .one, .one, .one, .one, .one, .one], 39, 1⟩) rfl rfl, row_no (o := ⟨[.ro own.length (enc eU8 own), .one, .one], 30, 1⟩) rfl rfl, trivial⟩ (sr_same 7 (.v (.int .i64 (own1 own k))) (by exact congrArg (fun n_ : Int => AV.v (.int .i64 n_)) (by first | exact own1_t hko | exact own1_f hko)) NoI.out (sr_same 6 (.v (.int .i64 (k : Int))) rfl NoI.out (sr_map 5 (.sl 1 0 ((ownK own k).length)) (by first | exact Ok.sl _ _ _ (by first | decide | simp) | exact Ok.pt _ _ (by first | decide | simp)) rfl (sr_same 4 (.v (.slice none 0 0)) rfl NoI.out (sr_map 3 (.pt 3 0) (by first | exact Ok.sl _ _ _ (by first | decide | simp) | exact Ok.pt _ _ (by first | decide | simp)) rfl (sr_map 2 (.pt 2 0) (by first | exact Ok.sl _ _ _ (by first | decide | simp) | exact Ok.pt _ _ (by first | decide | simp)) rfl sr_none))))))) (keep_of rfl)
      · skip
        have hf3 := of_decide_eq_false hc1
        have hko : ¬ k < own.length := by simp at hc1; omega
        refine awp_skip ?_
        show Imp _ _ _
        exact imp_ler [(1, 1), (2, 2), (3, 3)] (lerL [(1, 1), (2, 2), (3, 3)] [((1, 1), .live ⟨(enc eI (ownK own k)), 3, 1⟩), ((2, 2), .live ⟨[.one, .one, .ro parts.length (enc eIL parts), .one, .one, .one, .one, .one, .one, .one], 39, 1⟩), ((3, 3), .live ⟨[.ro own.length (enc eU8 own), .one, .one], 30, 1⟩)] rfl (by decide) (by decide) ⟨row_no (o := ⟨(enc eI (ownK own k)), 3, 1⟩) rfl rfl, row_no (o := ⟨[.one, .one, .ro parts.length (enc eIL parts), .one, .one, .one, .one, .one, .one, .one], 39, 1⟩) rfl rfl, row_no (o := ⟨[.ro own.length (enc eU8 own), .one, .one], 30, 1⟩) rfl rfl, trivial⟩ (sr_same 7 (.v (.int .i64 (own1 own k))) (by exact congrArg (fun n_ : Int => AV.v (.int .i64 n_)) (by first | exact own1_t hko | exact own1_f hko)) NoI.out (sr_same 6 (.v (.int .i64 (k : Int))) rfl NoI.out (sr_map 5 (.sl 1 0 ((ownK own k).length)) (by first | exact Ok.sl _ _ _ (by first | decide | simp) | exact Ok.pt _ _ (by first | decide | simp)) rfl (sr_same 4 (.v (.slice none 0 0)) rfl NoI.out (sr_map 3 (.pt 3 0) (by first | exact Ok.sl _ _ _ (by first | decide | simp) | exact Ok.pt _ _ (by first | decide | simp)) rfl (sr_map 2 (.pt 2 0) (by first | exact Ok.sl _ _ _ (by first | decide | simp) | exact Ok.pt _ _ (by first | decide | simp)) rfl sr_none))))))) (keep_of rfl)
    show AWP _ _ _ _ _
    refine regR ?_
    refine opG rfl (aop_move (av := .sl 1 0 ((ownK own k).length)) (.inl rfl) rfl rfl rfl ?_)
    refine opG rfl (aop_move (av := .v (.int .i64 (own1 own k))) (.inl rfl) rfl rfl rfl ?_)
    refine opG rfl (aop_binI (u := (.int .i64 ((own1 own k) - 2))) rfl rfl rfl rfl rfl trivial (subI (by omega)) ?_)
    refine opG rfl (aop_lit rfl rfl rfl ut47 iz3 (by decide) (by decide) rfl rfl ?_)
    refine opG rfl (aop_app1 (f := eI) (l := ownK own k) 54 ((own1 own k) - 2 : Int) rfl rfl rfl rfl ut47 in3 rfl (by decide) rfl rfl rfl rfl rfl rfl (fun _ => rfl) rfl rfl (by first | omega | (simp; done) | decide | (simp; omega) | (simp at *; omega)) (by first | omega | (simp; done) | decide | (simp; omega) | (simp at *; omega)) rfl ?_)
    refine opG rfl (aop_move (av := .sl 54 0 (((ownK own k) ++ [((own1 own k) - 2 : Int)]).length)) (.inr rfl) rfl rfl rfl ?_)
    refine op0 ?_
    show AWP _ _ _ _ _
    refine awp_imp ⟨(upd (upd (upd (upd (upd (upd none_ 2 (.pt 2 0)) 3 (.pt 3 0)) 4 (.v (.slice none 0 0))) 5 (.sl 54 0 (((ownK own k) ++ [((own1 own k) - 2 : Int)]).length))) 6 (.v (.int .i64 (k : Int)))) 7 (.v (.int .i64 (own1 own k)))), (updO (updO (updO (updO (updO noOb 1 (.live ⟨(enc eI (ownK own k)), 3, 1⟩)) 2 (.live ⟨[.one, .one, .ro parts.length (enc eIL parts), .one, .one, .one, .one, .one, .one, .one], 39, 1⟩)) 3 (.live ⟨[.ro own.length (enc eU8 own), .one, .one], 30, 1⟩)) 1 .dead) 54 (.live ⟨(enc eI ((ownK own k) ++ [((own1 own k) - 2 : Int)])), 3, 1⟩))⟩ (imp_le ⟨(lee_upd 7 _ rfl (lee_upd 6 _ rfl (lee_upd 5 _ rfl (lee_upd 4 _ rfl (lee_upd 3 _ rfl (lee_upd 2 _ rfl (lee_none _))))))), fun _ => .inl rfl⟩) ?_
    refine regR ?_
    refine opG rfl (aop_move (av := .v (.int .i64 (k : Int))) (.inl rfl) rfl rfl rfl ?_)
    refine opG rfl (aop_binI (u := (.int .i64 ((k + 1 : Nat) : Int))) rfl rfl rfl rfl rfl trivial (addN (by omega)) ?_)
    refine opG rfl (aop_move (av := .v (.int .i64 ((k + 1 : Nat) : Int))) (.inr rfl) rfl rfl rfl ?_)
    refine op0 ?_
    show _ ∧ _
    refine ⟨by omega, trivial, ?_⟩
    exact imp_ler [(54, 1), (2, 2), (3, 3)] (lerL [(54, 1), (2, 2), (3, 3)] [((54, 1), .live ⟨(enc eI (ownK own (k + 1))), 3, 1⟩), ((2, 2), .live ⟨[.one, .one, .ro parts.length (enc eIL parts), .one, .one, .one, .one, .one, .one, .one], 39, 1⟩), ((3, 3), .live ⟨[.ro own.length (enc eU8 own), .one, .one], 30, 1⟩)] rfl (by decide) (by decide) ⟨row_no (o := ⟨(enc eI ((ownK own k) ++ [((own1 own k) - 2 : Int)])), 3, 1⟩) rfl (by exact congrArg (fun l_ => LObj.mk (enc eI l_) 3 1) rfl), row_no (o := ⟨[.one, .one, .ro parts.length (enc eIL parts), .one, .one, .one, .one, .one, .one, .one], 39, 1⟩) rfl rfl, row_no (o := ⟨[.ro own.length (enc eU8 own), .one, .one], 30, 1⟩) rfl rfl, trivial⟩ (sr_same 6 (.v (.int .i64 ((k + 1) : Int))) rfl NoI.out (sr_map 5 (.sl 1 0 ((ownK own (k + 1)).length)) (by first | exact Ok.sl _ _ _ (by first | decide | simp) | exact Ok.pt _ _ (by first | decide | simp)) rfl (sr_same 4 (.v (.slice none 0 0)) rfl NoI.out (sr_map 3 (.pt 3 0) (by first | exact Ok.sl _ _ _ (by first | decide | simp) | exact Ok.pt _ _ (by first | decide | simp)) rfl (sr_map 2 (.pt 2 0) (by first | exact Ok.sl _ _ _ (by first | decide | simp) | exact Ok.pt _ _ (by first | decide | simp)) rfl sr_none)))))) (keep_of rfl)
  · skip
    have hf4 := of_decide_eq_false hc0
    refine awp_exit ?_
    show AWP _ _ _ _ _
    refine seqR ?_
    refine opG rfl (aop_move (av := .sl 1 0 ((ownK own k).length)) (.inl rfl) rfl rfl rfl ?_)
    refine opG rfl (aop_move (av := .sl 1 0 ((ownK own k).length)) (.inr rfl) rfl rfl rfl ?_)
    refine op0 ?_
    show AWP _ _ _ _ _
    refine awp_imp _ (imp_frozen rfl (fun _ h => h) (lee_lend 4 (.ro ((ownK own k).length) (enc eI (ownK own k))) (lend_s (id := 1) (n := (ownK own k).length) (o := ⟨(enc eI (ownK own k)), 3, 1⟩) rfl (enc_len (fun _ => rfl) (by first | rfl | (simp; done)))) lee_lend0)) ?_
    refine awp_ret ?_
    exact fret (av := .ro ((ownK own k).length) (enc eI (ownK own k))) rfl rfl (by rw [show k = parts.length by omega])

set_option maxRecDepth 10000 in
set_option maxHeartbeats 16000000 in
theorem l13_views (secs : List Sec) (looks : List Look) (hs : 1 ≤ secs.length ∧ secs.length ≤ 65536) (hn : looks.length ≤ 65536) (hk : ∀ x, x ∈ looks → x.span.length ≤ 65536 ∧ (0 ≤ x.id ∧ x.id ≤ 255) ∧ ∀ y, y ∈ x.span → 0 ≤ y ∧ y ≤ 255) : Fn Tryd.prog 14 [.agg [.one, .ro secs.length (enc eSec secs), .one, .one, .one, .one, .one, .one, .one, .one], .agg [.one, .one, .ro looks.length (enc eLk looks)]] (.tup [.ro ((viewsL secs.length looks).length) (enc eV (viewsL secs.length looks)), .ro ((viewsL secs.length looks).length) (enc eV (viewsL secs.length looks))]) := by
  refine fnE_of_body (N := 96) Tryd.func14 rfl rfl (resOf2 rfl) (by simp) (fun w0 X hL_ => ?_)
  refine seqR ?_
  refine opG rfl (aop_box 51 rfl rfl rfl rfl rfl rfl rfl ?_)
  refine opG rfl (aop_box 52 rfl rfl rfl rfl rfl rfl rfl ?_)
  refine opG rfl (aop_move (av := .v (.slice none 0 0)) (.inr rfl) rfl rfl rfl ?_)
  refine opG rfl (aop_move (av := .v (.slice none 0 0)) (.inr rfl) rfl rfl rfl ?_)
  refine op0 ?_
  show AWP _ _ _ _ _
  refine awp_imp ⟨(upd (upd (upd (upd none_ 2 (.pt 51 0)) 3 (.pt 52 0)) 4 (.v (.slice none 0 0))) 5 (.v (.slice none 0 0))), (updO (updO noOb 51 (.live ⟨[.one, .ro secs.length (enc eSec secs), .one, .one, .one, .one, .one, .one, .one, .one], 39, 1⟩)) 52 (.live ⟨[.one, .one, .ro looks.length (enc eLk looks)], 30, 1⟩))⟩ (imp_le ⟨(lee_upd 5 _ rfl (lee_upd 4 _ rfl (lee_upd 3 _ rfl (lee_upd 2 _ rfl (lee_none _))))), fun _ => .inl rfl⟩) ?_
  refine seqR ?_
  refine opG rfl (aop_move (av := .v (.slice none 0 0)) (.inr rfl) rfl rfl rfl ?_)
  refine op0 ?_
  show AWP _ _ _ _ _
  refine seqR ?_
  refine opG rfl (aop_move (av := .v (.slice none 0 0)) (.inr rfl) rfl rfl rfl ?_)
  refine op0 ?_
  show AWP _ _ _ _ _
  refine awp_seq ?_
  refine seqR ?_
  refine opG rfl (aop_move (av := .v (.int .i64 0)) (.inr rfl) rfl rfl rfl ?_)
  refine op0 ?_
  show AWP _ _ _ _ _
  refine awp_block ?_
  refine awp_countI (fun i => ⟨(upd (upd (upd (upd (upd (upd (upd none_ 2 (.pt 3 0)) 3 (.pt 4 0)) 4 (.v (.slice none 0 0))) 5 (.v (.slice none 0 0))) 6 (.sl 1 0 ((viewsK secs.length looks i).length))) 7 (.sl 2 0 ((viewsK secs.length looks i).length))) 8 (.v (.int .i64 (i : Int)))), (updO (updO (updO (updO noOb 1 (.live ⟨(enc eV (viewsK secs.length looks i)), 73, 3⟩)) 2 (.live ⟨(enc eV (viewsK secs.length looks i)), 53, 3⟩)) 3 (.live ⟨[.one, .ro secs.length (enc eSec secs), .one, .one, .one, .one, .one, .one, .one, .one], 39, 1⟩)) 4 (.live ⟨[.one, .one, .ro looks.length (enc eLk looks)], 30, 1⟩))⟩) (fun i => True) (looks.length) ?_ trivial (fun i hk_i hinv => ?_)
  · skip
    refine (imp_adopt 6 53 73 3 rfl rfl).trans ?_
    refine (imp_adopt 7 54 53 3 rfl rfl).trans ?_
    exact imp_ler [(53, 1), (54, 2), (51, 3), (52, 4)] (lerL [(53, 1), (54, 2), (51, 3), (52, 4)] [((53, 1), .live ⟨(enc eV (viewsK secs.length looks 0)), 73, 3⟩), ((54, 2), .live ⟨(enc eV (viewsK secs.length looks 0)), 53, 3⟩), ((51, 3), .live ⟨[.one, .ro secs.length (enc eSec secs), .one, .one, .one, .one, .one, .one, .one, .one], 39, 1⟩), ((52, 4), .live ⟨[.one, .one, .ro looks.length (enc eLk looks)], 30, 1⟩)] rfl (by decide) (by decide) ⟨row_no (o := ⟨[], 73, 3⟩) rfl rfl, row_no (o := ⟨[], 53, 3⟩) rfl rfl, row_no (o := ⟨[.one, .ro secs.length (enc eSec secs), .one, .one, .one, .one, .one, .one, .one, .one], 39, 1⟩) rfl rfl, row_no (o := ⟨[.one, .one, .ro looks.length (enc eLk looks)], 30, 1⟩) rfl rfl, trivial⟩ (sr_same 8 (.v (.int .i64 (0 : Int))) rfl NoI.out (sr_map 7 (.sl 2 0 ((viewsK secs.length looks 0).length)) (by first | exact Ok.sl _ _ _ (by first | decide | simp) | exact Ok.pt _ _ (by first | decide | simp)) rfl (sr_map 6 (.sl 1 0 ((viewsK secs.length looks 0).length)) (by first | exact Ok.sl _ _ _ (by first | decide | simp) | exact Ok.pt _ _ (by first | decide | simp)) rfl (sr_same 5 (.v (.slice none 0 0)) rfl NoI.out (sr_same 4 (.v (.slice none 0 0)) rfl NoI.out (sr_map 3 (.pt 4 0) (by first | exact Ok.sl _ _ _ (by first | decide | simp) | exact Ok.pt _ _ (by first | decide | simp)) rfl (sr_map 2 (.pt 3 0) (by first | exact Ok.sl _ _ _ (by first | decide | simp) | exact Ok.pt _ _ (by first | decide | simp)) rfl sr_none)))))))) (keep_of rfl)
  have hvl := viewsK_len secs.length looks i
  refine awp_seq ?_
  refine seqR ?_
  refine opG rfl (aop_move (av := .v (.int .i64 (i : Int))) (.inl rfl) rfl rfl rfl ?_)
  refine opG rfl (aop_fieldAddr (av := .pt 4 0) (av' := .pt 4 2) rfl rfl rfl ft30_2 sz28 rfl rfl rfl ?_)
  refine opG rfl (aop_ld (av := .ro looks.length (enc eLk looks)) rfl rfl rfl ag28 rfl rfl ?_)
  refine opG rfl (aop_len rfl rfl rfl rfl ut28 (len_ro rfl) ?_)
  refine opG rfl (aop_binI (u := (.bool (decide ((i : Int) < (looks.length : Int))))) rfl rfl rfl rfl rfl trivial rfl ?_)
  refine op0 ?_
  show AWP _ _ _ _ _
  refine awp_imp ⟨(upd (upd (upd (upd (upd (upd (upd (upd none_ 2 (.pt 3 0)) 3 (.pt 4 0)) 4 (.v (.slice none 0 0))) 5 (.v (.slice none 0 0))) 6 (.sl 1 0 ((viewsK secs.length looks i).length))) 7 (.sl 2 0 ((viewsK secs.length looks i).length))) 8 (.v (.int .i64 (i : Int)))) 19 (.v (.bool (decide ((i : Int) < (looks.length : Int)))))), (updO (updO (updO (updO noOb 1 (.live ⟨(enc eV (viewsK secs.length looks i)), 73, 3⟩)) 2 (.live ⟨(enc eV (viewsK secs.length looks i)), 53, 3⟩)) 3 (.live ⟨[.one, .ro secs.length (enc eSec secs), .one, .one, .one, .one, .one, .one, .one, .one], 39, 1⟩)) 4 (.live ⟨[.one, .one, .ro looks.length (enc eLk looks)], 30, 1⟩))⟩ (imp_le ⟨(lee_upd 19 _ rfl (lee_upd 8 _ rfl (lee_upd 7 _ rfl (lee_upd 6 _ rfl (lee_upd 5 _ rfl (lee_upd 4 _ rfl (lee_upd 3 _ rfl (lee_upd 2 _ rfl (lee_none _))))))))), fun _ => .inl rfl⟩) ?_
  refine awp_cond (decide ((i : Int) < (looks.length : Int))) rfl rfl (fun hc0 => ?_) (fun hc0 => ?_)
  · skip
    have hf1 := of_decide_eq_true hc0
    have hik : i < looks.length := by simp at hc0; omega
    have hlk := hk _ (getD_mem (l := looks) (k := i) dL hik)
    refine awp_skip ?_
    show AWP _ _ _ _ _
    refine awp_seq ?_
    refine awp_block ?_
    refine seqR ?_
    refine opG rfl (aop_fieldAddr (av := .pt 4 0) (av' := .pt 4 2) rfl rfl rfl ft30_2 sz28 rfl rfl rfl ?_)
    refine opG rfl (aop_ld (av := .ro looks.length (enc eLk looks)) rfl rfl rfl ag28 rfl rfl ?_)
    refine opG rfl (aop_move (av := .v (.int .i64 (i : Int))) (.inl rfl) rfl rfl rfl ?_)
    refine opG rfl (aop_ixE dL rfl rfl rfl ut28 sz71 rfl rfl (fun _ => rfl) rfl (by first | omega | (simp; done) | decide | (simp; omega) | (simp at *; omega)) ?_)
    refine opG rfl (aop_fieldAddr (av := .rp (([.v (.int .u8 ((looks.getD i dL).id)), .v (.bool ((looks.getD i dL).sure)), .ro ((looks.getD i dL).span.length) (enc eU8 ((looks.getD i dL).span))] : List AV) ++ ((enc eLk looks).drop ((i + 1) * 3)))) (av' := .rp (([.v (.int .u8 ((looks.getD i dL).id)), .v (.bool ((looks.getD i dL).sure)), .ro ((looks.getD i dL).span.length) (enc eU8 ((looks.getD i dL).span))] : List AV) ++ ((enc eLk looks).drop ((i + 1) * 3)))) rfl rfl rfl ft71_0 sz5 rfl rfl rfl ?_)
    refine opG rfl (aop_ld (av := .v (.int .u8 ((looks.getD i dL).id))) rfl rfl rfl ag5 rfl rfl ?_)
    refine opG rfl (aop_binI (u := (.int .u8 (((looks.getD i dL).id) % 4))) rfl rfl rfl rfl rfl (by show _ ≠ _; decide) (remI (by omega)) ?_)
    refine opG rfl (aop_conv' rfl rfl rfl ut5 ut3 rfl (IntWalk.i64_in _ (by omega)) ?_)
    refine opG rfl (aop_move (av := .v (.int .i64 (((looks.getD i dL).id) % 4))) (.inr rfl) rfl rfl rfl ?_)
    refine op0 ?_
    show AWP _ _ _ _ _
    refine awp_imp ⟨(upd (upd (upd (upd (upd (upd (upd (upd none_ 2 (.pt 3 0)) 3 (.pt 4 0)) 4 (.v (.slice none 0 0))) 5 (.v (.slice none 0 0))) 6 (.sl 1 0 ((viewsK secs.length looks i).length))) 7 (.sl 2 0 ((viewsK secs.length looks i).length))) 8 (.v (.int .i64 (i : Int)))) 9 (.v (.int .i64 (((looks.getD i dL).id) % 4)))), (updO (updO (updO (updO noOb 1 (.live ⟨(enc eV (viewsK secs.length looks i)), 73, 3⟩)) 2 (.live ⟨(enc eV (viewsK secs.length looks i)), 53, 3⟩)) 3 (.live ⟨[.one, .ro secs.length (enc eSec secs), .one, .one, .one, .one, .one, .one, .one, .one], 39, 1⟩)) 4 (.live ⟨[.one, .one, .ro looks.length (enc eLk looks)], 30, 1⟩))⟩ (imp_le ⟨(lee_upd 9 _ rfl (lee_upd 8 _ rfl (lee_upd 7 _ rfl (lee_upd 6 _ rfl (lee_upd 5 _ rfl (lee_upd 4 _ rfl (lee_upd 3 _ rfl (lee_upd 2 _ rfl (lee_none _))))))))), fun _ => .inl rfl⟩) ?_
    refine seqR ?_
    refine opG rfl (aop_move (av := .sl 2 0 ((viewsK secs.length looks i).length)) (.inl rfl) rfl rfl rfl ?_)
    refine opG rfl (aop_move (av := .v (.int .i64 (((looks.getD i dL).id) % 4))) (.inl rfl) rfl rfl rfl ?_)
    refine opG rfl (callL_ (show Fn Tryd.prog 20 [.ro ((viewsK secs.length looks i).length) (enc eV (viewsK secs.length looks i)), .v (.int .i64 (((looks.getD i dL).id) % 4))] (.tup [.agg [.one, .one, .one], .v (.bool (!decide (findI (viewsK secs.length looks i) ((looks.getD i dL).id % 4) < 0)))]) from (fn_tup3 (r12_Find (viewsK secs.length looks i) ((looks.getD i dL).id % 4) (by omega)) rfl rfl rfl)) rfl rfl rfl rfl rfl bd20 (lends_cons (lend_s (id := 2) (n := (viewsK secs.length looks i).length) (o := ⟨(enc eV (viewsK secs.length looks i)), 53, 3⟩) rfl (enc_len (fun _ => rfl) (by first | rfl | (simp; done)))) (lends_cons (lend_n (av := .v (.int .i64 (((looks.getD i dL).id) % 4)))) lends_nil)) ?_)
    refine opG rfl (aop_move (av := .tup [.agg [.one, .one, .one], .v (.bool (!decide (findI (viewsK secs.length looks i) ((looks.getD i dL).id % 4) < 0)))]) (.inl rfl) rfl rfl rfl ?_)
    refine opG rfl (aop_extract rfl rfl rfl rfl rfl ?_)
    refine opG rfl (aop_extract rfl rfl rfl rfl rfl ?_)
    refine opG rfl (aop_alloc 55 rfl rfl rfl rfl ze53 rfl ?_)
    refine opG rfl (aop_store rfl rfl rfl sz53 rfl rfl rfl rfl rfl (Nat.le_of_ble_eq_true rfl) rfl rfl ?_)
    refine opG rfl (aop_move (av := .v (.bool (!decide (findI (viewsK secs.length looks i) ((looks.getD i dL).id % 4) < 0)))) (.inr rfl) rfl rfl rfl ?_)
    refine op0 ?_
    show AWP _ _ _ _ _
    refine awp_imp ⟨(upd (upd (upd (upd (upd (upd (upd (upd (upd (upd none_ 2 (.pt 3 0)) 3 (.pt 4 0)) 4 (.v (.slice none 0 0))) 5 (.v (.slice none 0 0))) 6 (.sl 1 0 ((viewsK secs.length looks i).length))) 7 (.sl 2 0 ((viewsK secs.length looks i).length))) 8 (.v (.int .i64 (i : Int)))) 9 (.v (.int .i64 (((looks.getD i dL).id) % 4)))) 10 (.pt 55 0)) 11 (.v (.bool (!decide (findI (viewsK secs.length looks i) ((looks.getD i dL).id % 4) < 0))))), (updO (updO (updO (updO (updO (updO noOb 1 (.live ⟨(enc eV (viewsK secs.length looks i)), 73, 3⟩)) 2 (.live ⟨(enc eV (viewsK secs.length looks i)), 53, 3⟩)) 3 (.live ⟨[.one, .ro secs.length (enc eSec secs), .one, .one, .one, .one, .one, .one, .one, .one], 39, 1⟩)) 4 (.live ⟨[.one, .one, .ro looks.length (enc eLk looks)], 30, 1⟩)) 55 (.live ⟨[.v (.int .i64 0), .v (.bool false), .v (.slice none 0 0)], 53, 1⟩)) 55 (.live ⟨[.one, .one, .one], 53, 1⟩))⟩ (imp_le ⟨(lee_upd 11 _ rfl (lee_upd 10 _ rfl (lee_upd 9 _ rfl (lee_upd 8 _ rfl (lee_upd 7 _ rfl (lee_upd 6 _ rfl (lee_upd 5 _ rfl (lee_upd 4 _ rfl (lee_upd 3 _ rfl (lee_upd 2 _ rfl (lee_none _))))))))))), fun _ => .inl rfl⟩) ?_
    refine awp_seq ?_
    refine seqR ?_
    refine opG rfl (aop_move (av := .v (.bool (!decide (findI (viewsK secs.length looks i) ((looks.getD i dL).id % 4) < 0)))) (.inl rfl) rfl rfl rfl ?_)
    refine op0 ?_
    show AWP _ _ _ _ _
    refine awp_cond (!decide (findI (viewsK secs.length looks i) ((looks.getD i dL).id % 4) < 0)) rfl rfl (fun hc1 => ?_) (fun hc1 => ?_)
    · skip
      refine awp_exit ?_
      show AWP _ _ _ _ _
      refine regR ?_
      refine opG rfl (aop_move (av := .v (.int .i64 (i : Int))) (.inl rfl) rfl rfl rfl ?_)
      refine opG rfl (aop_binI (u := (.int .i64 ((i + 1 : Nat) : Int))) rfl rfl rfl rfl rfl trivial (addN (by omega)) ?_)
      refine opG rfl (aop_move (av := .v (.int .i64 ((i + 1 : Nat) : Int))) (.inr rfl) rfl rfl rfl ?_)
      refine op0 ?_
      show _ ∧ _
      have hs_ := viewsK_old (n := secs.length) (looks := looks) (k := i) (by simpa using hc1)
      refine ⟨by omega, trivial, ?_⟩
      exact imp_ler [(1, 1), (2, 2), (3, 3), (4, 4)] (lerL [(1, 1), (2, 2), (3, 3), (4, 4)] [((1, 1), .live ⟨(enc eV (viewsK secs.length looks (i + 1))), 73, 3⟩), ((2, 2), .live ⟨(enc eV (viewsK secs.length looks (i + 1))), 53, 3⟩), ((3, 3), .live ⟨[.one, .ro secs.length (enc eSec secs), .one, .one, .one, .one, .one, .one, .one, .one], 39, 1⟩), ((4, 4), .live ⟨[.one, .one, .ro looks.length (enc eLk looks)], 30, 1⟩)] rfl (by decide) (by decide) ⟨row_no (o := ⟨(enc eV (viewsK secs.length looks i)), 73, 3⟩) rfl (by exact congrArg (fun l_ => LObj.mk (enc eV l_) 73 3) hs_), row_no (o := ⟨(enc eV (viewsK secs.length looks i)), 53, 3⟩) rfl (by exact congrArg (fun l_ => LObj.mk (enc eV l_) 53 3) hs_), row_no (o := ⟨[.one, .ro secs.length (enc eSec secs), .one, .one, .one, .one, .one, .one, .one, .one], 39, 1⟩) rfl rfl, row_no (o := ⟨[.one, .one, .ro looks.length (enc eLk looks)], 30, 1⟩) rfl rfl, trivial⟩ (sr_same 8 (.v (.int .i64 ((i + 1) : Int))) rfl NoI.out (sr_map 7 (.sl 2 0 ((viewsK secs.length looks (i + 1)).length)) (by first | exact Ok.sl _ _ _ (by first | decide | simp) | exact Ok.pt _ _ (by first | decide | simp)) (by exact congrArg (AV.sl 2 0) (congrArg List.length hs_.symm)) (sr_map 6 (.sl 1 0 ((viewsK secs.length looks (i + 1)).length)) (by first | exact Ok.sl _ _ _ (by first | decide | simp) | exact Ok.pt _ _ (by first | decide | simp)) (by exact congrArg (AV.sl 1 0) (congrArg List.length hs_.symm)) (sr_same 5 (.v (.slice none 0 0)) rfl NoI.out (sr_same 4 (.v (.slice none 0 0)) rfl NoI.out (sr_map 3 (.pt 4 0) (by first | exact Ok.sl _ _ _ (by first | decide | simp) | exact Ok.pt _ _ (by first | decide | simp)) rfl (sr_map 2 (.pt 3 0) (by first | exact Ok.sl _ _ _ (by first | decide | simp) | exact Ok.pt _ _ (by first | decide | simp)) rfl sr_none)))))))) (keep_of rfl)
    · skip
      refine awp_skip ?_
      show AWP _ _ _ _ _
      refine seqR ?_
      refine opG rfl (aop_move (av := .v (.slice none 0 0)) (.inr rfl) rfl rfl rfl ?_)
      refine op0 ?_
      show AWP _ _ _ _ _
      refine awp_seq ?_
      refine seqR ?_
      refine opG rfl (aop_move (av := .v (.int .i64 0)) (.inr rfl) rfl rfl rfl ?_)
      refine op0 ?_
      show AWP _ _ _ _ _
      refine awp_block ?_
      refine awp_countI (fun j => ⟨(upd (upd (upd (upd (upd (upd (upd (upd (upd (upd (upd none_ 2 (.pt 3 0)) 3 (.pt 4 0)) 4 (.v (.slice none 0 0))) 5 (.v (.slice none 0 0))) 6 (.sl 1 0 ((viewsK secs.length looks i).length))) 7 (.sl 2 0 ((viewsK secs.length looks i).length))) 8 (.v (.int .i64 (i : Int)))) 9 (.v (.int .i64 (((looks.getD i dL).id) % 4)))) 11 (.v (.bool (!decide (findI (viewsK secs.length looks i) ((looks.getD i dL).id % 4) < 0))))) 12 (.sl 5 0 ((spanK secs.length (looks.getD i dL).span j).length))) 13 (.v (.int .i64 (j : Int)))), (updO (updO (updO (updO (updO noOb 1 (.live ⟨(enc eV (viewsK secs.length looks i)), 73, 3⟩)) 2 (.live ⟨(enc eV (viewsK secs.length looks i)), 53, 3⟩)) 3 (.live ⟨[.one, .ro secs.length (enc eSec secs), .one, .one, .one, .one, .one, .one, .one, .one], 39, 1⟩)) 4 (.live ⟨[.one, .one, .ro looks.length (enc eLk looks)], 30, 1⟩)) 5 (.live ⟨(enc eI (spanK secs.length (looks.getD i dL).span j)), 3, 1⟩))⟩) (fun j => True) ((looks.getD i dL).span.length) ?_ trivial (fun j hk_j hinv => ?_)
      · skip
        refine (imp_adopt 12 56 3 1 rfl rfl).trans ?_
        exact imp_ler [(1, 1), (2, 2), (3, 3), (4, 4), (56, 5)] (lerL [(1, 1), (2, 2), (3, 3), (4, 4), (56, 5)] [((1, 1), .live ⟨(enc eV (viewsK secs.length looks i)), 73, 3⟩), ((2, 2), .live ⟨(enc eV (viewsK secs.length looks i)), 53, 3⟩), ((3, 3), .live ⟨[.one, .ro secs.length (enc eSec secs), .one, .one, .one, .one, .one, .one, .one, .one], 39, 1⟩), ((4, 4), .live ⟨[.one, .one, .ro looks.length (enc eLk looks)], 30, 1⟩), ((56, 5), .live ⟨(enc eI (spanK secs.length (looks.getD i dL).span 0)), 3, 1⟩)] rfl (by decide) (by decide) ⟨row_no (o := ⟨(enc eV (viewsK secs.length looks i)), 73, 3⟩) rfl rfl, row_no (o := ⟨(enc eV (viewsK secs.length looks i)), 53, 3⟩) rfl rfl, row_no (o := ⟨[.one, .ro secs.length (enc eSec secs), .one, .one, .one, .one, .one, .one, .one, .one], 39, 1⟩) rfl rfl, row_no (o := ⟨[.one, .one, .ro looks.length (enc eLk looks)], 30, 1⟩) rfl rfl, row_no (o := ⟨[], 3, 1⟩) rfl rfl, trivial⟩ (sr_same 13 (.v (.int .i64 (0 : Int))) rfl NoI.out (sr_map 12 (.sl 5 0 ((spanK secs.length (looks.getD i dL).span 0).length)) (by first | exact Ok.sl _ _ _ (by first | decide | simp) | exact Ok.pt _ _ (by first | decide | simp)) rfl (sr_same 11 (.v (.bool (!decide (findI (viewsK secs.length looks i) ((looks.getD i dL).id % 4) < 0)))) rfl NoI.out (sr_same 9 (.v (.int .i64 (((looks.getD i dL).id) % 4))) rfl NoI.out (sr_same 8 (.v (.int .i64 (i : Int))) rfl NoI.out (sr_map 7 (.sl 2 0 ((viewsK secs.length looks i).length)) (by first | exact Ok.sl _ _ _ (by first | decide | simp) | exact Ok.pt _ _ (by first | decide | simp)) rfl (sr_map 6 (.sl 1 0 ((viewsK secs.length looks i).length)) (by first | exact Ok.sl _ _ _ (by first | decide | simp) | exact Ok.pt _ _ (by first | decide | simp)) rfl (sr_same 5 (.v (.slice none 0 0)) rfl NoI.out (sr_same 4 (.v (.slice none 0 0)) rfl NoI.out (sr_map 3 (.pt 4 0) (by first | exact Ok.sl _ _ _ (by first | decide | simp) | exact Ok.pt _ _ (by first | decide | simp)) rfl (sr_map 2 (.pt 3 0) (by first | exact Ok.sl _ _ _ (by first | decide | simp) | exact Ok.pt _ _ (by first | decide | simp)) rfl sr_none)))))))))))) (keep_of rfl)
      have hsj := spanK_len secs.length (looks.getD i dL).span j
      refine awp_seq ?_
      refine seqR ?_
      refine opG rfl (aop_move (av := .v (.int .i64 (j : Int))) (.inl rfl) rfl rfl rfl ?_)
      refine opG rfl (aop_fieldAddr (av := .pt 4 0) (av' := .pt 4 2) rfl rfl rfl ft30_2 sz28 rfl rfl rfl ?_)
      refine opG rfl (aop_ld (av := .ro looks.length (enc eLk looks)) rfl rfl rfl ag28 rfl rfl ?_)
      refine opG rfl (aop_move (av := .v (.int .i64 (i : Int))) (.inl rfl) rfl rfl rfl ?_)
      refine opG rfl (aop_ixE dL rfl rfl rfl ut28 sz71 rfl rfl (fun _ => rfl) rfl (by first | omega | (simp; done) | decide | (simp; omega) | (simp at *; omega)) ?_)
      refine opG rfl (aop_fieldAddr (av := .rp (([.v (.int .u8 ((looks.getD i dL).id)), .v (.bool ((looks.getD i dL).sure)), .ro ((looks.getD i dL).span.length) (enc eU8 ((looks.getD i dL).span))] : List AV) ++ ((enc eLk looks).drop ((i + 1) * 3)))) (av' := .rp (([.ro ((looks.getD i dL).span.length) (enc eU8 ((looks.getD i dL).span))] : List AV) ++ ((enc eLk looks).drop ((i + 1) * 3)))) rfl rfl rfl ft71_2 sz26 rfl rfl rfl ?_)
      refine opG rfl (aop_ld (av := .ro ((looks.getD i dL).span.length) (enc eU8 ((looks.getD i dL).span))) rfl rfl rfl ag26 rfl rfl ?_)
      refine opG rfl (aop_len rfl rfl rfl rfl ut26 (len_ro rfl) ?_)
      refine opG rfl (aop_binI (u := (.bool (decide ((j : Int) < ((looks.getD i dL).span.length : Int))))) rfl rfl rfl rfl rfl trivial rfl ?_)
      refine op0 ?_
      show AWP _ _ _ _ _
      refine awp_imp ⟨(upd (upd (upd (upd (upd (upd (upd (upd (upd (upd (upd (upd none_ 2 (.pt 3 0)) 3 (.pt 4 0)) 4 (.v (.slice none 0 0))) 5 (.v (.slice none 0 0))) 6 (.sl 1 0 ((viewsK secs.length looks i).length))) 7 (.sl 2 0 ((viewsK secs.length looks i).length))) 8 (.v (.int .i64 (i : Int)))) 9 (.v (.int .i64 (((looks.getD i dL).id) % 4)))) 11 (.v (.bool (!decide (findI (viewsK secs.length looks i) ((looks.getD i dL).id % 4) < 0))))) 12 (.sl 5 0 ((spanK secs.length (looks.getD i dL).span j).length))) 13 (.v (.int .i64 (j : Int)))) 45 (.v (.bool (decide ((j : Int) < ((looks.getD i dL).span.length : Int)))))), (updO (updO (updO (updO (updO noOb 1 (.live ⟨(enc eV (viewsK secs.length looks i)), 73, 3⟩)) 2 (.live ⟨(enc eV (viewsK secs.length looks i)), 53, 3⟩)) 3 (.live ⟨[.one, .ro secs.length (enc eSec secs), .one, .one, .one, .one, .one, .one, .one, .one], 39, 1⟩)) 4 (.live ⟨[.one, .one, .ro looks.length (enc eLk looks)], 30, 1⟩)) 5 (.live ⟨(enc eI (spanK secs.length (looks.getD i dL).span j)), 3, 1⟩))⟩ (imp_le ⟨(lee_upd 45 _ rfl (lee_upd 13 _ rfl (lee_upd 12 _ rfl (lee_upd 11 _ rfl (lee_upd 9 _ rfl (lee_upd 8 _ rfl (lee_upd 7 _ rfl (lee_upd 6 _ rfl (lee_upd 5 _ rfl (lee_upd 4 _ rfl (lee_upd 3 _ rfl (lee_upd 2 _ rfl (lee_none _))))))))))))), fun _ => .inl rfl⟩) ?_
      refine awp_cond (decide ((j : Int) < ((looks.getD i dL).span.length : Int))) rfl rfl (fun hc2 => ?_) (fun hc2 => ?_)
      · skip
        have hf2 := of_decide_eq_true hc2
        have hjk : j < (looks.getD i dL).span.length := by simp at hc2; omega
        have hsb := hlk.2.2 _ (getD_mem (l := (looks.getD i dL).span) (k := j) 0 hjk)
        have hmd := modB (a := (looks.getD i dL).span.getD j 0) (b := (secs.length : Int)) (by omega)
        refine awp_skip ?_
        show AWP _ _ _ _ _
        refine awp_seq ?_
        refine awp_block ?_
        refine awp_seq ?_
        refine awp_draw (m := 14) [(61, .v (.int .i64 ((((looks.getD i dL).span).getD j 0) % (secs.length : Int)))), (60, .v (.int .i64 (secs.length : Int))), (59, .ro secs.length (enc eSec secs)), (58, .pt 3 1), (57, .v (.int .i64 (((looks.getD i dL).span).getD j 0))), (56, .v (.int .u8 (((looks.getD i dL).span).getD j 0))), (55, .rp (([.v (.int .u8 (((looks.getD i dL).span).getD j 0))] : List AV) ++ ((enc eU8 ((looks.getD i dL).span)).drop ((j + 1) * 1)))), (54, .v (.int .i64 (j : Int))), (53, .ro ((looks.getD i dL).span.length) (enc eU8 ((looks.getD i dL).span))), (52, .rp (([.ro ((looks.getD i dL).span.length) (enc eU8 ((looks.getD i dL).span))] : List AV) ++ ((enc eLk looks).drop ((i + 1) * 3)))), (51, .rp (([.v (.int .u8 ((looks.getD i dL).id)), .v (.bool ((looks.getD i dL).sure)), .ro ((looks.getD i dL).span.length) (enc eU8 ((looks.getD i dL).span))] : List AV) ++ ((enc eLk looks).drop ((i + 1) * 3)))), (50, .v (.int .i64 (i : Int))), (49, .ro looks.length (enc eLk looks)), (48, .pt 4 2)] mixed (by kernel_rfl) ?_ ?_
        · refine ⟨?_, ?_, ?_, ?_, ?_, ?_, ?_, ?_, ?_, ?_, ?_, ?_, ?_, ?_, trivial⟩
          · exact ⟨48, rfl, blt_lt rfl, fun st hob hE => aop_fieldAddr (av := .pt 4 0) (av' := .pt 4 2) rfl rfl rfl ft30_2 sz28 (hE 3 rfl) rfl rfl (by rw [hob]; rfl)⟩
          · exact ⟨49, rfl, blt_lt rfl, fun st hob hE => aop_ld (av := .ro looks.length (enc eLk looks)) rfl rfl rfl ag28 (hE 48 rfl) (by rw [hob]; rfl) (by rw [hob]; rfl)⟩
          · exact ⟨50, rfl, blt_lt rfl, fun st hob hE => aop_move (av := .v (.int .i64 (i : Int))) (.inl rfl) rfl rfl (hE 8 rfl) (by rw [hob]; rfl)⟩
          · exact ⟨51, rfl, blt_lt rfl, fun st hob hE => aop_ixE dL rfl rfl rfl ut28 sz71 (hE 49 rfl) (hE 50 rfl) (fun _ => rfl) rfl (by first | omega | (simp; done) | decide | (simp; omega) | (simp at *; omega)) (by rw [hob]; rfl)⟩
          · exact ⟨52, rfl, blt_lt rfl, fun st hob hE => aop_fieldAddr (av := .rp (([.v (.int .u8 ((looks.getD i dL).id)), .v (.bool ((looks.getD i dL).sure)), .ro ((looks.getD i dL).span.length) (enc eU8 ((looks.getD i dL).span))] : List AV) ++ ((enc eLk looks).drop ((i + 1) * 3)))) (av' := .rp (([.ro ((looks.getD i dL).span.length) (enc eU8 ((looks.getD i dL).span))] : List AV) ++ ((enc eLk looks).drop ((i + 1) * 3)))) rfl rfl rfl ft71_2 sz26 (hE 51 rfl) rfl rfl (by rw [hob]; rfl)⟩
          · exact ⟨53, rfl, blt_lt rfl, fun st hob hE => aop_ld (av := .ro ((looks.getD i dL).span.length) (enc eU8 ((looks.getD i dL).span))) rfl rfl rfl ag26 (hE 52 rfl) rfl (by rw [hob]; rfl)⟩
          · exact ⟨54, rfl, blt_lt rfl, fun st hob hE => aop_move (av := .v (.int .i64 (j : Int))) (.inl rfl) rfl rfl (hE 13 rfl) (by rw [hob]; rfl)⟩
          · exact ⟨55, rfl, blt_lt rfl, fun st hob hE => aop_ixE 0 rfl rfl rfl ut26 sz5 (hE 53 rfl) (hE 54 rfl) (fun _ => rfl) rfl (by first | omega | (simp; done) | decide | (simp; omega) | (simp at *; omega)) (by rw [hob]; rfl)⟩
          · exact ⟨56, rfl, blt_lt rfl, fun st hob hE => aop_ld (av := .v (.int .u8 (((looks.getD i dL).span).getD j 0))) rfl rfl rfl ag5 (hE 55 rfl) rfl (by rw [hob]; rfl)⟩
          · exact ⟨57, rfl, blt_lt rfl, fun st hob hE => aop_conv' rfl rfl rfl ut5 ut3 (hE 56 rfl) (IntWalk.i64_in _ (by omega)) (by rw [hob]; rfl)⟩
          · exact ⟨58, rfl, blt_lt rfl, fun st hob hE => aop_fieldAddr (av := .pt 3 0) (av' := .pt 3 1) rfl rfl rfl ft39_1 sz35 (hE 2 rfl) rfl rfl (by rw [hob]; rfl)⟩
          · exact ⟨59, rfl, blt_lt rfl, fun st hob hE => aop_ld (av := .ro secs.length (enc eSec secs)) rfl rfl rfl ag35 (hE 58 rfl) (by rw [hob]; rfl) (by rw [hob]; rfl)⟩
          · exact ⟨60, rfl, blt_lt rfl, fun st hob hE => aop_len rfl rfl rfl rfl ut35 (len_ro (hE 59 rfl)) (by rw [hob]; rfl)⟩
          · exact ⟨61, rfl, blt_lt rfl, fun st hob hE => aop_binI (u := (.int .i64 ((((looks.getD i dL).span).getD j 0) % (secs.length : Int)))) rfl rfl rfl (hE 57 rfl) (hE 60 rfl) (by show _ ≠ _; omega) (remI (by omega)) (by rw [hob]; rfl)⟩
        refine opG rfl (aop_move (av := .v (.int .i64 ((((looks.getD i dL).span).getD j 0) % (secs.length : Int)))) (.inr rfl) rfl rfl rfl ?_)
        refine op0 ?_
        show AWP _ _ _ _ _
        refine seqR ?_
        refine opG rfl (aop_move (av := .sl 5 0 ((spanK secs.length (looks.getD i dL).span j).length)) (.inl rfl) rfl rfl rfl ?_)
        refine opG rfl (aop_move (av := .v (.int .i64 ((((looks.getD i dL).span).getD j 0) % (secs.length : Int)))) (.inl rfl) rfl rfl rfl ?_)
        refine opG rfl (callL_ (r01_Has (spanK secs.length (looks.getD i dL).span j) ((((looks.getD i dL).span).getD j 0) % (secs.length : Int)) (by first | omega | (simp; done) | decide | (simp; omega) | (simp at *; omega))) rfl rfl rfl rfl rfl bd21 (lends_cons (lend_s (id := 5) (n := (spanK secs.length (looks.getD i dL).span j).length) (o := ⟨(enc eI (spanK secs.length (looks.getD i dL).span j)), 3, 1⟩) rfl (enc_len (fun _ => rfl) (by first | rfl | (simp; done)))) (lends_cons (lend_n (av := .v (.int .i64 ((((looks.getD i dL).span).getD j 0) % (secs.length : Int))))) lends_nil)) ?_)
        refine opG rfl (aop_not rfl rfl rfl rfl ?_)
        refine op0 ?_
        show AWP _ _ _ _ _
        refine awp_imp ⟨(upd (upd (upd (upd (upd (upd (upd (upd (upd (upd (upd (upd (upd none_ 2 (.pt 3 0)) 3 (.pt 4 0)) 4 (.v (.slice none 0 0))) 5 (.v (.slice none 0 0))) 6 (.sl 1 0 ((viewsK secs.length looks i).length))) 7 (.sl 2 0 ((viewsK secs.length looks i).length))) 8 (.v (.int .i64 (i : Int)))) 9 (.v (.int .i64 (((looks.getD i dL).id) % 4)))) 11 (.v (.bool (!decide (findI (viewsK secs.length looks i) ((looks.getD i dL).id % 4) < 0))))) 12 (.sl 5 0 ((spanK secs.length (looks.getD i dL).span j).length))) 13 (.v (.int .i64 (j : Int)))) 14 (.v (.int .i64 ((((looks.getD i dL).span).getD j 0) % (secs.length : Int))))) 65 (.v (.bool (!(decide (((((looks.getD i dL).span).getD j 0) % (secs.length : Int)) ∈ (spanK secs.length (looks.getD i dL).span j))))))), (updO (updO (updO (updO (updO noOb 1 (.live ⟨(enc eV (viewsK secs.length looks i)), 73, 3⟩)) 2 (.live ⟨(enc eV (viewsK secs.length looks i)), 53, 3⟩)) 3 (.live ⟨[.one, .ro secs.length (enc eSec secs), .one, .one, .one, .one, .one, .one, .one, .one], 39, 1⟩)) 4 (.live ⟨[.one, .one, .ro looks.length (enc eLk looks)], 30, 1⟩)) 5 (.live ⟨(enc eI (spanK secs.length (looks.getD i dL).span j)), 3, 1⟩))⟩ (imp_le ⟨(lee_upd 65 _ rfl (lee_upd 14 _ rfl (lee_upd 13 _ rfl (lee_upd 12 _ rfl (lee_upd 11 _ rfl (lee_upd 9 _ rfl (lee_upd 8 _ rfl (lee_upd 7 _ rfl (lee_upd 6 _ rfl (lee_upd 5 _ rfl (lee_upd 4 _ rfl (lee_upd 3 _ rfl (lee_upd 2 _ rfl (lee_none _)))))))))))))), fun _ => .inl rfl⟩) ?_
        refine awp_cond (!(decide (((((looks.getD i dL).span).getD j 0) % (secs.length : Int)) ∈ (spanK secs.length (looks.getD i dL).span j)))) rfl rfl (fun hc3 => ?_) (fun hc3 => ?_)
        · skip
          have hf3 := not_t hc3
          refine regR ?_
          refine opG rfl (aop_move (av := .sl 5 0 ((spanK secs.length (looks.getD i dL).span j).length)) (.inl rfl) rfl rfl rfl ?_)
          refine opG rfl (aop_move (av := .v (.int .i64 ((((looks.getD i dL).span).getD j 0) % (secs.length : Int)))) (.inl rfl) rfl rfl rfl ?_)
          refine opG rfl (aop_lit rfl rfl rfl ut47 iz3 (by decide) (by decide) rfl rfl ?_)
          refine opG rfl (aop_app1 (f := eI) (l := spanK secs.length (looks.getD i dL).span j) 57 ((((looks.getD i dL).span).getD j 0) % (secs.length : Int) : Int) rfl rfl rfl rfl ut47 in3 rfl (by decide) rfl rfl rfl rfl rfl rfl (fun _ => rfl) rfl rfl (by first | omega | (simp; done) | decide | (simp; omega) | (simp at *; omega)) (by first | omega | (simp; done) | decide | (simp; omega) | (simp at *; omega)) rfl ?_)
          refine opG rfl (aop_move (av := .sl 57 0 (((spanK secs.length (looks.getD i dL).span j) ++ [((((looks.getD i dL).span).getD j 0) % (secs.length : Int) : Int)]).length)) (.inr rfl) rfl rfl rfl ?_)
          refine op0 ?_
          show AWP _ _ _ _ _
          refine awp_imp ⟨(upd (upd (upd (upd (upd (upd (upd (upd (upd (upd (upd (upd none_ 2 (.pt 3 0)) 3 (.pt 4 0)) 4 (.v (.slice none 0 0))) 5 (.v (.slice none 0 0))) 6 (.sl 1 0 ((viewsK secs.length looks i).length))) 7 (.sl 2 0 ((viewsK secs.length looks i).length))) 8 (.v (.int .i64 (i : Int)))) 9 (.v (.int .i64 (((looks.getD i dL).id) % 4)))) 11 (.v (.bool (!decide (findI (viewsK secs.length looks i) ((looks.getD i dL).id % 4) < 0))))) 12 (.sl 57 0 (((spanK secs.length (looks.getD i dL).span j) ++ [((((looks.getD i dL).span).getD j 0) % (secs.length : Int) : Int)]).length))) 13 (.v (.int .i64 (j : Int)))) 14 (.v (.int .i64 ((((looks.getD i dL).span).getD j 0) % (secs.length : Int))))), (updO (updO (updO (updO (updO (updO (updO noOb 1 (.live ⟨(enc eV (viewsK secs.length looks i)), 73, 3⟩)) 2 (.live ⟨(enc eV (viewsK secs.length looks i)), 53, 3⟩)) 3 (.live ⟨[.one, .ro secs.length (enc eSec secs), .one, .one, .one, .one, .one, .one, .one, .one], 39, 1⟩)) 4 (.live ⟨[.one, .one, .ro looks.length (enc eLk looks)], 30, 1⟩)) 5 (.live ⟨(enc eI (spanK secs.length (looks.getD i dL).span j)), 3, 1⟩)) 5 .dead) 57 (.live ⟨(enc eI ((spanK secs.length (looks.getD i dL).span j) ++ [((((looks.getD i dL).span).getD j 0) % (secs.length : Int) : Int)])), 3, 1⟩))⟩ (imp_le ⟨(lee_upd 14 _ rfl (lee_upd 13 _ rfl (lee_upd 12 _ rfl (lee_upd 11 _ rfl (lee_upd 9 _ rfl (lee_upd 8 _ rfl (lee_upd 7 _ rfl (lee_upd 6 _ rfl (lee_upd 5 _ rfl (lee_upd 4 _ rfl (lee_upd 3 _ rfl (lee_upd 2 _ rfl (lee_none _))))))))))))), fun _ => .inl rfl⟩) ?_
          refine regR ?_
          refine opG rfl (aop_move (av := .v (.int .i64 (j : Int))) (.inl rfl) rfl rfl rfl ?_)
          refine opG rfl (aop_binI (u := (.int .i64 ((j + 1 : Nat) : Int))) rfl rfl rfl rfl rfl trivial (addN (by omega)) ?_)
          refine opG rfl (aop_move (av := .v (.int .i64 ((j + 1 : Nat) : Int))) (.inr rfl) rfl rfl rfl ?_)
          refine op0 ?_
          show _ ∧ _
          have hs_ := spanK_new (n := secs.length) (sp := (looks.getD i dL).span) (j := j) (by simpa using hc3)
          refine ⟨by omega, trivial, ?_⟩
          exact imp_ler [(1, 1), (2, 2), (3, 3), (4, 4), (57, 5)] (lerL [(1, 1), (2, 2), (3, 3), (4, 4), (57, 5)] [((1, 1), .live ⟨(enc eV (viewsK secs.length looks i)), 73, 3⟩), ((2, 2), .live ⟨(enc eV (viewsK secs.length looks i)), 53, 3⟩), ((3, 3), .live ⟨[.one, .ro secs.length (enc eSec secs), .one, .one, .one, .one, .one, .one, .one, .one], 39, 1⟩), ((4, 4), .live ⟨[.one, .one, .ro looks.length (enc eLk looks)], 30, 1⟩), ((57, 5), .live ⟨(enc eI (spanK secs.length (looks.getD i dL).span (j + 1))), 3, 1⟩)] rfl (by decide) (by decide) ⟨row_no (o := ⟨(enc eV (viewsK secs.length looks i)), 73, 3⟩) rfl rfl, row_no (o := ⟨(enc eV (viewsK secs.length looks i)), 53, 3⟩) rfl rfl, row_no (o := ⟨[.one, .ro secs.length (enc eSec secs), .one, .one, .one, .one, .one, .one, .one, .one], 39, 1⟩) rfl rfl, row_no (o := ⟨[.one, .one, .ro looks.length (enc eLk looks)], 30, 1⟩) rfl rfl, row_no (o := ⟨(enc eI ((spanK secs.length (looks.getD i dL).span j) ++ [((((looks.getD i dL).span).getD j 0) % (secs.length : Int) : Int)])), 3, 1⟩) rfl (by exact congrArg (fun l_ => LObj.mk (enc eI l_) 3 1) hs_), trivial⟩ (sr_same 13 (.v (.int .i64 ((j + 1) : Int))) rfl NoI.out (sr_map 12 (.sl 5 0 ((spanK secs.length (looks.getD i dL).span (j + 1)).length)) (by first | exact Ok.sl _ _ _ (by first | decide | simp) | exact Ok.pt _ _ (by first | decide | simp)) (by exact congrArg (AV.sl 5 0) (congrArg List.length hs_.symm)) (sr_same 11 (.v (.bool (!decide (findI (viewsK secs.length looks i) ((looks.getD i dL).id % 4) < 0)))) rfl NoI.out (sr_same 9 (.v (.int .i64 (((looks.getD i dL).id) % 4))) rfl NoI.out (sr_same 8 (.v (.int .i64 (i : Int))) rfl NoI.out (sr_map 7 (.sl 2 0 ((viewsK secs.length looks i).length)) (by first | exact Ok.sl _ _ _ (by first | decide | simp) | exact Ok.pt _ _ (by first | decide | simp)) rfl (sr_map 6 (.sl 1 0 ((viewsK secs.length looks i).length)) (by first | exact Ok.sl _ _ _ (by first | decide | simp) | exact Ok.pt _ _ (by first | decide | simp)) rfl (sr_same 5 (.v (.slice none 0 0)) rfl NoI.out (sr_same 4 (.v (.slice none 0 0)) rfl NoI.out (sr_map 3 (.pt 4 0) (by first | exact Ok.sl _ _ _ (by first | decide | simp) | exact Ok.pt _ _ (by first | decide | simp)) rfl (sr_map 2 (.pt 3 0) (by first | exact Ok.sl _ _ _ (by first | decide | simp) | exact Ok.pt _ _ (by first | decide | simp)) rfl sr_none)))))))))))) (keep_of rfl)
        · skip
          have hf4 := not_f hc3
          refine awp_skip ?_
          show AWP _ _ _ _ _
          refine regR ?_
          refine opG rfl (aop_move (av := .v (.int .i64 (j : Int))) (.inl rfl) rfl rfl rfl ?_)
          refine opG rfl (aop_binI (u := (.int .i64 ((j + 1 : Nat) : Int))) rfl rfl rfl rfl rfl trivial (addN (by omega)) ?_)
          refine opG rfl (aop_move (av := .v (.int .i64 ((j + 1 : Nat) : Int))) (.inr rfl) rfl rfl rfl ?_)
          refine op0 ?_
          show _ ∧ _
          have hs_ := spanK_in (n := secs.length) (sp := (looks.getD i dL).span) (j := j) (by simpa using hc3)
          refine ⟨by omega, trivial, ?_⟩
          exact imp_ler [(1, 1), (2, 2), (3, 3), (4, 4), (5, 5)] (lerL [(1, 1), (2, 2), (3, 3), (4, 4), (5, 5)] [((1, 1), .live ⟨(enc eV (viewsK secs.length looks i)), 73, 3⟩), ((2, 2), .live ⟨(enc eV (viewsK secs.length looks i)), 53, 3⟩), ((3, 3), .live ⟨[.one, .ro secs.length (enc eSec secs), .one, .one, .one, .one, .one, .one, .one, .one], 39, 1⟩), ((4, 4), .live ⟨[.one, .one, .ro looks.length (enc eLk looks)], 30, 1⟩), ((5, 5), .live ⟨(enc eI (spanK secs.length (looks.getD i dL).span (j + 1))), 3, 1⟩)] rfl (by decide) (by decide) ⟨row_no (o := ⟨(enc eV (viewsK secs.length looks i)), 73, 3⟩) rfl rfl, row_no (o := ⟨(enc eV (viewsK secs.length looks i)), 53, 3⟩) rfl rfl, row_no (o := ⟨[.one, .ro secs.length (enc eSec secs), .one, .one, .one, .one, .one, .one, .one, .one], 39, 1⟩) rfl rfl, row_no (o := ⟨[.one, .one, .ro looks.length (enc eLk looks)], 30, 1⟩) rfl rfl, row_no (o := ⟨(enc eI (spanK secs.length (looks.getD i dL).span j)), 3, 1⟩) rfl (by exact congrArg (fun l_ => LObj.mk (enc eI l_) 3 1) hs_), trivial⟩ (sr_same 13 (.v (.int .i64 ((j + 1) : Int))) rfl NoI.out (sr_map 12 (.sl 5 0 ((spanK secs.length (looks.getD i dL).span (j + 1)).length)) (by first | exact Ok.sl _ _ _ (by first | decide | simp) | exact Ok.pt _ _ (by first | decide | simp)) (by exact congrArg (AV.sl 5 0) (congrArg List.length hs_.symm)) (sr_same 11 (.v (.bool (!decide (findI (viewsK secs.length looks i) ((looks.getD i dL).id % 4) < 0)))) rfl NoI.out (sr_same 9 (.v (.int .i64 (((looks.getD i dL).id) % 4))) rfl NoI.out (sr_same 8 (.v (.int .i64 (i : Int))) rfl NoI.out (sr_map 7 (.sl 2 0 ((viewsK secs.length looks i).length)) (by first | exact Ok.sl _ _ _ (by first | decide | simp) | exact Ok.pt _ _ (by first | decide | simp)) rfl (sr_map 6 (.sl 1 0 ((viewsK secs.length looks i).length)) (by first | exact Ok.sl _ _ _ (by first | decide | simp) | exact Ok.pt _ _ (by first | decide | simp)) rfl (sr_same 5 (.v (.slice none 0 0)) rfl NoI.out (sr_same 4 (.v (.slice none 0 0)) rfl NoI.out (sr_map 3 (.pt 4 0) (by first | exact Ok.sl _ _ _ (by first | decide | simp) | exact Ok.pt _ _ (by first | decide | simp)) rfl (sr_map 2 (.pt 3 0) (by first | exact Ok.sl _ _ _ (by first | decide | simp) | exact Ok.pt _ _ (by first | decide | simp)) rfl sr_none)))))))))))) (keep_of rfl)
      · skip
        have hf5 := of_decide_eq_false hc2
        refine awp_exit ?_
        show AWP _ _ _ _ _
        have he : spanK secs.length (looks.getD i dL).span j = spanL secs.length (looks.getD i dL).span := by unfold spanL; congr 1; simp at hc2; omega
        refine awp_imp ⟨(upd (upd (upd (upd (upd (upd (upd (upd (upd (upd (upd (upd none_ 2 (.pt 3 0)) 3 (.pt 4 0)) 4 (.v (.slice none 0 0))) 5 (.v (.slice none 0 0))) 6 (.sl 1 0 ((viewsK secs.length looks i).length))) 7 (.sl 2 0 ((viewsK secs.length looks i).length))) 8 (.v (.int .i64 (i : Int)))) 9 (.v (.int .i64 (((looks.getD i dL).id) % 4)))) 11 (.v (.bool (!decide (findI (viewsK secs.length looks i) ((looks.getD i dL).id % 4) < 0))))) 12 (.ro ((spanL secs.length (looks.getD i dL).span).length) (enc eI (spanL secs.length (looks.getD i dL).span)))) 13 (.v (.int .i64 (j : Int)))) 45 (.v (.bool (decide ((j : Int) < ((looks.getD i dL).span.length : Int)))))), (updO (updO (updO (updO noOb 1 (.live ⟨(enc eV (viewsK secs.length looks i)), 73, 3⟩)) 2 (.live ⟨(enc eV (viewsK secs.length looks i)), 53, 3⟩)) 3 (.live ⟨[.one, .ro secs.length (enc eSec secs), .one, .one, .one, .one, .one, .one, .one, .one], 39, 1⟩)) 4 (.live ⟨[.one, .one, .ro looks.length (enc eLk looks)], 30, 1⟩))⟩ ?_ ?_
        · skip
          refine (frz_ [3, 4, 1, 2] [(3, ⟨[.one, .ro secs.length (enc eSec secs), .one, .one, .one, .one, .one, .one, .one, .one], 39, 1⟩), (4, ⟨[.one, .one, .ro looks.length (enc eLk looks)], 30, 1⟩), (1, ⟨(enc eV (viewsK secs.length looks i)), 73, 3⟩), (2, ⟨(enc eV (viewsK secs.length looks i)), 53, 3⟩)] rfl (fun _ h => h) ⟨keep_cells (cs := [.one, .ro secs.length (enc eSec secs), .one, .one, .one, .one, .one, .one, .one, .one]) (by simp) rfl rfl (frzs_cons (.inl rfl) (frzs_cons (.inl rfl) (frzs_cons (.inl rfl) (frzs_cons (.inl rfl) (frzs_cons (.inl rfl) (frzs_cons (.inl rfl) (frzs_cons (.inl rfl) (frzs_cons (.inl rfl) (frzs_cons (.inl rfl) (frzs_cons (.inl rfl) frzs_nil)))))))))), keep_cells (cs := [.one, .one, .ro looks.length (enc eLk looks)]) (by simp) rfl rfl (frzs_cons (.inl rfl) (frzs_cons (.inl rfl) (frzs_cons (.inl rfl) frzs_nil))), keep_same (by simp) rfl, keep_same (by simp) rfl, trivial⟩ (fz_same 45 (.v (.bool (decide ((j : Int) < ((looks.getD i dL).span.length : Int))))) rfl (fz_same 13 (.v (.int .i64 (j : Int))) rfl (fz_lend 12 (.ro ((spanK secs.length (looks.getD i dL).span j).length) (enc eI (spanK secs.length (looks.getD i dL).span j))) (lend_s (id := 5) (n := (spanK secs.length (looks.getD i dL).span j).length) (o := ⟨(enc eI (spanK secs.length (looks.getD i dL).span j)), 3, 1⟩) rfl (enc_len (fun _ => rfl) (by first | rfl | (simp; done)))) (fz_same 11 (.v (.bool (!decide (findI (viewsK secs.length looks i) ((looks.getD i dL).id % 4) < 0)))) rfl (fz_same 9 (.v (.int .i64 (((looks.getD i dL).id) % 4))) rfl (fz_same 8 (.v (.int .i64 (i : Int))) rfl (fz_same 7 (.sl 2 0 ((viewsK secs.length looks i).length)) rfl (fz_same 6 (.sl 1 0 ((viewsK secs.length looks i).length)) rfl (fz_same 5 (.v (.slice none 0 0)) rfl (fz_same 4 (.v (.slice none 0 0)) rfl (fz_same 3 (.pt 4 0) rfl (fz_same 2 (.pt 3 0) rfl fz_none))))))))))))).trans ?_
          exact imp_ler [(1, 1), (2, 2), (3, 3), (4, 4)] (lerL [(1, 1), (2, 2), (3, 3), (4, 4)] [((1, 1), .live ⟨(enc eV (viewsK secs.length looks i)), 73, 3⟩), ((2, 2), .live ⟨(enc eV (viewsK secs.length looks i)), 53, 3⟩), ((3, 3), .live ⟨[.one, .ro secs.length (enc eSec secs), .one, .one, .one, .one, .one, .one, .one, .one], 39, 1⟩), ((4, 4), .live ⟨[.one, .one, .ro looks.length (enc eLk looks)], 30, 1⟩)] rfl (by decide) (by decide) ⟨row_no (o := ⟨(enc eV (viewsK secs.length looks i)), 73, 3⟩) rfl rfl, row_no (o := ⟨(enc eV (viewsK secs.length looks i)), 53, 3⟩) rfl rfl, row_no (o := ⟨[.one, .ro secs.length (enc eSec secs), .one, .one, .one, .one, .one, .one, .one, .one], 39, 1⟩) rfl rfl, row_no (o := ⟨[.one, .one, .ro looks.length (enc eLk looks)], 30, 1⟩) rfl rfl, trivial⟩ (sr_same 45 (.v (.bool (decide ((j : Int) < ((looks.getD i dL).span.length : Int))))) rfl NoI.out (sr_same 13 (.v (.int .i64 (j : Int))) rfl NoI.out (sr_same 12 (.ro ((spanL secs.length (looks.getD i dL).span).length) (enc eI (spanL secs.length (looks.getD i dL).span))) (by rw [← he]; rfl) NoI.out (sr_same 11 (.v (.bool (!decide (findI (viewsK secs.length looks i) ((looks.getD i dL).id % 4) < 0)))) rfl NoI.out (sr_same 9 (.v (.int .i64 (((looks.getD i dL).id) % 4))) rfl NoI.out (sr_same 8 (.v (.int .i64 (i : Int))) rfl NoI.out (sr_map 7 (.sl 2 0 ((viewsK secs.length looks i).length)) (by first | exact Ok.sl _ _ _ (by first | decide | simp) | exact Ok.pt _ _ (by first | decide | simp)) rfl (sr_map 6 (.sl 1 0 ((viewsK secs.length looks i).length)) (by first | exact Ok.sl _ _ _ (by first | decide | simp) | exact Ok.pt _ _ (by first | decide | simp)) rfl (sr_same 5 (.v (.slice none 0 0)) rfl NoI.out (sr_same 4 (.v (.slice none 0 0)) rfl NoI.out (sr_map 3 (.pt 4 0) (by first | exact Ok.sl _ _ _ (by first | decide | simp) | exact Ok.pt _ _ (by first | decide | simp)) rfl (sr_map 2 (.pt 3 0) (by first | exact Ok.sl _ _ _ (by first | decide | simp) | exact Ok.pt _ _ (by first | decide | simp)) rfl sr_none))))))))))))) (keep_of rfl)
        refine seqR ?_
        refine opG rfl (aop_move (av := .sl 1 0 ((viewsK secs.length looks i).length)) (.inl rfl) rfl rfl rfl ?_)
        refine opG rfl (aop_move (av := .v (.int .i64 (((looks.getD i dL).id) % 4))) (.inl rfl) rfl rfl rfl ?_)
        refine opG rfl (aop_fieldAddr (av := .pt 4 0) (av' := .pt 4 2) rfl rfl rfl ft30_2 sz28 rfl rfl rfl ?_)
        refine opG rfl (aop_ld (av := .ro looks.length (enc eLk looks)) rfl rfl rfl ag28 rfl rfl ?_)
        refine opG rfl (aop_move (av := .v (.int .i64 (i : Int))) (.inl rfl) rfl rfl rfl ?_)
        refine opG rfl (aop_ixE dL rfl rfl rfl ut28 sz71 rfl rfl (fun _ => rfl) rfl (by first | omega | (simp; done) | decide | (simp; omega) | (simp at *; omega)) ?_)
        refine opG rfl (aop_fieldAddr (av := .rp (([.v (.int .u8 ((looks.getD i dL).id)), .v (.bool ((looks.getD i dL).sure)), .ro ((looks.getD i dL).span.length) (enc eU8 ((looks.getD i dL).span))] : List AV) ++ ((enc eLk looks).drop ((i + 1) * 3)))) (av' := .rp (([.v (.bool ((looks.getD i dL).sure)), .ro ((looks.getD i dL).span.length) (enc eU8 ((looks.getD i dL).span))] : List AV) ++ ((enc eLk looks).drop ((i + 1) * 3)))) rfl rfl rfl ft71_1 sz4 rfl rfl rfl ?_)
        refine opG rfl (aop_ld (av := .v (.bool ((looks.getD i dL).sure))) rfl rfl rfl ag4 rfl rfl ?_)
        refine opG rfl (aop_move (av := .ro ((spanL secs.length (looks.getD i dL).span).length) (enc eI (spanL secs.length (looks.getD i dL).span))) (.inl rfl) rfl rfl rfl ?_)
        refine opG rfl (aop_build rfl rfl rfl pl73 rfl ?_)
        refine opG rfl (aop_lit rfl rfl rfl ut41 iz73 (by decide) (by decide) rfl rfl ?_)
        refine opG rfl (aop_app1 (f := eV) (l := viewsK secs.length looks i) 58 (⟨((looks.getD i dL).id) % 4, (looks.getD i dL).sure, spanL secs.length (looks.getD i dL).span⟩ : View) rfl rfl rfl rfl ut41 in73 rfl (by decide) rfl rfl rfl rfl rfl rfl (fun _ => rfl) rfl rfl (by first | omega | (simp; done) | decide | (simp; omega) | (simp at *; omega)) (by first | omega | (simp; done) | decide | (simp; omega) | (simp at *; omega)) rfl ?_)
        refine opG rfl (aop_move (av := .sl 58 0 (((viewsK secs.length looks i) ++ [(⟨((looks.getD i dL).id) % 4, (looks.getD i dL).sure, spanL secs.length (looks.getD i dL).span⟩ : View)]).length)) (.inr rfl) rfl rfl rfl ?_)
        refine op0 ?_
        show AWP _ _ _ _ _
        refine awp_imp ⟨(upd (upd (upd (upd (upd (upd (upd (upd (upd (upd (upd none_ 2 (.pt 3 0)) 3 (.pt 4 0)) 4 (.v (.slice none 0 0))) 5 (.v (.slice none 0 0))) 6 (.sl 58 0 (((viewsK secs.length looks i) ++ [(⟨((looks.getD i dL).id) % 4, (looks.getD i dL).sure, spanL secs.length (looks.getD i dL).span⟩ : View)]).length))) 7 (.sl 2 0 ((viewsK secs.length looks i).length))) 8 (.v (.int .i64 (i : Int)))) 9 (.v (.int .i64 (((looks.getD i dL).id) % 4)))) 11 (.v (.bool (!decide (findI (viewsK secs.length looks i) ((looks.getD i dL).id % 4) < 0))))) 12 (.ro ((spanL secs.length (looks.getD i dL).span).length) (enc eI (spanL secs.length (looks.getD i dL).span)))) 13 (.v (.int .i64 (j : Int)))), (updO (updO (updO (updO (updO (updO noOb 1 (.live ⟨(enc eV (viewsK secs.length looks i)), 73, 3⟩)) 2 (.live ⟨(enc eV (viewsK secs.length looks i)), 53, 3⟩)) 3 (.live ⟨[.one, .ro secs.length (enc eSec secs), .one, .one, .one, .one, .one, .one, .one, .one], 39, 1⟩)) 4 (.live ⟨[.one, .one, .ro looks.length (enc eLk looks)], 30, 1⟩)) 1 .dead) 58 (.live ⟨(enc eV ((viewsK secs.length looks i) ++ [(⟨((looks.getD i dL).id) % 4, (looks.getD i dL).sure, spanL secs.length (looks.getD i dL).span⟩ : View)])), 73, 3⟩))⟩ (imp_le ⟨(lee_upd 13 _ rfl (lee_upd 12 _ rfl (lee_upd 11 _ rfl (lee_upd 9 _ rfl (lee_upd 8 _ rfl (lee_upd 7 _ rfl (lee_upd 6 _ rfl (lee_upd 5 _ rfl (lee_upd 4 _ rfl (lee_upd 3 _ rfl (lee_upd 2 _ rfl (lee_none _)))))))))))), fun _ => .inl rfl⟩) ?_
        refine regR ?_
        refine opG rfl (aop_move (av := .sl 2 0 ((viewsK secs.length looks i).length)) (.inl rfl) rfl rfl rfl ?_)
        refine opG rfl (aop_move (av := .v (.int .i64 (((looks.getD i dL).id) % 4))) (.inl rfl) rfl rfl rfl ?_)
        refine opG rfl (aop_fieldAddr (av := .pt 4 0) (av' := .pt 4 2) rfl rfl rfl ft30_2 sz28 rfl rfl rfl ?_)
        refine opG rfl (aop_ld (av := .ro looks.length (enc eLk looks)) rfl rfl rfl ag28 rfl rfl ?_)
        refine opG rfl (aop_move (av := .v (.int .i64 (i : Int))) (.inl rfl) rfl rfl rfl ?_)
        refine opG rfl (aop_ixE dL rfl rfl rfl ut28 sz71 rfl rfl (fun _ => rfl) rfl (by first | omega | (simp; done) | decide | (simp; omega) | (simp at *; omega)) ?_)
        refine opG rfl (aop_fieldAddr (av := .rp (([.v (.int .u8 ((looks.getD i dL).id)), .v (.bool ((looks.getD i dL).sure)), .ro ((looks.getD i dL).span.length) (enc eU8 ((looks.getD i dL).span))] : List AV) ++ ((enc eLk looks).drop ((i + 1) * 3)))) (av' := .rp (([.v (.bool ((looks.getD i dL).sure)), .ro ((looks.getD i dL).span.length) (enc eU8 ((looks.getD i dL).span))] : List AV) ++ ((enc eLk looks).drop ((i + 1) * 3)))) rfl rfl rfl ft71_1 sz4 rfl rfl rfl ?_)
        refine opG rfl (aop_ld (av := .v (.bool ((looks.getD i dL).sure))) rfl rfl rfl ag4 rfl rfl ?_)
        refine opG rfl (aop_move (av := .ro ((spanL secs.length (looks.getD i dL).span).length) (enc eI (spanL secs.length (looks.getD i dL).span))) (.inl rfl) rfl rfl rfl ?_)
        refine opG rfl (aop_build rfl rfl rfl pl53 rfl ?_)
        refine opG rfl (aop_lit rfl rfl rfl ut42 iz53 (by decide) (by decide) rfl rfl ?_)
        refine opG rfl (aop_app1 (f := eV) (l := viewsK secs.length looks i) 59 (⟨((looks.getD i dL).id) % 4, (looks.getD i dL).sure, spanL secs.length (looks.getD i dL).span⟩ : View) rfl rfl rfl rfl ut42 in53 rfl (by decide) rfl rfl rfl rfl rfl rfl (fun _ => rfl) rfl rfl (by first | omega | (simp; done) | decide | (simp; omega) | (simp at *; omega)) (by first | omega | (simp; done) | decide | (simp; omega) | (simp at *; omega)) rfl ?_)
        refine opG rfl (aop_move (av := .sl 59 0 (((viewsK secs.length looks i) ++ [(⟨((looks.getD i dL).id) % 4, (looks.getD i dL).sure, spanL secs.length (looks.getD i dL).span⟩ : View)]).length)) (.inr rfl) rfl rfl rfl ?_)
        refine op0 ?_
        show AWP _ _ _ _ _
        refine awp_imp ⟨(upd (upd (upd (upd (upd (upd (upd (upd (upd (upd (upd none_ 2 (.pt 3 0)) 3 (.pt 4 0)) 4 (.v (.slice none 0 0))) 5 (.v (.slice none 0 0))) 6 (.sl 58 0 (((viewsK secs.length looks i) ++ [(⟨((looks.getD i dL).id) % 4, (looks.getD i dL).sure, spanL secs.length (looks.getD i dL).span⟩ : View)]).length))) 7 (.sl 59 0 (((viewsK secs.length looks i) ++ [(⟨((looks.getD i dL).id) % 4, (looks.getD i dL).sure, spanL secs.length (looks.getD i dL).span⟩ : View)]).length))) 8 (.v (.int .i64 (i : Int)))) 9 (.v (.int .i64 (((looks.getD i dL).id) % 4)))) 11 (.v (.bool (!decide (findI (viewsK secs.length looks i) ((looks.getD i dL).id % 4) < 0))))) 12 (.ro ((spanL secs.length (looks.getD i dL).span).length) (enc eI (spanL secs.length (looks.getD i dL).span)))) 13 (.v (.int .i64 (j : Int)))), (updO (updO (updO (updO (updO (updO (updO (updO noOb 1 (.live ⟨(enc eV (viewsK secs.length looks i)), 73, 3⟩)) 2 (.live ⟨(enc eV (viewsK secs.length looks i)), 53, 3⟩)) 3 (.live ⟨[.one, .ro secs.length (enc eSec secs), .one, .one, .one, .one, .one, .one, .one, .one], 39, 1⟩)) 4 (.live ⟨[.one, .one, .ro looks.length (enc eLk looks)], 30, 1⟩)) 1 .dead) 58 (.live ⟨(enc eV ((viewsK secs.length looks i) ++ [(⟨((looks.getD i dL).id) % 4, (looks.getD i dL).sure, spanL secs.length (looks.getD i dL).span⟩ : View)])), 73, 3⟩)) 2 .dead) 59 (.live ⟨(enc eV ((viewsK secs.length looks i) ++ [(⟨((looks.getD i dL).id) % 4, (looks.getD i dL).sure, spanL secs.length (looks.getD i dL).span⟩ : View)])), 53, 3⟩))⟩ (imp_le ⟨(lee_upd 13 _ rfl (lee_upd 12 _ rfl (lee_upd 11 _ rfl (lee_upd 9 _ rfl (lee_upd 8 _ rfl (lee_upd 7 _ rfl (lee_upd 6 _ rfl (lee_upd 5 _ rfl (lee_upd 4 _ rfl (lee_upd 3 _ rfl (lee_upd 2 _ rfl (lee_none _)))))))))))), fun _ => .inl rfl⟩) ?_
        refine regR ?_
        refine opG rfl (aop_move (av := .v (.int .i64 (i : Int))) (.inl rfl) rfl rfl rfl ?_)
        refine opG rfl (aop_binI (u := (.int .i64 ((i + 1 : Nat) : Int))) rfl rfl rfl rfl rfl trivial (addN (by omega)) ?_)
        refine opG rfl (aop_move (av := .v (.int .i64 ((i + 1 : Nat) : Int))) (.inr rfl) rfl rfl rfl ?_)
        refine op0 ?_
        show _ ∧ _
        have hs_ := viewsK_new (n := secs.length) (looks := looks) (k := i) (by simpa using hc1)
        refine ⟨by omega, trivial, ?_⟩
        exact imp_ler [(58, 1), (59, 2), (3, 3), (4, 4)] (lerL [(58, 1), (59, 2), (3, 3), (4, 4)] [((58, 1), .live ⟨(enc eV (viewsK secs.length looks (i + 1))), 73, 3⟩), ((59, 2), .live ⟨(enc eV (viewsK secs.length looks (i + 1))), 53, 3⟩), ((3, 3), .live ⟨[.one, .ro secs.length (enc eSec secs), .one, .one, .one, .one, .one, .one, .one, .one], 39, 1⟩), ((4, 4), .live ⟨[.one, .one, .ro looks.length (enc eLk looks)], 30, 1⟩)] rfl (by decide) (by decide) ⟨row_no (o := ⟨(enc eV ((viewsK secs.length looks i) ++ [(⟨((looks.getD i dL).id) % 4, (looks.getD i dL).sure, spanL secs.length (looks.getD i dL).span⟩ : View)])), 73, 3⟩) rfl (by exact congrArg (fun l_ => LObj.mk (enc eV l_) 73 3) hs_), row_no (o := ⟨(enc eV ((viewsK secs.length looks i) ++ [(⟨((looks.getD i dL).id) % 4, (looks.getD i dL).sure, spanL secs.length (looks.getD i dL).span⟩ : View)])), 53, 3⟩) rfl (by exact congrArg (fun l_ => LObj.mk (enc eV l_) 53 3) hs_), row_no (o := ⟨[.one, .ro secs.length (enc eSec secs), .one, .one, .one, .one, .one, .one, .one, .one], 39, 1⟩) rfl rfl, row_no (o := ⟨[.one, .one, .ro looks.length (enc eLk looks)], 30, 1⟩) rfl rfl, trivial⟩ (sr_same 8 (.v (.int .i64 ((i + 1) : Int))) rfl NoI.out (sr_map 7 (.sl 2 0 ((viewsK secs.length looks (i + 1)).length)) (by first | exact Ok.sl _ _ _ (by first | decide | simp) | exact Ok.pt _ _ (by first | decide | simp)) (by exact congrArg (AV.sl 2 0) (congrArg List.length hs_.symm)) (sr_map 6 (.sl 1 0 ((viewsK secs.length looks (i + 1)).length)) (by first | exact Ok.sl _ _ _ (by first | decide | simp) | exact Ok.pt _ _ (by first | decide | simp)) (by exact congrArg (AV.sl 1 0) (congrArg List.length hs_.symm)) (sr_same 5 (.v (.slice none 0 0)) rfl NoI.out (sr_same 4 (.v (.slice none 0 0)) rfl NoI.out (sr_map 3 (.pt 4 0) (by first | exact Ok.sl _ _ _ (by first | decide | simp) | exact Ok.pt _ _ (by first | decide | simp)) rfl (sr_map 2 (.pt 3 0) (by first | exact Ok.sl _ _ _ (by first | decide | simp) | exact Ok.pt _ _ (by first | decide | simp)) rfl sr_none)))))))) (keep_of rfl)
  · skip
    have hf6 := of_decide_eq_false hc0
    refine awp_exit ?_
    show AWP _ _ _ _ _
    refine seqR ?_
    refine opG rfl (aop_move (av := .sl 1 0 ((viewsK secs.length looks i).length)) (.inl rfl) rfl rfl rfl ?_)
    refine opG rfl (aop_move (av := .sl 2 0 ((viewsK secs.length looks i).length)) (.inl rfl) rfl rfl rfl ?_)
    refine opG rfl (aop_move (av := .sl 1 0 ((viewsK secs.length looks i).length)) (.inr rfl) rfl rfl rfl ?_)
    refine opG rfl (aop_move (av := .sl 2 0 ((viewsK secs.length looks i).length)) (.inr rfl) rfl rfl rfl ?_)
    refine op0 ?_
    show AWP _ _ _ _ _
    refine awp_imp ⟨(upd (upd none_ 4 (.sl 1 0 ((viewsK secs.length looks i).length))) 5 (.sl 2 0 ((viewsK secs.length looks i).length))), (updO (updO (updO (updO noOb 1 (.live ⟨(enc eV (viewsK secs.length looks i)), 73, 3⟩)) 2 (.live ⟨(enc eV (viewsK secs.length looks i)), 53, 3⟩)) 3 (.live ⟨[.one, .ro secs.length (enc eSec secs), .one, .one, .one, .one, .one, .one, .one, .one], 39, 1⟩)) 4 (.live ⟨[.one, .one, .ro looks.length (enc eLk looks)], 30, 1⟩))⟩ (imp_le ⟨(lee_upd 5 _ rfl (lee_upd 4 _ rfl (lee_none _))), fun _ => .inl rfl⟩) ?_
    refine awp_imp _ (imp_frozen rfl (fun _ h => h) (lee_lend 5 (.ro ((viewsK secs.length looks i).length) (enc eV (viewsK secs.length looks i))) (lend_s (id := 2) (n := (viewsK secs.length looks i).length) (o := ⟨(enc eV (viewsK secs.length looks i)), 53, 3⟩) rfl (enc_len (fun _ => rfl) (by first | rfl | (simp; done)))) (lee_lend 4 (.ro ((viewsK secs.length looks i).length) (enc eV (viewsK secs.length looks i))) (lend_s (id := 1) (n := (viewsK secs.length looks i).length) (o := ⟨(enc eV (viewsK secs.length looks i)), 73, 3⟩) rfl (enc_len (fun _ => rfl) (by first | rfl | (simp; done)))) lee_lend0))) ?_
    refine awp_ret ?_
    exact fret (av := .tup [.ro ((viewsK secs.length looks i).length) (enc eV (viewsK secs.length looks i)), .ro ((viewsK secs.length looks i).length) (enc eV (viewsK secs.length looks i))]) rfl rfl (by rw [show i = looks.length by simp at hc0; omega]; rfl)

set_option maxRecDepth 10000 in
set_option maxHeartbeats 16000000 in
theorem r13_Of (secs : List Sec) (parts : List (List Int)) (owners : List Int) (views : List View) (hs : secs.length ≤ 65536) (hp : parts.length ≤ 65536) (hpl : ∀ x, x ∈ parts → x.length ≤ 65536) (ho : parts.length ≤ owners.length) (hn : views.length ≤ 65536) (hv : ∀ v, v ∈ views → v.span.length ≤ 65536) (hw : ∀ x, x ∈ owners → -2 ≤ x) : Fn Tryd.prog 18 [.agg [.one, .ro secs.length (enc eSec secs), .ro parts.length (enc eIL parts), .one, .one, .one, .one, .one, .one, .one], .ro owners.length (enc eI owners), .ro views.length (enc eV views)] (.ro ((ofK parts owners views secs.length).length) (enc eU8 (ofK parts owners views secs.length))) := by
  refine fnE_of_body (N := 63) Tryd.func18 rfl rfl (resOf1 rfl) (by simp) (fun w0 X hL_ => ?_)
  refine seqR ?_
  refine opG rfl (aop_box 51 rfl rfl rfl rfl rfl rfl rfl ?_)
  refine opG rfl (aop_move (av := .v (.slice none 0 0)) (.inr rfl) rfl rfl rfl ?_)
  refine op0 ?_
  show AWP _ _ _ _ _
  refine seqR ?_
  refine opG rfl (aop_move (av := .v (.slice none 0 0)) (.inr rfl) rfl rfl rfl ?_)
  refine op0 ?_
  show AWP _ _ _ _ _
  refine awp_seq ?_
  refine seqR ?_
  refine opG rfl (aop_move (av := .v (.int .i64 0)) (.inr rfl) rfl rfl rfl ?_)
  refine op0 ?_
  show AWP _ _ _ _ _
  refine awp_imp ⟨(upd (upd (upd (upd (upd (upd none_ 1 (.ro owners.length (enc eI owners))) 2 (.ro views.length (enc eV views))) 3 (.pt 51 0)) 6 (.v (.slice none 0 0))) 7 (.v (.slice none 0 0))) 8 (.v (.int .i64 0))), (updO noOb 51 (.live ⟨[.one, .ro secs.length (enc eSec secs), .ro parts.length (enc eIL parts), .one, .one, .one, .one, .one, .one, .one], 39, 1⟩))⟩ (imp_le ⟨(lee_upd 8 _ rfl (lee_upd 7 _ rfl (lee_upd 6 _ rfl (lee_upd 3 _ rfl (lee_upd 2 _ rfl (lee_upd 1 _ rfl (lee_none _))))))), fun _ => .inl rfl⟩) ?_
  refine awp_block ?_
  refine awp_countI (fun k => ⟨(upd (upd (upd (upd (upd (upd none_ 1 (.ro owners.length (enc eI owners))) 2 (.ro views.length (enc eV views))) 3 (.pt 2 0)) 6 (.v (.slice none 0 0))) 7 (.sl 1 0 ((ofK parts owners views k).length))) 8 (.v (.int .i64 (k : Int)))), (updO (updO noOb 1 (.live ⟨(enc eU8 (ofK parts owners views k)), 5, 1⟩)) 2 (.live ⟨[.one, .ro secs.length (enc eSec secs), .ro parts.length (enc eIL parts), .one, .one, .one, .one, .one, .one, .one], 39, 1⟩))⟩) (fun k => True) (secs.length) ?_ trivial (fun k hk_k hinv => ?_)
  · skip
    refine (imp_adopt 7 52 5 1 rfl rfl).trans ?_
    exact imp_ler [(52, 1), (51, 2)] (lerL [(52, 1), (51, 2)] [((52, 1), .live ⟨(enc eU8 (ofK parts owners views 0)), 5, 1⟩), ((51, 2), .live ⟨[.one, .ro secs.length (enc eSec secs), .ro parts.length (enc eIL parts), .one, .one, .one, .one, .one, .one, .one], 39, 1⟩)] rfl (by decide) (by decide) ⟨row_no (o := ⟨[], 5, 1⟩) rfl rfl, row_no (o := ⟨[.one, .ro secs.length (enc eSec secs), .ro parts.length (enc eIL parts), .one, .one, .one, .one, .one, .one, .one], 39, 1⟩) rfl rfl, trivial⟩ (sr_same 8 (.v (.int .i64 (0 : Int))) rfl NoI.out (sr_map 7 (.sl 1 0 ((ofK parts owners views 0).length)) (by first | exact Ok.sl _ _ _ (by first | decide | simp) | exact Ok.pt _ _ (by first | decide | simp)) rfl (sr_same 6 (.v (.slice none 0 0)) rfl NoI.out (sr_map 3 (.pt 2 0) (by first | exact Ok.sl _ _ _ (by first | decide | simp) | exact Ok.pt _ _ (by first | decide | simp)) rfl (sr_same 2 (.ro views.length (enc eV views)) rfl NoI.out (sr_same 1 (.ro owners.length (enc eI owners)) rfl NoI.out sr_none))))))) (keep_of rfl)
  have hpr := partI_range parts (k : Int)
  have hol := ofK_len parts owners views k
  have hwg := whoI_ge (s := (k : Int)) ho hw
  have hfs := findV_span (id := whoI parts owners (k : Int)) hv
  refine awp_seq ?_
  refine seqR ?_
  refine opG rfl (aop_move (av := .v (.int .i64 (k : Int))) (.inl rfl) rfl rfl rfl ?_)
  refine opG rfl (aop_fieldAddr (av := .pt 2 0) (av' := .pt 2 1) rfl rfl rfl ft39_1 sz35 rfl rfl rfl ?_)
  refine opG rfl (aop_ld (av := .ro secs.length (enc eSec secs)) rfl rfl rfl ag35 rfl rfl ?_)
  refine opG rfl (aop_len rfl rfl rfl rfl ut35 (len_ro rfl) ?_)
  refine opG rfl (aop_binI (u := (.bool (decide ((k : Int) < (secs.length : Int))))) rfl rfl rfl rfl rfl trivial rfl ?_)
  refine op0 ?_
  show AWP _ _ _ _ _
  refine awp_imp ⟨(upd (upd (upd (upd (upd (upd (upd none_ 1 (.ro owners.length (enc eI owners))) 2 (.ro views.length (enc eV views))) 3 (.pt 2 0)) 6 (.v (.slice none 0 0))) 7 (.sl 1 0 ((ofK parts owners views k).length))) 8 (.v (.int .i64 (k : Int)))) 19 (.v (.bool (decide ((k : Int) < (secs.length : Int)))))), (updO (updO noOb 1 (.live ⟨(enc eU8 (ofK parts owners views k)), 5, 1⟩)) 2 (.live ⟨[.one, .ro secs.length (enc eSec secs), .ro parts.length (enc eIL parts), .one, .one, .one, .one, .one, .one, .one], 39, 1⟩))⟩ (imp_le ⟨(lee_upd 19 _ rfl (lee_upd 8 _ rfl (lee_upd 7 _ rfl (lee_upd 6 _ rfl (lee_upd 3 _ rfl (lee_upd 2 _ rfl (lee_upd 1 _ rfl (lee_none _)))))))), fun _ => .inl rfl⟩) ?_
  refine awp_cond (decide ((k : Int) < (secs.length : Int))) rfl rfl (fun hc0 => ?_) (fun hc0 => ?_)
  · skip
    have hf1 := of_decide_eq_true hc0
    refine awp_skip ?_
    show AWP _ _ _ _ _
    refine awp_seq ?_
    refine awp_block ?_
    refine seqR ?_
    refine opG rfl (aop_ldB (cells' := [.one, .ro secs.length (enc eSec secs), .ro parts.length (enc eIL parts), .one, .one, .one, .one, .one, .one, .one]) rfl rfl rfl ag39 sz39 rfl rfl rfl rfl ?_)
    refine opG rfl (aop_move (av := .v (.int .i64 (k : Int))) (.inl rfl) rfl rfl rfl ?_)
    refine opG rfl (callW_ (r05_Part parts (k : Int) hp hpl) rfl rfl rfl rfl rfl bd19 (lends_cons (lend_agg (lends_cons (lend_n (av := .one)) (lends_cons (.one _ rfl) (lends_cons (lend_n (av := .ro parts.length (enc eIL parts))) (lends_cons (lend_n (av := .one)) (lends_cons (lend_n (av := .one)) (lends_cons (lend_n (av := .one)) (lends_cons (lend_n (av := .one)) (lends_cons (lend_n (av := .one)) (lends_cons (lend_n (av := .one)) (lends_cons (lend_n (av := .one)) lends_nil))))))))))) (lends_cons (lend_n (av := .v (.int .i64 (k : Int)))) lends_nil)) ?_)
    refine opG rfl (aop_move (av := .v (.int .i64 (partI parts (k : Int)))) (.inr rfl) rfl rfl rfl ?_)
    refine op0 ?_
    show AWP _ _ _ _ _
    refine awp_imp ⟨(upd (upd (upd (upd (upd (upd (upd none_ 1 (.ro owners.length (enc eI owners))) 2 (.ro views.length (enc eV views))) 3 (.pt 2 0)) 6 (.v (.slice none 0 0))) 7 (.sl 1 0 ((ofK parts owners views k).length))) 8 (.v (.int .i64 (k : Int)))) 9 (.v (.int .i64 (partI parts (k : Int))))), (updO (updO noOb 1 (.live ⟨(enc eU8 (ofK parts owners views k)), 5, 1⟩)) 2 (.live ⟨[.one, .ro secs.length (enc eSec secs), .ro parts.length (enc eIL parts), .one, .one, .one, .one, .one, .one, .one], 39, 1⟩))⟩ (imp_le ⟨(lee_upd 9 _ rfl (lee_upd 8 _ rfl (lee_upd 7 _ rfl (lee_upd 6 _ rfl (lee_upd 3 _ rfl (lee_upd 2 _ rfl (lee_upd 1 _ rfl (lee_none _)))))))), fun _ => .inl rfl⟩) ?_
    refine seqR ?_
    refine opG rfl (aop_move (av := .v (.int .i64 (-1))) (.inr rfl) rfl rfl rfl ?_)
    refine op0 ?_
    show AWP _ _ _ _ _
    refine awp_seq ?_
    refine seqR ?_
    refine opG rfl (aop_move (av := .v (.int .i64 (partI parts (k : Int)))) (.inl rfl) rfl rfl rfl ?_)
    refine opG rfl (aop_binI (u := (.bool (decide ((partI parts (k : Int)) ≥ 0)))) rfl rfl rfl rfl rfl trivial rfl ?_)
    refine op0 ?_
    show AWP _ _ _ _ _
    refine cutG ⟨(upd (upd (upd (upd (upd (upd (upd (upd none_ 1 (.ro owners.length (enc eI owners))) 2 (.ro views.length (enc eV views))) 3 (.pt 2 0)) 6 (.v (.slice none 0 0))) 7 (.sl 1 0 ((ofK parts owners views k).length))) 8 (.v (.int .i64 (k : Int)))) 9 (.v (.int .i64 (partI parts (k : Int))))) 10 (.v (.int .i64 (whoI parts owners (k : Int))))), (updO (updO noOb 1 (.live ⟨(enc eU8 (ofK parts owners views k)), 5, 1⟩)) 2 (.live ⟨[.one, .ro secs.length (enc eSec secs), .ro parts.length (enc eIL parts), .one, .one, .one, .one, .one, .one, .one], 39, 1⟩))⟩ (fun s h => h) ?_ ?_
    · skip
      refine awp_cond (decide ((partI parts (k : Int)) ≥ 0)) rfl rfl (fun hc1 => ?_) (fun hc1 => ?_)
      · skip
        have hf2 := of_decide_eq_true hc1
        have hpk : partI parts (k : Int) ≥ 0 := of_decide_eq_true hc1
        refine regR ?_
        refine opG rfl (aop_move (av := .ro owners.length (enc eI owners)) (.inl rfl) rfl rfl rfl ?_)
        refine opG rfl (aop_move (av := .v (.int .i64 (partI parts (k : Int)))) (.inl rfl) rfl rfl rfl ?_)
        refine opG rfl (aop_ixI 0 rfl rfl rfl ut47 sz3 rfl rfl (fun _ => rfl) rfl (by omega) (by first | omega | (simp; done) | decide | (simp; omega) | (simp at *; omega)) ?_)
        refine opG rfl (aop_ld (av := .v (.int .i64 (owners.getD (partI parts (k : Int)).toNat 0))) rfl rfl rfl ag3 rfl rfl ?_)
        refine opG rfl (aop_move (av := .v (.int .i64 (owners.getD (partI parts (k : Int)).toNat 0))) (.inr rfl) rfl rfl rfl ?_)
        refine op0 ?_
        show Imp _ _ _
        exact imp_ler [(1, 1), (2, 2)] (lerL [(1, 1), (2, 2)] [((1, 1), .live ⟨(enc eU8 (ofK parts owners views k)), 5, 1⟩), ((2, 2), .live ⟨[.one, .ro secs.length (enc eSec secs), .ro parts.length (enc eIL parts), .one, .one, .one, .one, .one, .one, .one], 39, 1⟩)] rfl (by decide) (by decide) ⟨row_no (o := ⟨(enc eU8 (ofK parts owners views k)), 5, 1⟩) rfl rfl, row_no (o := ⟨[.one, .ro secs.length (enc eSec secs), .ro parts.length (enc eIL parts), .one, .one, .one, .one, .one, .one, .one], 39, 1⟩) rfl rfl, trivial⟩ (sr_same 10 (.v (.int .i64 (whoI parts owners (k : Int)))) (by exact congrArg (fun n_ : Int => AV.v (.int .i64 n_)) (by first | exact whoI_t hpk | exact whoI_f hpk)) NoI.out (sr_same 9 (.v (.int .i64 (partI parts (k : Int)))) rfl NoI.out (sr_same 8 (.v (.int .i64 (k : Int))) rfl NoI.out (sr_map 7 (.sl 1 0 ((ofK parts owners views k).length)) (by first | exact Ok.sl _ _ _ (by first | decide | simp) | exact Ok.pt _ _ (by first | decide | simp)) rfl (sr_same 6 (.v (.slice none 0 0)) rfl NoI.out (sr_map 3 (.pt 2 0) (by first | exact Ok.sl _ _ _ (by first | decide | simp) | exact Ok.pt _ _ (by first | decide | simp)) rfl (sr_same 2 (.ro views.length (enc eV views)) rfl NoI.out (sr_same 1 (.ro owners.length (enc eI owners)) rfl NoI.out sr_none))))))))) (keep_of rfl)
      · skip
        have hf3 := of_decide_eq_false hc1
        have hpk : ¬ partI parts (k : Int) ≥ 0 := of_decide_eq_false hc1
        refine awp_skip ?_
        show Imp _ _ _
        exact imp_ler [(1, 1), (2, 2)] (lerL [(1, 1), (2, 2)] [((1, 1), .live ⟨(enc eU8 (ofK parts owners views k)), 5, 1⟩), ((2, 2), .live ⟨[.one, .ro secs.length (enc eSec secs), .ro parts.length (enc eIL parts), .one, .one, .one, .one, .one, .one, .one], 39, 1⟩)] rfl (by decide) (by decide) ⟨row_no (o := ⟨(enc eU8 (ofK parts owners views k)), 5, 1⟩) rfl rfl, row_no (o := ⟨[.one, .ro secs.length (enc eSec secs), .ro parts.length (enc eIL parts), .one, .one, .one, .one, .one, .one, .one], 39, 1⟩) rfl rfl, trivial⟩ (sr_same 10 (.v (.int .i64 (whoI parts owners (k : Int)))) (by exact congrArg (fun n_ : Int => AV.v (.int .i64 n_)) (by first | exact whoI_t hpk | exact whoI_f hpk)) NoI.out (sr_same 9 (.v (.int .i64 (partI parts (k : Int)))) rfl NoI.out (sr_same 8 (.v (.int .i64 (k : Int))) rfl NoI.out (sr_map 7 (.sl 1 0 ((ofK parts owners views k).length)) (by first | exact Ok.sl _ _ _ (by first | decide | simp) | exact Ok.pt _ _ (by first | decide | simp)) rfl (sr_same 6 (.v (.slice none 0 0)) rfl NoI.out (sr_map 3 (.pt 2 0) (by first | exact Ok.sl _ _ _ (by first | decide | simp) | exact Ok.pt _ _ (by first | decide | simp)) rfl (sr_same 2 (.ro views.length (enc eV views)) rfl NoI.out (sr_same 1 (.ro owners.length (enc eI owners)) rfl NoI.out sr_none))))))))) (keep_of rfl)
    show AWP _ _ _ _ _
    refine seqR ?_
    refine opG rfl (aop_move (av := .v (.int .u8 0)) (.inr rfl) rfl rfl rfl ?_)
    refine op0 ?_
    show AWP _ _ _ _ _
    refine awp_seq ?_
    refine seqR ?_
    refine opG rfl (aop_move (av := .v (.int .i64 (whoI parts owners (k : Int)))) (.inl rfl) rfl rfl rfl ?_)
    refine opG rfl (aop_binI (u := (.bool (decide ((whoI parts owners (k : Int)) ≥ 0)))) rfl rfl rfl rfl rfl trivial rfl ?_)
    refine op0 ?_
    show AWP _ _ _ _ _
    refine cutG ⟨(upd (upd (upd (upd (upd (upd (upd (upd (upd none_ 1 (.ro owners.length (enc eI owners))) 2 (.ro views.length (enc eV views))) 3 (.pt 2 0)) 6 (.v (.slice none 0 0))) 7 (.sl 1 0 ((ofK parts owners views k).length))) 8 (.v (.int .i64 (k : Int)))) 9 (.v (.int .i64 (partI parts (k : Int))))) 10 (.v (.int .i64 (whoI parts owners (k : Int))))) 11 (.v (.int .u8 (s1 (whoI parts owners (k : Int)) views (k : Int))))), (updO (updO noOb 1 (.live ⟨(enc eU8 (ofK parts owners views k)), 5, 1⟩)) 2 (.live ⟨[.one, .ro secs.length (enc eSec secs), .ro parts.length (enc eIL parts), .one, .one, .one, .one, .one, .one, .one], 39, 1⟩))⟩ (fun s h => h) ?_ ?_
    · skip
      refine awp_cond (decide ((whoI parts owners (k : Int)) ≥ 0)) rfl rfl (fun hc2 => ?_) (fun hc2 => ?_)
      · skip
        have hf4 := of_decide_eq_true hc2
        have hw0 : whoI parts owners (k : Int) ≥ 0 := of_decide_eq_true hc2
        refine seqR ?_
        refine opG rfl (aop_move (av := .ro views.length (enc eV views)) (.inl rfl) rfl rfl rfl ?_)
        refine opG rfl (aop_move (av := .v (.int .i64 (whoI parts owners (k : Int)))) (.inl rfl) rfl rfl rfl ?_)
        refine opG rfl (call_ (r12_Find views (whoI parts owners (k : Int)) (by first | omega | (simp; done) | decide | (simp; omega) | (simp at *; omega))) rfl rfl rfl rfl rfl bd20 rfl ?_)
        refine opG rfl (aop_move (av := .tup [.agg [.v (.int .i64 ((findV views (whoI parts owners (k : Int))).id)), .v (.bool ((findV views (whoI parts owners (k : Int))).sure)), .ro ((findV views (whoI parts owners (k : Int))).span.length) (enc eI ((findV views (whoI parts owners (k : Int))).span))], .v (.bool (!decide (findI views (whoI parts owners (k : Int)) < 0)))]) (.inl rfl) rfl rfl rfl ?_)
        refine opG rfl (aop_extract rfl rfl rfl rfl rfl ?_)
        refine opG rfl (aop_extract rfl rfl rfl rfl rfl ?_)
        refine opG rfl (aop_alloc 53 rfl rfl rfl rfl ze53 rfl ?_)
        refine opG rfl (aop_store rfl rfl rfl sz53 rfl rfl rfl rfl rfl (Nat.le_of_ble_eq_true rfl) rfl rfl ?_)
        refine opG rfl (aop_move (av := .v (.bool (!decide (findI views (whoI parts owners (k : Int)) < 0)))) (.inr rfl) rfl rfl rfl ?_)
        refine op0 ?_
        show AWP _ _ _ _ _
        refine awp_imp ⟨(upd (upd (upd (upd (upd (upd (upd (upd (upd (upd none_ 1 (.ro owners.length (enc eI owners))) 2 (.ro views.length (enc eV views))) 3 (.pt 2 0)) 6 (.v (.slice none 0 0))) 7 (.sl 1 0 ((ofK parts owners views k).length))) 8 (.v (.int .i64 (k : Int)))) 9 (.v (.int .i64 (partI parts (k : Int))))) 10 (.v (.int .i64 (whoI parts owners (k : Int))))) 11 (.v (.int .u8 0))) 12 (.pt 53 0)), (updO (updO (updO (updO noOb 1 (.live ⟨(enc eU8 (ofK parts owners views k)), 5, 1⟩)) 2 (.live ⟨[.one, .ro secs.length (enc eSec secs), .ro parts.length (enc eIL parts), .one, .one, .one, .one, .one, .one, .one], 39, 1⟩)) 53 (.live ⟨[.v (.int .i64 0), .v (.bool false), .v (.slice none 0 0)], 53, 1⟩)) 53 (.live ⟨[.v (.int .i64 ((findV views (whoI parts owners (k : Int))).id)), .v (.bool ((findV views (whoI parts owners (k : Int))).sure)), .ro ((findV views (whoI parts owners (k : Int))).span.length) (enc eI ((findV views (whoI parts owners (k : Int))).span))], 53, 1⟩))⟩ (imp_le ⟨(lee_upd 12 _ rfl (lee_upd 11 _ rfl (lee_upd 10 _ rfl (lee_upd 9 _ rfl (lee_upd 8 _ rfl (lee_upd 7 _ rfl (lee_upd 6 _ rfl (lee_upd 3 _ rfl (lee_upd 2 _ rfl (lee_upd 1 _ rfl (lee_none _))))))))))), fun _ => .inl rfl⟩) ?_
        refine seqR ?_
        refine opG rfl (aop_fieldAddr (av := .pt 53 0) (av' := .pt 53 2) rfl rfl rfl ft53_2 sz47 rfl rfl rfl ?_)
        refine opG rfl (aop_ld (av := .ro ((findV views (whoI parts owners (k : Int))).span.length) (enc eI ((findV views (whoI parts owners (k : Int))).span))) rfl rfl rfl ag47 rfl rfl ?_)
        refine opG rfl (aop_move (av := .v (.int .i64 (k : Int))) (.inl rfl) rfl rfl rfl ?_)
        refine opG rfl (call_ (r01_Has ((findV views (whoI parts owners (k : Int))).span) (k : Int) (by first | omega | (simp; done) | decide | (simp; omega) | (simp at *; omega))) rfl rfl rfl rfl rfl bd21 rfl ?_)
        refine op0 ?_
        show AWP _ _ _ _ _
        refine awp_imp ⟨(upd (upd (upd (upd (upd (upd (upd (upd (upd (upd (upd none_ 1 (.ro owners.length (enc eI owners))) 2 (.ro views.length (enc eV views))) 3 (.pt 2 0)) 6 (.v (.slice none 0 0))) 7 (.sl 1 0 ((ofK parts owners views k).length))) 8 (.v (.int .i64 (k : Int)))) 9 (.v (.int .i64 (partI parts (k : Int))))) 10 (.v (.int .i64 (whoI parts owners (k : Int))))) 11 (.v (.int .u8 0))) 12 (.pt 53 0)) 42 (.v (.bool (decide ((k : Int) ∈ ((findV views (whoI parts owners (k : Int))).span)))))), (updO (updO (updO (updO noOb 1 (.live ⟨(enc eU8 (ofK parts owners views k)), 5, 1⟩)) 2 (.live ⟨[.one, .ro secs.length (enc eSec secs), .ro parts.length (enc eIL parts), .one, .one, .one, .one, .one, .one, .one], 39, 1⟩)) 53 (.live ⟨[.v (.int .i64 0), .v (.bool false), .v (.slice none 0 0)], 53, 1⟩)) 53 (.live ⟨[.v (.int .i64 ((findV views (whoI parts owners (k : Int))).id)), .v (.bool ((findV views (whoI parts owners (k : Int))).sure)), .ro ((findV views (whoI parts owners (k : Int))).span.length) (enc eI ((findV views (whoI parts owners (k : Int))).span))], 53, 1⟩))⟩ (imp_le ⟨(lee_upd 42 _ rfl (lee_upd 12 _ rfl (lee_upd 11 _ rfl (lee_upd 10 _ rfl (lee_upd 9 _ rfl (lee_upd 8 _ rfl (lee_upd 7 _ rfl (lee_upd 6 _ rfl (lee_upd 3 _ rfl (lee_upd 2 _ rfl (lee_upd 1 _ rfl (lee_none _)))))))))))), fun _ => .inl rfl⟩) ?_
        refine awp_cond (decide ((k : Int) ∈ ((findV views (whoI parts owners (k : Int))).span))) rfl rfl (fun hc3 => ?_) (fun hc3 => ?_)
        · skip
          refine regR ?_
          refine opG rfl (aop_move (av := .v (.int .u8 1)) (.inr rfl) rfl rfl rfl ?_)
          refine op0 ?_
          show Imp _ _ _
          exact imp_ler [(1, 1), (2, 2)] (lerL [(1, 1), (2, 2)] [((1, 1), .live ⟨(enc eU8 (ofK parts owners views k)), 5, 1⟩), ((2, 2), .live ⟨[.one, .ro secs.length (enc eSec secs), .ro parts.length (enc eIL parts), .one, .one, .one, .one, .one, .one, .one], 39, 1⟩)] rfl (by decide) (by decide) ⟨row_no (o := ⟨(enc eU8 (ofK parts owners views k)), 5, 1⟩) rfl rfl, row_no (o := ⟨[.one, .ro secs.length (enc eSec secs), .ro parts.length (enc eIL parts), .one, .one, .one, .one, .one, .one, .one], 39, 1⟩) rfl rfl, trivial⟩ (sr_same 11 (.v (.int .u8 (s1 (whoI parts owners (k : Int)) views (k : Int)))) (by exact congrArg (fun n_ : Int => AV.v (.int .u8 n_)) (by first | exact s1_t hw0 (of_decide_eq_true hc3) | exact s1_f (of_decide_eq_false hc3) | exact s1_n hw0)) NoI.out (sr_same 10 (.v (.int .i64 (whoI parts owners (k : Int)))) rfl NoI.out (sr_same 9 (.v (.int .i64 (partI parts (k : Int)))) rfl NoI.out (sr_same 8 (.v (.int .i64 (k : Int))) rfl NoI.out (sr_map 7 (.sl 1 0 ((ofK parts owners views k).length)) (by first | exact Ok.sl _ _ _ (by first | decide | simp) | exact Ok.pt _ _ (by first | decide | simp)) rfl (sr_same 6 (.v (.slice none 0 0)) rfl NoI.out (sr_map 3 (.pt 2 0) (by first | exact Ok.sl _ _ _ (by first | decide | simp) | exact Ok.pt _ _ (by first | decide | simp)) rfl (sr_same 2 (.ro views.length (enc eV views)) rfl NoI.out (sr_same 1 (.ro owners.length (enc eI owners)) rfl NoI.out sr_none)))))))))) (keep_of rfl)
        · skip
          refine awp_skip ?_
          show Imp _ _ _
          exact imp_ler [(1, 1), (2, 2)] (lerL [(1, 1), (2, 2)] [((1, 1), .live ⟨(enc eU8 (ofK parts owners views k)), 5, 1⟩), ((2, 2), .live ⟨[.one, .ro secs.length (enc eSec secs), .ro parts.length (enc eIL parts), .one, .one, .one, .one, .one, .one, .one], 39, 1⟩)] rfl (by decide) (by decide) ⟨row_no (o := ⟨(enc eU8 (ofK parts owners views k)), 5, 1⟩) rfl rfl, row_no (o := ⟨[.one, .ro secs.length (enc eSec secs), .ro parts.length (enc eIL parts), .one, .one, .one, .one, .one, .one, .one], 39, 1⟩) rfl rfl, trivial⟩ (sr_same 11 (.v (.int .u8 (s1 (whoI parts owners (k : Int)) views (k : Int)))) (by exact congrArg (fun n_ : Int => AV.v (.int .u8 n_)) (by first | exact s1_t hw0 (of_decide_eq_true hc3) | exact s1_f (of_decide_eq_false hc3) | exact s1_n hw0)) NoI.out (sr_same 10 (.v (.int .i64 (whoI parts owners (k : Int)))) rfl NoI.out (sr_same 9 (.v (.int .i64 (partI parts (k : Int)))) rfl NoI.out (sr_same 8 (.v (.int .i64 (k : Int))) rfl NoI.out (sr_map 7 (.sl 1 0 ((ofK parts owners views k).length)) (by first | exact Ok.sl _ _ _ (by first | decide | simp) | exact Ok.pt _ _ (by first | decide | simp)) rfl (sr_same 6 (.v (.slice none 0 0)) rfl NoI.out (sr_map 3 (.pt 2 0) (by first | exact Ok.sl _ _ _ (by first | decide | simp) | exact Ok.pt _ _ (by first | decide | simp)) rfl (sr_same 2 (.ro views.length (enc eV views)) rfl NoI.out (sr_same 1 (.ro owners.length (enc eI owners)) rfl NoI.out sr_none)))))))))) (keep_of rfl)
      · skip
        have hf5 := of_decide_eq_false hc2
        have hw0 : ¬ whoI parts owners (k : Int) ≥ 0 := of_decide_eq_false hc2
        refine awp_skip ?_
        show Imp _ _ _
        exact imp_ler [(1, 1), (2, 2)] (lerL [(1, 1), (2, 2)] [((1, 1), .live ⟨(enc eU8 (ofK parts owners views k)), 5, 1⟩), ((2, 2), .live ⟨[.one, .ro secs.length (enc eSec secs), .ro parts.length (enc eIL parts), .one, .one, .one, .one, .one, .one, .one], 39, 1⟩)] rfl (by decide) (by decide) ⟨row_no (o := ⟨(enc eU8 (ofK parts owners views k)), 5, 1⟩) rfl rfl, row_no (o := ⟨[.one, .ro secs.length (enc eSec secs), .ro parts.length (enc eIL parts), .one, .one, .one, .one, .one, .one, .one], 39, 1⟩) rfl rfl, trivial⟩ (sr_same 11 (.v (.int .u8 (s1 (whoI parts owners (k : Int)) views (k : Int)))) (by exact congrArg (fun n_ : Int => AV.v (.int .u8 n_)) (by first | exact s1_t hw0 (of_decide_eq_true hc3) | exact s1_f (of_decide_eq_false hc3) | exact s1_n hw0)) NoI.out (sr_same 10 (.v (.int .i64 (whoI parts owners (k : Int)))) rfl NoI.out (sr_same 9 (.v (.int .i64 (partI parts (k : Int)))) rfl NoI.out (sr_same 8 (.v (.int .i64 (k : Int))) rfl NoI.out (sr_map 7 (.sl 1 0 ((ofK parts owners views k).length)) (by first | exact Ok.sl _ _ _ (by first | decide | simp) | exact Ok.pt _ _ (by first | decide | simp)) rfl (sr_same 6 (.v (.slice none 0 0)) rfl NoI.out (sr_map 3 (.pt 2 0) (by first | exact Ok.sl _ _ _ (by first | decide | simp) | exact Ok.pt _ _ (by first | decide | simp)) rfl (sr_same 2 (.ro views.length (enc eV views)) rfl NoI.out (sr_same 1 (.ro owners.length (enc eI owners)) rfl NoI.out sr_none)))))))))) (keep_of rfl)
    show AWP _ _ _ _ _
    refine awp_seq ?_
    refine seqR ?_
    refine opG rfl (aop_move (av := .v (.int .i64 (whoI parts owners (k : Int)))) (.inl rfl) rfl rfl rfl ?_)
    refine opG rfl (aop_binI (u := (.bool ((whoI parts owners (k : Int)) == (-1)))) rfl rfl rfl rfl rfl trivial rfl ?_)
    refine op0 ?_
    show AWP _ _ _ _ _
    refine cutG ⟨(upd (upd (upd (upd (upd (upd (upd (upd (upd none_ 1 (.ro owners.length (enc eI owners))) 2 (.ro views.length (enc eV views))) 3 (.pt 2 0)) 6 (.v (.slice none 0 0))) 7 (.sl 1 0 ((ofK parts owners views k).length))) 8 (.v (.int .i64 (k : Int)))) 9 (.v (.int .i64 (partI parts (k : Int))))) 10 (.v (.int .i64 (whoI parts owners (k : Int))))) 11 (.v (.int .u8 (oneS (k : Int) (whoI parts owners (k : Int)) views)))), (updO (updO noOb 1 (.live ⟨(enc eU8 (ofK parts owners views k)), 5, 1⟩)) 2 (.live ⟨[.one, .ro secs.length (enc eSec secs), .ro parts.length (enc eIL parts), .one, .one, .one, .one, .one, .one, .one], 39, 1⟩))⟩ (fun s h => h) ?_ ?_
    · skip
      refine awp_cond ((whoI parts owners (k : Int)) == (-1)) rfl rfl (fun hc4 => ?_) (fun hc4 => ?_)
      · skip
        have hf6 := (beq_iff_eq).1 hc4
        have hw1 : whoI parts owners (k : Int) = -1 := by simpa using hc4
        refine seqR ?_
        refine opG rfl (aop_move (av := .v (.int .u8 3)) (.inr rfl) rfl rfl rfl ?_)
        refine op0 ?_
        show AWP _ _ _ _ _
        refine seqR ?_
        refine opG rfl (aop_move (av := .v (.int .i64 0)) (.inr rfl) rfl rfl rfl ?_)
        refine op0 ?_
        show AWP _ _ _ _ _
        refine awp_imp ⟨(upd (upd (upd (upd (upd (upd (upd (upd (upd (upd none_ 1 (.ro owners.length (enc eI owners))) 2 (.ro views.length (enc eV views))) 3 (.pt 2 0)) 6 (.v (.slice none 0 0))) 7 (.sl 1 0 ((ofK parts owners views k).length))) 8 (.v (.int .i64 (k : Int)))) 9 (.v (.int .i64 (partI parts (k : Int))))) 10 (.v (.int .i64 (whoI parts owners (k : Int))))) 11 (.v (.int .u8 3))) 14 (.v (.int .i64 0))), (updO (updO noOb 1 (.live ⟨(enc eU8 (ofK parts owners views k)), 5, 1⟩)) 2 (.live ⟨[.one, .ro secs.length (enc eSec secs), .ro parts.length (enc eIL parts), .one, .one, .one, .one, .one, .one, .one], 39, 1⟩))⟩ (imp_le ⟨(lee_upd 14 _ rfl (lee_upd 11 _ rfl (lee_upd 10 _ rfl (lee_upd 9 _ rfl (lee_upd 8 _ rfl (lee_upd 7 _ rfl (lee_upd 6 _ rfl (lee_upd 3 _ rfl (lee_upd 2 _ rfl (lee_upd 1 _ rfl (lee_none _))))))))))), fun _ => .inl rfl⟩) ?_
        refine awp_block ?_
        refine awp_countI (fun j => ⟨(upd (upd (upd (upd (upd (upd (upd (upd (upd (upd none_ 1 (.ro owners.length (enc eI owners))) 2 (.ro views.length (enc eV views))) 3 (.pt 2 0)) 6 (.v (.slice none 0 0))) 7 (.sl 1 0 ((ofK parts owners views k).length))) 8 (.v (.int .i64 (k : Int)))) 9 (.v (.int .i64 (partI parts (k : Int))))) 10 (.v (.int .i64 (whoI parts owners (k : Int))))) 11 (.v (.int .u8 (s2 views (k : Int) j)))) 14 (.v (.int .i64 (j : Int)))), (updO (updO noOb 1 (.live ⟨(enc eU8 (ofK parts owners views k)), 5, 1⟩)) 2 (.live ⟨[.one, .ro secs.length (enc eSec secs), .ro parts.length (enc eIL parts), .one, .one, .one, .one, .one, .one, .one], 39, 1⟩))⟩) (fun j => True) (views.length) ?_ trivial (fun j hk_j hinv => ?_)
        · skip
          exact imp_ler [(1, 1), (2, 2)] (lerL [(1, 1), (2, 2)] [((1, 1), .live ⟨(enc eU8 (ofK parts owners views k)), 5, 1⟩), ((2, 2), .live ⟨[.one, .ro secs.length (enc eSec secs), .ro parts.length (enc eIL parts), .one, .one, .one, .one, .one, .one, .one], 39, 1⟩)] rfl (by decide) (by decide) ⟨row_no (o := ⟨(enc eU8 (ofK parts owners views k)), 5, 1⟩) rfl rfl, row_no (o := ⟨[.one, .ro secs.length (enc eSec secs), .ro parts.length (enc eIL parts), .one, .one, .one, .one, .one, .one, .one], 39, 1⟩) rfl rfl, trivial⟩ (sr_same 14 (.v (.int .i64 (0 : Int))) rfl NoI.out (sr_same 11 (.v (.int .u8 (s2 views (k : Int) 0))) rfl NoI.out (sr_same 10 (.v (.int .i64 (whoI parts owners (k : Int)))) rfl NoI.out (sr_same 9 (.v (.int .i64 (partI parts (k : Int)))) rfl NoI.out (sr_same 8 (.v (.int .i64 (k : Int))) rfl NoI.out (sr_map 7 (.sl 1 0 ((ofK parts owners views k).length)) (by first | exact Ok.sl _ _ _ (by first | decide | simp) | exact Ok.pt _ _ (by first | decide | simp)) rfl (sr_same 6 (.v (.slice none 0 0)) rfl NoI.out (sr_map 3 (.pt 2 0) (by first | exact Ok.sl _ _ _ (by first | decide | simp) | exact Ok.pt _ _ (by first | decide | simp)) rfl (sr_same 2 (.ro views.length (enc eV views)) rfl NoI.out (sr_same 1 (.ro owners.length (enc eI owners)) rfl NoI.out sr_none))))))))))) (keep_of rfl)
        refine awp_seq ?_
        refine seqR ?_
        refine opG rfl (aop_move (av := .v (.int .i64 (j : Int))) (.inl rfl) rfl rfl rfl ?_)
        refine opG rfl (aop_move (av := .ro views.length (enc eV views)) (.inl rfl) rfl rfl rfl ?_)
        refine opG rfl (aop_len rfl rfl rfl rfl ut42 (len_ro rfl) ?_)
        refine opG rfl (aop_binI (u := (.bool (decide ((j : Int) < (views.length : Int))))) rfl rfl rfl rfl rfl trivial rfl ?_)
        refine op0 ?_
        show AWP _ _ _ _ _
        refine awp_imp ⟨(upd (upd (upd (upd (upd (upd (upd (upd (upd (upd (upd none_ 1 (.ro owners.length (enc eI owners))) 2 (.ro views.length (enc eV views))) 3 (.pt 2 0)) 6 (.v (.slice none 0 0))) 7 (.sl 1 0 ((ofK parts owners views k).length))) 8 (.v (.int .i64 (k : Int)))) 9 (.v (.int .i64 (partI parts (k : Int))))) 10 (.v (.int .i64 (whoI parts owners (k : Int))))) 11 (.v (.int .u8 (s2 views (k : Int) j)))) 14 (.v (.int .i64 (j : Int)))) 48 (.v (.bool (decide ((j : Int) < (views.length : Int)))))), (updO (updO noOb 1 (.live ⟨(enc eU8 (ofK parts owners views k)), 5, 1⟩)) 2 (.live ⟨[.one, .ro secs.length (enc eSec secs), .ro parts.length (enc eIL parts), .one, .one, .one, .one, .one, .one, .one], 39, 1⟩))⟩ (imp_le ⟨(lee_upd 48 _ rfl (lee_upd 14 _ rfl (lee_upd 11 _ rfl (lee_upd 10 _ rfl (lee_upd 9 _ rfl (lee_upd 8 _ rfl (lee_upd 7 _ rfl (lee_upd 6 _ rfl (lee_upd 3 _ rfl (lee_upd 2 _ rfl (lee_upd 1 _ rfl (lee_none _)))))))))))), fun _ => .inl rfl⟩) ?_
        refine awp_cond (decide ((j : Int) < (views.length : Int))) rfl rfl (fun hc5 => ?_) (fun hc5 => ?_)
        · skip
          have hf7 := of_decide_eq_true hc5
          have hvk := hv _ (getD_mem (l := views) (k := j) dV (by omega))
          refine awp_skip ?_
          show AWP _ _ _ _ _
          refine awp_seq ?_
          refine awp_block ?_
          refine seqR ?_
          refine opG rfl (aop_move (av := .ro views.length (enc eV views)) (.inl rfl) rfl rfl rfl ?_)
          refine opG rfl (aop_move (av := .v (.int .i64 (j : Int))) (.inl rfl) rfl rfl rfl ?_)
          refine opG rfl (aop_ixE dV rfl rfl rfl ut42 sz53 rfl rfl (fun _ => rfl) rfl (by first | omega | (simp; done) | decide | (simp; omega) | (simp at *; omega)) ?_)
          refine opG rfl (aop_fieldAddr (av := .rp (([.v (.int .i64 ((views.getD j dV).id)), .v (.bool ((views.getD j dV).sure)), .ro ((views.getD j dV).span.length) (enc eI ((views.getD j dV).span))] : List AV) ++ ((enc eV views).drop ((j + 1) * 3)))) (av' := .rp (([.ro ((views.getD j dV).span.length) (enc eI ((views.getD j dV).span))] : List AV) ++ ((enc eV views).drop ((j + 1) * 3)))) rfl rfl rfl ft53_2 sz47 rfl rfl rfl ?_)
          refine opG rfl (aop_ld (av := .ro ((views.getD j dV).span.length) (enc eI ((views.getD j dV).span))) rfl rfl rfl ag47 rfl rfl ?_)
          refine opG rfl (aop_move (av := .v (.int .i64 (k : Int))) (.inl rfl) rfl rfl rfl ?_)
          refine opG rfl (call_ (r01_Has ((views.getD j dV).span) (k : Int) (by first | omega | (simp; done) | decide | (simp; omega) | (simp at *; omega))) rfl rfl rfl rfl rfl bd21 rfl ?_)
          refine op0 ?_
          show AWP _ _ _ _ _
          refine awp_imp ⟨(upd (upd (upd (upd (upd (upd (upd (upd (upd (upd (upd none_ 1 (.ro owners.length (enc eI owners))) 2 (.ro views.length (enc eV views))) 3 (.pt 2 0)) 6 (.v (.slice none 0 0))) 7 (.sl 1 0 ((ofK parts owners views k).length))) 8 (.v (.int .i64 (k : Int)))) 9 (.v (.int .i64 (partI parts (k : Int))))) 10 (.v (.int .i64 (whoI parts owners (k : Int))))) 11 (.v (.int .u8 (s2 views (k : Int) j)))) 14 (.v (.int .i64 (j : Int)))) 57 (.v (.bool (decide ((k : Int) ∈ ((views.getD j dV).span)))))), (updO (updO noOb 1 (.live ⟨(enc eU8 (ofK parts owners views k)), 5, 1⟩)) 2 (.live ⟨[.one, .ro secs.length (enc eSec secs), .ro parts.length (enc eIL parts), .one, .one, .one, .one, .one, .one, .one], 39, 1⟩))⟩ (imp_le ⟨(lee_upd 57 _ rfl (lee_upd 14 _ rfl (lee_upd 11 _ rfl (lee_upd 10 _ rfl (lee_upd 9 _ rfl (lee_upd 8 _ rfl (lee_upd 7 _ rfl (lee_upd 6 _ rfl (lee_upd 3 _ rfl (lee_upd 2 _ rfl (lee_upd 1 _ rfl (lee_none _)))))))))))), fun _ => .inl rfl⟩) ?_
          refine awp_cond (decide ((k : Int) ∈ ((views.getD j dV).span))) rfl rfl (fun hc6 => ?_) (fun hc6 => ?_)
          · skip
            refine regR ?_
            refine opG rfl (aop_move (av := .v (.int .u8 2)) (.inr rfl) rfl rfl rfl ?_)
            refine op0 ?_
            show AWP _ _ _ _ _
            refine regR ?_
            refine opG rfl (aop_move (av := .v (.int .i64 (j : Int))) (.inl rfl) rfl rfl rfl ?_)
            refine opG rfl (aop_binI (u := (.int .i64 ((j + 1 : Nat) : Int))) rfl rfl rfl rfl rfl trivial (addN (by omega)) ?_)
            refine opG rfl (aop_move (av := .v (.int .i64 ((j + 1 : Nat) : Int))) (.inr rfl) rfl rfl rfl ?_)
            refine op0 ?_
            show _ ∧ _
            refine ⟨by omega, trivial, ?_⟩
            exact imp_ler [(1, 1), (2, 2)] (lerL [(1, 1), (2, 2)] [((1, 1), .live ⟨(enc eU8 (ofK parts owners views k)), 5, 1⟩), ((2, 2), .live ⟨[.one, .ro secs.length (enc eSec secs), .ro parts.length (enc eIL parts), .one, .one, .one, .one, .one, .one, .one], 39, 1⟩)] rfl (by decide) (by decide) ⟨row_no (o := ⟨(enc eU8 (ofK parts owners views k)), 5, 1⟩) rfl rfl, row_no (o := ⟨[.one, .ro secs.length (enc eSec secs), .ro parts.length (enc eIL parts), .one, .one, .one, .one, .one, .one, .one], 39, 1⟩) rfl rfl, trivial⟩ (sr_same 14 (.v (.int .i64 ((j + 1) : Int))) rfl NoI.out (sr_same 11 (.v (.int .u8 (s2 views (k : Int) (j + 1)))) (by exact congrArg (fun n_ : Int => AV.v (.int .u8 n_)) (s2_on (by omega) hc6)) NoI.out (sr_same 10 (.v (.int .i64 (whoI parts owners (k : Int)))) rfl NoI.out (sr_same 9 (.v (.int .i64 (partI parts (k : Int)))) rfl NoI.out (sr_same 8 (.v (.int .i64 (k : Int))) rfl NoI.out (sr_map 7 (.sl 1 0 ((ofK parts owners views k).length)) (by first | exact Ok.sl _ _ _ (by first | decide | simp) | exact Ok.pt _ _ (by first | decide | simp)) rfl (sr_same 6 (.v (.slice none 0 0)) rfl NoI.out (sr_map 3 (.pt 2 0) (by first | exact Ok.sl _ _ _ (by first | decide | simp) | exact Ok.pt _ _ (by first | decide | simp)) rfl (sr_same 2 (.ro views.length (enc eV views)) rfl NoI.out (sr_same 1 (.ro owners.length (enc eI owners)) rfl NoI.out sr_none))))))))))) (keep_of rfl)
          · skip
            refine awp_skip ?_
            show AWP _ _ _ _ _
            refine regR ?_
            refine opG rfl (aop_move (av := .v (.int .i64 (j : Int))) (.inl rfl) rfl rfl rfl ?_)
            refine opG rfl (aop_binI (u := (.int .i64 ((j + 1 : Nat) : Int))) rfl rfl rfl rfl rfl trivial (addN (by omega)) ?_)
            refine opG rfl (aop_move (av := .v (.int .i64 ((j + 1 : Nat) : Int))) (.inr rfl) rfl rfl rfl ?_)
            refine op0 ?_
            show _ ∧ _
            refine ⟨by omega, trivial, ?_⟩
            exact imp_ler [(1, 1), (2, 2)] (lerL [(1, 1), (2, 2)] [((1, 1), .live ⟨(enc eU8 (ofK parts owners views k)), 5, 1⟩), ((2, 2), .live ⟨[.one, .ro secs.length (enc eSec secs), .ro parts.length (enc eIL parts), .one, .one, .one, .one, .one, .one, .one], 39, 1⟩)] rfl (by decide) (by decide) ⟨row_no (o := ⟨(enc eU8 (ofK parts owners views k)), 5, 1⟩) rfl rfl, row_no (o := ⟨[.one, .ro secs.length (enc eSec secs), .ro parts.length (enc eIL parts), .one, .one, .one, .one, .one, .one, .one], 39, 1⟩) rfl rfl, trivial⟩ (sr_same 14 (.v (.int .i64 ((j + 1) : Int))) rfl NoI.out (sr_same 11 (.v (.int .u8 (s2 views (k : Int) (j + 1)))) (by exact congrArg (fun n_ : Int => AV.v (.int .u8 n_)) (s2_off (by omega) hc6)) NoI.out (sr_same 10 (.v (.int .i64 (whoI parts owners (k : Int)))) rfl NoI.out (sr_same 9 (.v (.int .i64 (partI parts (k : Int)))) rfl NoI.out (sr_same 8 (.v (.int .i64 (k : Int))) rfl NoI.out (sr_map 7 (.sl 1 0 ((ofK parts owners views k).length)) (by first | exact Ok.sl _ _ _ (by first | decide | simp) | exact Ok.pt _ _ (by first | decide | simp)) rfl (sr_same 6 (.v (.slice none 0 0)) rfl NoI.out (sr_map 3 (.pt 2 0) (by first | exact Ok.sl _ _ _ (by first | decide | simp) | exact Ok.pt _ _ (by first | decide | simp)) rfl (sr_same 2 (.ro views.length (enc eV views)) rfl NoI.out (sr_same 1 (.ro owners.length (enc eI owners)) rfl NoI.out sr_none))))))))))) (keep_of rfl)
        · skip
          have hf8 := of_decide_eq_false hc5
          refine awp_exit ?_
          show Imp _ _ _
          exact imp_ler [(1, 1), (2, 2)] (lerL [(1, 1), (2, 2)] [((1, 1), .live ⟨(enc eU8 (ofK parts owners views k)), 5, 1⟩), ((2, 2), .live ⟨[.one, .ro secs.length (enc eSec secs), .ro parts.length (enc eIL parts), .one, .one, .one, .one, .one, .one, .one], 39, 1⟩)] rfl (by decide) (by decide) ⟨row_no (o := ⟨(enc eU8 (ofK parts owners views k)), 5, 1⟩) rfl rfl, row_no (o := ⟨[.one, .ro secs.length (enc eSec secs), .ro parts.length (enc eIL parts), .one, .one, .one, .one, .one, .one, .one], 39, 1⟩) rfl rfl, trivial⟩ (sr_same 11 (.v (.int .u8 (oneS (k : Int) (whoI parts owners (k : Int)) views))) (by exact congrArg (fun n_ : Int => AV.v (.int .u8 n_)) (by first | exact one_of_s1 hw1 hwg | exact one_of_s2 hw1 (by omega))) NoI.out (sr_same 10 (.v (.int .i64 (whoI parts owners (k : Int)))) rfl NoI.out (sr_same 9 (.v (.int .i64 (partI parts (k : Int)))) rfl NoI.out (sr_same 8 (.v (.int .i64 (k : Int))) rfl NoI.out (sr_map 7 (.sl 1 0 ((ofK parts owners views k).length)) (by first | exact Ok.sl _ _ _ (by first | decide | simp) | exact Ok.pt _ _ (by first | decide | simp)) rfl (sr_same 6 (.v (.slice none 0 0)) rfl NoI.out (sr_map 3 (.pt 2 0) (by first | exact Ok.sl _ _ _ (by first | decide | simp) | exact Ok.pt _ _ (by first | decide | simp)) rfl (sr_same 2 (.ro views.length (enc eV views)) rfl NoI.out (sr_same 1 (.ro owners.length (enc eI owners)) rfl NoI.out sr_none)))))))))) (keep_of rfl)
      · skip
        have hf9 := (beq_eq_false_iff_ne).1 hc4
        have hw1 : ¬ whoI parts owners (k : Int) = -1 := by simpa using hc4
        refine awp_skip ?_
        show Imp _ _ _
        exact imp_ler [(1, 1), (2, 2)] (lerL [(1, 1), (2, 2)] [((1, 1), .live ⟨(enc eU8 (ofK parts owners views k)), 5, 1⟩), ((2, 2), .live ⟨[.one, .ro secs.length (enc eSec secs), .ro parts.length (enc eIL parts), .one, .one, .one, .one, .one, .one, .one], 39, 1⟩)] rfl (by decide) (by decide) ⟨row_no (o := ⟨(enc eU8 (ofK parts owners views k)), 5, 1⟩) rfl rfl, row_no (o := ⟨[.one, .ro secs.length (enc eSec secs), .ro parts.length (enc eIL parts), .one, .one, .one, .one, .one, .one, .one], 39, 1⟩) rfl rfl, trivial⟩ (sr_same 11 (.v (.int .u8 (oneS (k : Int) (whoI parts owners (k : Int)) views))) (by exact congrArg (fun n_ : Int => AV.v (.int .u8 n_)) (by first | exact one_of_s1 hw1 hwg | exact one_of_s2 hw1 (by omega))) NoI.out (sr_same 10 (.v (.int .i64 (whoI parts owners (k : Int)))) rfl NoI.out (sr_same 9 (.v (.int .i64 (partI parts (k : Int)))) rfl NoI.out (sr_same 8 (.v (.int .i64 (k : Int))) rfl NoI.out (sr_map 7 (.sl 1 0 ((ofK parts owners views k).length)) (by first | exact Ok.sl _ _ _ (by first | decide | simp) | exact Ok.pt _ _ (by first | decide | simp)) rfl (sr_same 6 (.v (.slice none 0 0)) rfl NoI.out (sr_map 3 (.pt 2 0) (by first | exact Ok.sl _ _ _ (by first | decide | simp) | exact Ok.pt _ _ (by first | decide | simp)) rfl (sr_same 2 (.ro views.length (enc eV views)) rfl NoI.out (sr_same 1 (.ro owners.length (enc eI owners)) rfl NoI.out sr_none)))))))))) (keep_of rfl)
    show AWP _ _ _ _ _
    refine regR ?_
    refine opG rfl (aop_move (av := .sl 1 0 ((ofK parts owners views k).length)) (.inl rfl) rfl rfl rfl ?_)
    refine opG rfl (aop_move (av := .v (.int .u8 (oneS (k : Int) (whoI parts owners (k : Int)) views))) (.inl rfl) rfl rfl rfl ?_)
    refine opG rfl (aop_lit rfl rfl rfl ut26 iz5 (by decide) (by decide) rfl rfl ?_)
    refine opG rfl (aop_app1 (f := eU8) (l := ofK parts owners views k) 54 (oneS (k : Int) (whoI parts owners (k : Int)) views : Int) rfl rfl rfl rfl ut26 in5 rfl (by decide) rfl rfl rfl rfl rfl rfl (fun _ => rfl) rfl rfl (by first | omega | (simp; done) | decide | (simp; omega) | (simp at *; omega)) (by first | omega | (simp; done) | decide | (simp; omega) | (simp at *; omega)) rfl ?_)
    refine opG rfl (aop_move (av := .sl 54 0 (((ofK parts owners views k) ++ [(oneS (k : Int) (whoI parts owners (k : Int)) views : Int)]).length)) (.inr rfl) rfl rfl rfl ?_)
    refine op0 ?_
    show AWP _ _ _ _ _
    refine awp_imp ⟨(upd (upd (upd (upd (upd (upd (upd (upd (upd none_ 1 (.ro owners.length (enc eI owners))) 2 (.ro views.length (enc eV views))) 3 (.pt 2 0)) 6 (.v (.slice none 0 0))) 7 (.sl 54 0 (((ofK parts owners views k) ++ [(oneS (k : Int) (whoI parts owners (k : Int)) views : Int)]).length))) 8 (.v (.int .i64 (k : Int)))) 9 (.v (.int .i64 (partI parts (k : Int))))) 10 (.v (.int .i64 (whoI parts owners (k : Int))))) 11 (.v (.int .u8 (oneS (k : Int) (whoI parts owners (k : Int)) views)))), (updO (updO (updO (updO noOb 1 (.live ⟨(enc eU8 (ofK parts owners views k)), 5, 1⟩)) 2 (.live ⟨[.one, .ro secs.length (enc eSec secs), .ro parts.length (enc eIL parts), .one, .one, .one, .one, .one, .one, .one], 39, 1⟩)) 1 .dead) 54 (.live ⟨(enc eU8 ((ofK parts owners views k) ++ [(oneS (k : Int) (whoI parts owners (k : Int)) views : Int)])), 5, 1⟩))⟩ (imp_le ⟨(lee_upd 11 _ rfl (lee_upd 10 _ rfl (lee_upd 9 _ rfl (lee_upd 8 _ rfl (lee_upd 7 _ rfl (lee_upd 6 _ rfl (lee_upd 3 _ rfl (lee_upd 2 _ rfl (lee_upd 1 _ rfl (lee_none _)))))))))), fun _ => .inl rfl⟩) ?_
    refine regR ?_
    refine opG rfl (aop_move (av := .v (.int .i64 (k : Int))) (.inl rfl) rfl rfl rfl ?_)
    refine opG rfl (aop_binI (u := (.int .i64 ((k + 1 : Nat) : Int))) rfl rfl rfl rfl rfl trivial (addN (by omega)) ?_)
    refine opG rfl (aop_move (av := .v (.int .i64 ((k + 1 : Nat) : Int))) (.inr rfl) rfl rfl rfl ?_)
    refine op0 ?_
    show _ ∧ _
    refine ⟨by omega, trivial, ?_⟩
    exact imp_ler [(54, 1), (2, 2)] (lerL [(54, 1), (2, 2)] [((54, 1), .live ⟨(enc eU8 (ofK parts owners views (k + 1))), 5, 1⟩), ((2, 2), .live ⟨[.one, .ro secs.length (enc eSec secs), .ro parts.length (enc eIL parts), .one, .one, .one, .one, .one, .one, .one], 39, 1⟩)] rfl (by decide) (by decide) ⟨row_no (o := ⟨(enc eU8 ((ofK parts owners views k) ++ [(oneS (k : Int) (whoI parts owners (k : Int)) views : Int)])), 5, 1⟩) rfl (by exact congrArg (fun l_ => LObj.mk (enc eU8 l_) 5 1) rfl), row_no (o := ⟨[.one, .ro secs.length (enc eSec secs), .ro parts.length (enc eIL parts), .one, .one, .one, .one, .one, .one, .one], 39, 1⟩) rfl rfl, trivial⟩ (sr_same 8 (.v (.int .i64 ((k + 1) : Int))) rfl NoI.out (sr_map 7 (.sl 1 0 ((ofK parts owners views (k + 1)).length)) (by first | exact Ok.sl _ _ _ (by first | decide | simp) | exact Ok.pt _ _ (by first | decide | simp)) rfl (sr_same 6 (.v (.slice none 0 0)) rfl NoI.out (sr_map 3 (.pt 2 0) (by first | exact Ok.sl _ _ _ (by first | decide | simp) | exact Ok.pt _ _ (by first | decide | simp)) rfl (sr_same 2 (.ro views.length (enc eV views)) rfl NoI.out (sr_same 1 (.ro owners.length (enc eI owners)) rfl NoI.out sr_none))))))) (keep_of rfl)
  · skip
    have hf10 := of_decide_eq_false hc0
    refine awp_exit ?_
    show AWP _ _ _ _ _
    refine seqR ?_
    refine opG rfl (aop_move (av := .sl 1 0 ((ofK parts owners views k).length)) (.inl rfl) rfl rfl rfl ?_)
    refine opG rfl (aop_move (av := .sl 1 0 ((ofK parts owners views k).length)) (.inr rfl) rfl rfl rfl ?_)
    refine op0 ?_
    show AWP _ _ _ _ _
    refine awp_imp _ (imp_frozen rfl (fun _ h => h) (lee_lend 6 (.ro ((ofK parts owners views k).length) (enc eU8 (ofK parts owners views k))) (lend_s (id := 1) (n := (ofK parts owners views k).length) (o := ⟨(enc eU8 (ofK parts owners views k)), 5, 1⟩) rfl (enc_len (fun _ => rfl) (by first | rfl | (simp; done)))) lee_lend0)) ?_
    refine awp_ret ?_
    exact fret (av := .ro ((ofK parts owners views k).length) (enc eU8 (ofK parts owners views k))) rfl rfl (by rw [show k = secs.length by omega])
end Go.Lo
