/- Walks of Go functions in the logic of values. -/
import Derived.Test.YtmmdkioohjninaaDoorFnHTy
import Derived.Test.YtmmdkioohjninaaDoorDef
import Derived.Test.YtmmdkioohjninaaDoorLay
import Derived.Test.YtmmdkioohjninaaDoorSt
import Derived.Test.YtmmdkioohjninaaDoorFnA
import Derived.Test.YtmmdkioohjninaaDoorFnC
import Derived.Test.YtmmdkioohjninaaDoorFnM
import Derived.Test.YtmmdkioohjninaaDoorFnF
import Derived.Test.YtmmdkioohjninaaDoorFnS
set_option linter.unusedVariables false
set_option linter.unusedSimpArgs false
namespace Go.Lo
open Go.Proofs
set_option maxRecDepth 10000 in
set_option maxHeartbeats 16000000 in
theorem l13_StateChanges (va vb : List Int) (near : Bool) (hva : ∀ x, x ∈ va → 0 ≤ x ∧ x ≤ 255) (hvb : ∀ x, x ∈ vb → 0 ≤ x ∧ x ≤ 255) : Fn Tryd.prog 8 [.ro va.length (enc eU8 va), .ro vb.length (enc eU8 vb), .v (.bool near)] (.v (.bool true)) := by
  refine fnE_of_body (N := 72) Tryd.func8 rfl rfl (resOf1 rfl) (by simp) (fun w0 X hL_ => ?_)
  refine seqR ?_
  refine opG rfl (aop_move (av := .v (.bool false)) (.inr rfl) rfl rfl rfl ?_)
  refine op0 ?_
  show AWP _ _ _ _ _
  refine awp_seq ?_
  refine seqR ?_
  refine opG rfl (call_ (l13_second) rfl rfl rfl rfl rfl bd10 rfl ?_)
  refine opG rfl (aop_not rfl rfl rfl rfl ?_)
  refine opG rfl (aop_move (av := .v (.bool false)) (.inl rfl) rfl rfl rfl ?_)
  refine opY rfl rfl rfl rfl (aop_move (av := .ro va.length (enc eU8 va)) (.inl rfl) rfl rfl rfl ?_)
  refine opY rfl rfl rfl rfl (aop_len rfl rfl rfl rfl ut26 (len_ro rfl) ?_)
  refine opY rfl rfl rfl rfl (aop_binI (u := (.bool (decide ((va.length : Int) > 60)))) rfl rfl rfl rfl rfl trivial rfl ?_)
  refine opG rfl (aop_pick (b := false) (av := .v (.bool (decide ((va.length : Int) > 60)))) rfl rfl rfl rfl rfl ?_)
  refine opG rfl (aop_move (av := .v (.bool (decide ((va.length : Int) > 60)))) (.inl rfl) rfl rfl rfl ?_)
  refine aops_grp 4 22 (.v (.bool ((decide ((va.length : Int) > 60)) || (decide ((vb.length : Int) > 60))))) ?_ ?_
  · rcases Bool.eq_false_or_eq_true (decide ((va.length : Int) > 60)) with hg1 | hg1
    · skip
      have hf2 := of_decide_eq_true hg1
      refine opN rfl rfl rfl rfl (by show yv (.bool (decide ((va.length : Int) > 60))) ≠ _; rw [hg1]; intro h; cases h) rfl rfl ?_
      refine opN rfl rfl rfl rfl (by show yv (.bool (decide ((va.length : Int) > 60))) ≠ _; rw [hg1]; intro h; cases h) rfl rfl ?_
      refine opN rfl rfl rfl rfl (by show yv (.bool (decide ((va.length : Int) > 60))) ≠ _; rw [hg1]; intro h; cases h) rfl rfl ?_
      refine opG rfl (aop_pick (b := (decide ((va.length : Int) > 60))) rfl rfl rfl rfl (by rw [hg1] <;> rfl) ?_)
      refine op0 ?_
      exact imp_env (lee_both 22 _ _ (by rw [hg1] <;> rfl) (lee_out 21 _ rfl (lee_out 20 _ rfl (lee_out 19 _ rfl (lee_same _)))))
    · skip
      have hf3 := of_decide_eq_false hg1
      refine opY rfl rfl rfl (by show AV.v (.bool (decide ((va.length : Int) > 60))) = _; rw [hg1]) (aop_move (av := .ro vb.length (enc eU8 vb)) (.inl rfl) rfl rfl rfl ?_)
      refine opY rfl rfl rfl (by show AV.v (.bool (decide ((va.length : Int) > 60))) = _; rw [hg1]) (aop_len rfl rfl rfl rfl ut26 (len_ro rfl) ?_)
      refine opY rfl rfl rfl (by show AV.v (.bool (decide ((va.length : Int) > 60))) = _; rw [hg1]) (aop_binI (u := (.bool (decide ((vb.length : Int) > 60)))) rfl rfl rfl rfl rfl trivial rfl ?_)
      refine opG rfl (aop_pick (b := (decide ((va.length : Int) > 60))) rfl rfl rfl rfl (by rw [hg1] <;> rfl) ?_)
      refine op0 ?_
      exact imp_env (lee_both 22 _ _ (by rw [hg1] <;> rfl) (lee_out 21 _ rfl (lee_out 20 _ rfl (lee_out 19 _ rfl (lee_same _)))))
  refine op0 ?_
  show AWP _ _ _ _ _
  refine awp_imp ⟨(upd (upd (upd (upd (upd none_ 0 (.ro va.length (enc eU8 va))) 1 (.ro vb.length (enc eU8 vb))) 2 (.v (.bool near))) 6 (.v (.bool false))) 22 (.v (.bool ((decide ((va.length : Int) > 60)) || (decide ((vb.length : Int) > 60)))))), noOb⟩ (imp_le ⟨(lee_upd 22 _ rfl (lee_upd 6 _ rfl (lee_upd 2 _ rfl (lee_upd 1 _ rfl (lee_upd 0 _ rfl (lee_none _)))))), fun _ => .inl rfl⟩) ?_
  refine awp_cond ((decide ((va.length : Int) > 60)) || (decide ((vb.length : Int) > 60))) rfl rfl (fun hc0 => ?_) (fun hc0 => ?_)
  · skip
    refine seqR ?_
    refine opG rfl (call_ (l13_second) rfl rfl rfl rfl rfl bd10 rfl ?_)
    refine opG rfl (aop_move (av := .v (.bool true)) (.inr rfl) rfl rfl rfl ?_)
    refine op0 ?_
    show AWP _ _ _ _ _
    refine awp_ret ?_
    exact fret (av := .v (.bool true)) rfl rfl rfl
  · skip
    obtain ⟨hf4a, hf4b⟩ := or_f hc0
    have hf5 := of_decide_eq_false hf4a
    have hf6 := of_decide_eq_false hf4b
    have hl1 : va.length ≤ 60 := by simp at hc0; omega
    have hl2 : vb.length ≤ 60 := by simp at hc0; omega
    refine awp_skip ?_
    show AWP _ _ _ _ _
    refine seqR ?_
    refine opG rfl (aop_move (av := .ro va.length (enc eU8 va)) (.inl rfl) rfl rfl rfl ?_)
    refine opG rfl (callO_ 51 (r01_Join va ([] : List Int) (by first | omega | (simp; done) | decide | (simp; omega) | (simp at *; omega)) (by first | omega | (simp; done) | decide | (simp; omega) | (simp at *; omega))) rfl rfl rfl rfl rfl bd25 (lends_cons (lend_n (av := .ro va.length (enc eU8 va))) (lends_cons lend_nil lends_nil)) (.sl _ _ _ trivial) (news1 news0) (free1 rfl) rfl rfl ?_)
    refine opG rfl (aop_move (av := .ro vb.length (enc eU8 vb)) (.inl rfl) rfl rfl rfl ?_)
    refine opG rfl (callO_ 52 (r01_Join vb ([] : List Int) (by first | omega | (simp; done) | decide | (simp; omega) | (simp at *; omega)) (by first | omega | (simp; done) | decide | (simp; omega) | (simp at *; omega))) rfl rfl rfl rfl rfl bd25 (lends_cons (lend_n (av := .ro vb.length (enc eU8 vb))) (lends_cons lend_nil lends_nil)) (.sl _ _ _ trivial) (news1 news0) (free1 rfl) rfl rfl ?_)
    refine opG rfl (aop_move (av := .sl 51 0 ((va ++ ([] : List Int)).length)) (.inr rfl) rfl rfl rfl ?_)
    refine opG rfl (aop_move (av := .sl 52 0 ((vb ++ ([] : List Int)).length)) (.inr rfl) rfl rfl rfl ?_)
    refine op0 ?_
    show AWP _ _ _ _ _
    refine awp_imp ⟨(upd (upd (upd (upd none_ 2 (.v (.bool near))) 6 (.v (.bool false))) 7 (.sl 51 0 ((va ++ ([] : List Int)).length))) 8 (.sl 52 0 ((vb ++ ([] : List Int)).length))), (updO (updO noOb 51 (.live ⟨(enc eU8 (va ++ ([] : List Int))), 5, 1⟩)) 52 (.live ⟨(enc eU8 (vb ++ ([] : List Int))), 5, 1⟩))⟩ (imp_le ⟨(lee_upd 8 _ rfl (lee_upd 7 _ rfl (lee_upd 6 _ rfl (lee_upd 2 _ rfl (lee_none _))))), fun _ => .inl rfl⟩) ?_
    refine awp_seq ?_
    refine seqR ?_
    refine opG rfl (aop_move (av := .v (.int .i64 0)) (.inr rfl) rfl rfl rfl ?_)
    refine op0 ?_
    show AWP _ _ _ _ _
    refine awp_block ?_
    refine awp_countI (fun i => ⟨(upd (upd (upd (upd (upd none_ 2 (.v (.bool near))) 6 (.v (.bool false))) 7 (.sl 1 0 va.length)) 8 (.sl 2 0 vb.length)) 9 (.v (.int .i64 (i : Int)))), (updO (updO noOb 1 (.live ⟨(enc eU8 (mod4 va i)), 5, 1⟩)) 2 (.live ⟨(enc eU8 vb), 5, 1⟩))⟩) (fun i => True) (va.length) ?_ trivial (fun i hk_i hinv => ?_)
    · skip
      exact imp_ler [(51, 1), (52, 2)] (ler2 51 1 52 2 _ _ _ _ (by decide) (by decide) rfl rfl (by exact congrArg (fun l_ => LObj.mk (enc eU8 l_) 5 1) (by simp [mod4])) (by exact congrArg (fun l_ => LObj.mk (enc eU8 l_) 5 1) (by simp)) (NoIL.out (l := (enc eU8 (va ++ ([] : List Int))))) (NoIL.out (l := (enc eU8 (vb ++ ([] : List Int))))) (sr_same 9 (.v (.int .i64 (0 : Int))) rfl NoI.out (sr_map 8 (.sl 2 0 vb.length) (by first | exact Ok.sl _ _ _ (by first | decide | simp) | exact Ok.pt _ _ (by first | decide | simp)) (by exact congrArg (AV.sl 2 0) (by simp)) (sr_map 7 (.sl 1 0 va.length) (by first | exact Ok.sl _ _ _ (by first | decide | simp) | exact Ok.pt _ _ (by first | decide | simp)) (by exact congrArg (AV.sl 1 0) (by simp)) (sr_same 6 (.v (.bool false)) rfl NoI.out (sr_same 2 (.v (.bool near)) rfl NoI.out sr_none)))))) (keep_of rfl)
    have hm_ := mod4_len va i
    refine awp_seq ?_
    refine seqR ?_
    refine opG rfl (aop_move (av := .v (.int .i64 (i : Int))) (.inl rfl) rfl rfl rfl ?_)
    refine opG rfl (aop_move (av := .sl 1 0 va.length) (.inl rfl) rfl rfl rfl ?_)
    refine opG rfl (aop_len rfl rfl rfl rfl ut26 (len_sl rfl) ?_)
    refine opG rfl (aop_binI (u := (.bool (decide ((i : Int) < (va.length : Int))))) rfl rfl rfl rfl rfl trivial rfl ?_)
    refine opG rfl (aop_move (av := .v (.bool (decide ((i : Int) < (va.length : Int))))) (.inl rfl) rfl rfl rfl ?_)
    refine aops_grp 2 34 (.v (.bool ((decide ((i : Int) < (va.length : Int))) && near))) ?_ ?_
    · rcases Bool.eq_false_or_eq_true (decide ((i : Int) < (va.length : Int))) with hg7 | hg7
      · skip
        have hf8 := of_decide_eq_true hg7
        refine opY rfl rfl rfl (by show AV.v (.bool (decide ((i : Int) < (va.length : Int)))) = _; rw [hg7]) (aop_move (av := .v (.bool near)) (.inl rfl) rfl rfl rfl ?_)
        refine opG rfl (aop_pick (b := (decide ((i : Int) < (va.length : Int)))) rfl rfl rfl rfl (by rw [hg7] <;> rfl) ?_)
        refine op0 ?_
        exact imp_env (lee_both 34 _ _ (by rw [hg7] <;> rfl) (lee_out 33 _ rfl (lee_same _)))
      · skip
        have hf9 := of_decide_eq_false hg7
        refine opN rfl rfl rfl rfl (by show yv (.bool (decide ((i : Int) < (va.length : Int)))) ≠ _; rw [hg7]; intro h; cases h) rfl rfl ?_
        refine opG rfl (aop_pick (b := (decide ((i : Int) < (va.length : Int)))) rfl rfl rfl rfl (by rw [hg7] <;> rfl) ?_)
        refine op0 ?_
        exact imp_env (lee_both 34 _ _ (by rw [hg7] <;> rfl) (lee_out 33 _ rfl (lee_same _)))
    refine op0 ?_
    show AWP _ _ _ _ _
    refine awp_imp ⟨(upd (upd (upd (upd (upd (upd none_ 2 (.v (.bool near))) 6 (.v (.bool false))) 7 (.sl 1 0 va.length)) 8 (.sl 2 0 vb.length)) 9 (.v (.int .i64 (i : Int)))) 34 (.v (.bool ((decide ((i : Int) < (va.length : Int))) && near)))), (updO (updO noOb 1 (.live ⟨(enc eU8 (mod4 va i)), 5, 1⟩)) 2 (.live ⟨(enc eU8 vb), 5, 1⟩))⟩ (imp_le ⟨(lee_upd 34 _ rfl (lee_upd 9 _ rfl (lee_upd 8 _ rfl (lee_upd 7 _ rfl (lee_upd 6 _ rfl (lee_upd 2 _ rfl (lee_none _))))))), fun _ => .inl rfl⟩) ?_
    refine awp_cond ((decide ((i : Int) < (va.length : Int))) && near) rfl rfl (fun hc1 => ?_) (fun hc1 => ?_)
    · skip
      obtain ⟨hf10a, hf10b⟩ := and_t hc1
      have hf11 := of_decide_eq_true hf10a
      have hkv : i < va.length := by simp at hc1; omega
      have hge := hva _ (getD_mem (l := va) (k := i) 0 hkv)
      have hmg := mod4_get hkv
      refine awp_skip ?_
      show AWP _ _ _ _ _
      refine awp_seq ?_
      refine awp_block ?_
      refine regR ?_
      refine opG rfl (aop_move (av := .sl 1 0 va.length) (.inl rfl) rfl rfl rfl ?_)
      refine opG rfl (aop_move (av := .v (.int .i64 (i : Int))) (.inl rfl) rfl rfl rfl ?_)
      refine opG rfl (aop_ixO (k := i) rfl rfl rfl ut26 sz5 rfl rfl (by first | omega | (simp; done) | decide | (simp; omega) | (simp at *; omega)) ?_)
      refine opG rfl (aop_ldO (f := eU8) (l := mod4 va i) 0 rfl rfl rfl ag5 rfl rfl rfl (fun _ => rfl) (by first | omega | (simp; done) | decide | (simp; omega) | (simp at *; omega)) rfl ?_)
      refine opG rfl (aop_binI (u := (.int .u8 (((mod4 va i).getD i 0) % 4))) rfl rfl rfl rfl rfl (by show _ ≠ _; decide) (remI (by omega)) ?_)
      refine opG rfl (aop_ixO (k := i) rfl rfl rfl ut26 sz5 rfl rfl (by first | omega | (simp; done) | decide | (simp; omega) | (simp at *; omega)) ?_)
      refine opG rfl (aop_storeE (f := eU8) (l := mod4 va i) (l' := (mod4 va i).set i (((mod4 va i).getD i 0) % 4 : Int)) (((mod4 va i).getD i 0) % 4 : Int) rfl rfl rfl sz5 rfl rfl rfl rfl rfl (fun _ => rfl) (by first | omega | (simp; done) | decide | (simp; omega) | (simp at *; omega)) rfl rfl ?_)
      refine op0 ?_
      show AWP _ _ _ _ _
      refine awp_imp ⟨(upd (upd (upd (upd (upd none_ 2 (.v (.bool near))) 6 (.v (.bool false))) 7 (.sl 1 0 va.length)) 8 (.sl 2 0 vb.length)) 9 (.v (.int .i64 (i : Int)))), (updO (updO (updO noOb 1 (.live ⟨(enc eU8 (mod4 va i)), 5, 1⟩)) 2 (.live ⟨(enc eU8 vb), 5, 1⟩)) 1 (.live ⟨(enc eU8 ((mod4 va i).set i (((mod4 va i).getD i 0) % 4 : Int))), 5, 1⟩))⟩ (imp_le ⟨(lee_upd 9 _ rfl (lee_upd 8 _ rfl (lee_upd 7 _ rfl (lee_upd 6 _ rfl (lee_upd 2 _ rfl (lee_none _)))))), fun _ => .inl rfl⟩) ?_
      refine regR ?_
      refine opG rfl (aop_move (av := .v (.int .i64 (i : Int))) (.inl rfl) rfl rfl rfl ?_)
      refine opG rfl (aop_binI (u := (.int .i64 ((i + 1 : Nat) : Int))) rfl rfl rfl rfl rfl trivial (addN (by omega)) ?_)
      refine opG rfl (aop_move (av := .v (.int .i64 ((i + 1 : Nat) : Int))) (.inr rfl) rfl rfl rfl ?_)
      refine op0 ?_
      show _ ∧ _
      refine ⟨by omega, trivial, ?_⟩
      exact imp_ler [(1, 1), (2, 2)] (ler2 1 1 2 2 _ _ _ _ (by decide) (by decide) rfl rfl (by exact congrArg (fun l_ => LObj.mk (enc eU8 l_) 5 1) (mod4_step (by omega))) rfl (NoIL.out (l := (enc eU8 ((mod4 va i).set i (((mod4 va i).getD i 0) % 4 : Int))))) (NoIL.out (l := (enc eU8 vb))) (sr_same 9 (.v (.int .i64 ((i + 1) : Int))) rfl NoI.out (sr_map 8 (.sl 2 0 vb.length) (by first | exact Ok.sl _ _ _ (by first | decide | simp) | exact Ok.pt _ _ (by first | decide | simp)) rfl (sr_map 7 (.sl 1 0 va.length) (by first | exact Ok.sl _ _ _ (by first | decide | simp) | exact Ok.pt _ _ (by first | decide | simp)) rfl (sr_same 6 (.v (.bool false)) rfl NoI.out (sr_same 2 (.v (.bool near)) rfl NoI.out sr_none)))))) (keep_of rfl)
    · skip
      refine awp_exit ?_
      show AWP _ _ _ _ _
      refine awp_seq ?_
      refine seqR ?_
      refine opG rfl (aop_move (av := .v (.int .i64 0)) (.inr rfl) rfl rfl rfl ?_)
      refine op0 ?_
      show AWP _ _ _ _ _
      refine awp_block ?_
      refine awp_countI (fun j => ⟨(upd (upd (upd (upd (upd none_ 2 (.v (.bool near))) 6 (.v (.bool false))) 7 (.sl 2 0 va.length)) 8 (.sl 1 0 vb.length)) 10 (.v (.int .i64 (j : Int)))), (updO (updO noOb 1 (.live ⟨(enc eU8 (mod4 vb j)), 5, 1⟩)) 2 (.live ⟨(enc eU8 (mod4 va i)), 5, 1⟩))⟩) (fun j => True) (vb.length) ?_ trivial (fun j hk_j hinv => ?_)
      · skip
        exact imp_ler [(2, 1), (1, 2)] (lerL [(2, 1), (1, 2)] [((2, 1), .live ⟨(enc eU8 (mod4 vb 0)), 5, 1⟩), ((1, 2), .live ⟨(enc eU8 (mod4 va i)), 5, 1⟩)] rfl (by decide) (by decide) ⟨row_no (o := ⟨(enc eU8 vb), 5, 1⟩) rfl (by exact congrArg (fun l_ => LObj.mk (enc eU8 l_) 5 1) (by simp [mod4])), row_no (o := ⟨(enc eU8 (mod4 va i)), 5, 1⟩) rfl (by exact congrArg (fun l_ => LObj.mk (enc eU8 l_) 5 1) rfl), trivial⟩ (sr_same 10 (.v (.int .i64 (0 : Int))) rfl NoI.out (sr_map 8 (.sl 1 0 vb.length) (by first | exact Ok.sl _ _ _ (by first | decide | simp) | exact Ok.pt _ _ (by first | decide | simp)) rfl (sr_map 7 (.sl 2 0 va.length) (by first | exact Ok.sl _ _ _ (by first | decide | simp) | exact Ok.pt _ _ (by first | decide | simp)) rfl (sr_same 6 (.v (.bool false)) rfl NoI.out (sr_same 2 (.v (.bool near)) rfl NoI.out sr_none)))))) (keep_of rfl)
      have hm_ := mod4_len vb j
      refine awp_seq ?_
      refine seqR ?_
      refine opG rfl (aop_move (av := .v (.int .i64 (j : Int))) (.inl rfl) rfl rfl rfl ?_)
      refine opG rfl (aop_move (av := .sl 1 0 vb.length) (.inl rfl) rfl rfl rfl ?_)
      refine opG rfl (aop_len rfl rfl rfl rfl ut26 (len_sl rfl) ?_)
      refine opG rfl (aop_binI (u := (.bool (decide ((j : Int) < (vb.length : Int))))) rfl rfl rfl rfl rfl trivial rfl ?_)
      refine opG rfl (aop_move (av := .v (.bool (decide ((j : Int) < (vb.length : Int))))) (.inl rfl) rfl rfl rfl ?_)
      refine aops_grp 2 49 (.v (.bool ((decide ((j : Int) < (vb.length : Int))) && near))) ?_ ?_
      · rcases Bool.eq_false_or_eq_true (decide ((j : Int) < (vb.length : Int))) with hg12 | hg12
        · skip
          have hf13 := of_decide_eq_true hg12
          refine opY rfl rfl rfl (by show AV.v (.bool (decide ((j : Int) < (vb.length : Int)))) = _; rw [hg12]) (aop_move (av := .v (.bool near)) (.inl rfl) rfl rfl rfl ?_)
          refine opG rfl (aop_pick (b := (decide ((j : Int) < (vb.length : Int)))) rfl rfl rfl rfl (by rw [hg12] <;> rfl) ?_)
          refine op0 ?_
          exact imp_env (lee_both 49 _ _ (by rw [hg12] <;> rfl) (lee_out 48 _ rfl (lee_same _)))
        · skip
          have hf14 := of_decide_eq_false hg12
          refine opN rfl rfl rfl rfl (by show yv (.bool (decide ((j : Int) < (vb.length : Int)))) ≠ _; rw [hg12]; intro h; cases h) rfl rfl ?_
          refine opG rfl (aop_pick (b := (decide ((j : Int) < (vb.length : Int)))) rfl rfl rfl rfl (by rw [hg12] <;> rfl) ?_)
          refine op0 ?_
          exact imp_env (lee_both 49 _ _ (by rw [hg12] <;> rfl) (lee_out 48 _ rfl (lee_same _)))
      refine op0 ?_
      show AWP _ _ _ _ _
      refine awp_imp ⟨(upd (upd (upd (upd (upd (upd none_ 2 (.v (.bool near))) 6 (.v (.bool false))) 7 (.sl 2 0 va.length)) 8 (.sl 1 0 vb.length)) 10 (.v (.int .i64 (j : Int)))) 49 (.v (.bool ((decide ((j : Int) < (vb.length : Int))) && near)))), (updO (updO noOb 1 (.live ⟨(enc eU8 (mod4 vb j)), 5, 1⟩)) 2 (.live ⟨(enc eU8 (mod4 va i)), 5, 1⟩))⟩ (imp_le ⟨(lee_upd 49 _ rfl (lee_upd 10 _ rfl (lee_upd 8 _ rfl (lee_upd 7 _ rfl (lee_upd 6 _ rfl (lee_upd 2 _ rfl (lee_none _))))))), fun _ => .inl rfl⟩) ?_
      refine awp_cond ((decide ((j : Int) < (vb.length : Int))) && near) rfl rfl (fun hc2 => ?_) (fun hc2 => ?_)
      · skip
        obtain ⟨hf15a, hf15b⟩ := and_t hc2
        have hf16 := of_decide_eq_true hf15a
        have hkv : j < vb.length := by simp at hc2; omega
        have hge := hvb _ (getD_mem (l := vb) (k := j) 0 hkv)
        have hmg := mod4_get hkv
        refine awp_skip ?_
        show AWP _ _ _ _ _
        refine awp_seq ?_
        refine awp_block ?_
        refine regR ?_
        refine opG rfl (aop_move (av := .sl 1 0 vb.length) (.inl rfl) rfl rfl rfl ?_)
        refine opG rfl (aop_move (av := .v (.int .i64 (j : Int))) (.inl rfl) rfl rfl rfl ?_)
        refine opG rfl (aop_ixO (k := j) rfl rfl rfl ut26 sz5 rfl rfl (by first | omega | (simp; done) | decide | (simp; omega) | (simp at *; omega)) ?_)
        refine opG rfl (aop_ldO (f := eU8) (l := mod4 vb j) 0 rfl rfl rfl ag5 rfl rfl rfl (fun _ => rfl) (by first | omega | (simp; done) | decide | (simp; omega) | (simp at *; omega)) rfl ?_)
        refine opG rfl (aop_binI (u := (.int .u8 (((mod4 vb j).getD j 0) % 4))) rfl rfl rfl rfl rfl (by show _ ≠ _; decide) (remI (by omega)) ?_)
        refine opG rfl (aop_ixO (k := j) rfl rfl rfl ut26 sz5 rfl rfl (by first | omega | (simp; done) | decide | (simp; omega) | (simp at *; omega)) ?_)
        refine opG rfl (aop_storeE (f := eU8) (l := mod4 vb j) (l' := (mod4 vb j).set j (((mod4 vb j).getD j 0) % 4 : Int)) (((mod4 vb j).getD j 0) % 4 : Int) rfl rfl rfl sz5 rfl rfl rfl rfl rfl (fun _ => rfl) (by first | omega | (simp; done) | decide | (simp; omega) | (simp at *; omega)) rfl rfl ?_)
        refine op0 ?_
        show AWP _ _ _ _ _
        refine awp_imp ⟨(upd (upd (upd (upd (upd none_ 2 (.v (.bool near))) 6 (.v (.bool false))) 7 (.sl 2 0 va.length)) 8 (.sl 1 0 vb.length)) 10 (.v (.int .i64 (j : Int)))), (updO (updO (updO noOb 1 (.live ⟨(enc eU8 (mod4 vb j)), 5, 1⟩)) 2 (.live ⟨(enc eU8 (mod4 va i)), 5, 1⟩)) 1 (.live ⟨(enc eU8 ((mod4 vb j).set j (((mod4 vb j).getD j 0) % 4 : Int))), 5, 1⟩))⟩ (imp_le ⟨(lee_upd 10 _ rfl (lee_upd 8 _ rfl (lee_upd 7 _ rfl (lee_upd 6 _ rfl (lee_upd 2 _ rfl (lee_none _)))))), fun _ => .inl rfl⟩) ?_
        refine regR ?_
        refine opG rfl (aop_move (av := .v (.int .i64 (j : Int))) (.inl rfl) rfl rfl rfl ?_)
        refine opG rfl (aop_binI (u := (.int .i64 ((j + 1 : Nat) : Int))) rfl rfl rfl rfl rfl trivial (addN (by omega)) ?_)
        refine opG rfl (aop_move (av := .v (.int .i64 ((j + 1 : Nat) : Int))) (.inr rfl) rfl rfl rfl ?_)
        refine op0 ?_
        show _ ∧ _
        refine ⟨by omega, trivial, ?_⟩
        exact imp_ler [(1, 1), (2, 2)] (lerL [(1, 1), (2, 2)] [((1, 1), .live ⟨(enc eU8 (mod4 vb (j + 1))), 5, 1⟩), ((2, 2), .live ⟨(enc eU8 (mod4 va i)), 5, 1⟩)] rfl (by decide) (by decide) ⟨row_no (o := ⟨(enc eU8 ((mod4 vb j).set j (((mod4 vb j).getD j 0) % 4 : Int))), 5, 1⟩) rfl (by exact congrArg (fun l_ => LObj.mk (enc eU8 l_) 5 1) (mod4_step (by omega))), row_no (o := ⟨(enc eU8 (mod4 va i)), 5, 1⟩) rfl rfl, trivial⟩ (sr_same 10 (.v (.int .i64 ((j + 1) : Int))) rfl NoI.out (sr_map 8 (.sl 1 0 vb.length) (by first | exact Ok.sl _ _ _ (by first | decide | simp) | exact Ok.pt _ _ (by first | decide | simp)) rfl (sr_map 7 (.sl 2 0 va.length) (by first | exact Ok.sl _ _ _ (by first | decide | simp) | exact Ok.pt _ _ (by first | decide | simp)) rfl (sr_same 6 (.v (.bool false)) rfl NoI.out (sr_same 2 (.v (.bool near)) rfl NoI.out sr_none)))))) (keep_of rfl)
      · skip
        refine awp_exit ?_
        show AWP _ _ _ _ _
        have h1_ := mod4_len va i
        have h2_ := mod4_len vb j
        have hxb := mod4_b (k := i) hva
        have hyb := mod4_b (k := j) hvb
        have hcl := chgL_len (mod4 va i) (mod4 vb j)
        refine awp_imp ⟨(upd (upd (upd (upd (upd (upd none_ 2 (.v (.bool near))) 6 (.v (.bool false))) 7 (.ro ((mod4 va i).length) (enc eU8 (mod4 va i)))) 8 (.ro ((mod4 vb j).length) (enc eU8 (mod4 vb j)))) 10 (.v (.int .i64 (j : Int)))) 49 (.v (.bool ((decide ((j : Int) < (vb.length : Int))) && near)))), noOb⟩ ?_ ?_
        · skip
          refine (frz_ [] [] rfl (fun _ h => h) trivial (fz_same 49 (.v (.bool ((decide ((j : Int) < (vb.length : Int))) && near))) rfl (fz_same 10 (.v (.int .i64 (j : Int))) rfl (fz_lend 8 (.ro vb.length (enc eU8 (mod4 vb j))) (lend_s (id := 1) (n := vb.length) (o := ⟨(enc eU8 (mod4 vb j)), 5, 1⟩) rfl (enc_len (fun _ => rfl) (mod4_len vb j).symm)) (fz_lend 7 (.ro va.length (enc eU8 (mod4 va i))) (lend_s (id := 2) (n := va.length) (o := ⟨(enc eU8 (mod4 va i)), 5, 1⟩) rfl (enc_len (fun _ => rfl) (mod4_len va i).symm)) (fz_same 6 (.v (.bool false)) rfl (fz_same 2 (.v (.bool near)) rfl fz_none))))))).trans ?_
          exact imp_ler [] (ler0 (sr_same 49 (.v (.bool ((decide ((j : Int) < (vb.length : Int))) && near))) rfl NoI.out (sr_same 10 (.v (.int .i64 (j : Int))) rfl NoI.out (sr_same 8 (.ro ((mod4 vb j).length) (enc eU8 (mod4 vb j))) (by exact congrArg (fun n_ => AV.ro n_ (enc eU8 (mod4 vb j))) (mod4_len vb j).symm) NoI.out (sr_same 7 (.ro ((mod4 va i).length) (enc eU8 (mod4 va i))) (by exact congrArg (fun n_ => AV.ro n_ (enc eU8 (mod4 va i))) (mod4_len va i).symm) NoI.out (sr_same 6 (.v (.bool false)) rfl NoI.out (sr_same 2 (.v (.bool near)) rfl NoI.out sr_none))))))) (keep_of rfl)
        refine seqR ?_
        refine opG rfl (aop_move (av := .ro ((mod4 va i).length) (enc eU8 (mod4 va i))) (.inl rfl) rfl rfl rfl ?_)
        refine opG rfl (aop_move (av := .ro ((mod4 vb j).length) (enc eU8 (mod4 vb j))) (.inl rfl) rfl rfl rfl ?_)
        refine opG rfl (call_ (s_Changes (mod4 va i) (mod4 vb j) (by omega) (by omega) hxb hyb) rfl rfl rfl rfl rfl bd27 rfl ?_)
        refine opG rfl (aop_move (av := .ro ((mod4 va i).length) (enc eU8 (mod4 va i))) (.inl rfl) rfl rfl rfl ?_)
        refine opG rfl (aop_move (av := .ro ((mod4 vb j).length) (enc eU8 (mod4 vb j))) (.inl rfl) rfl rfl rfl ?_)
        refine opG rfl (call_ (r13_Changes (mod4 va i) (mod4 vb j) (by omega) (by omega) hxb hyb) rfl rfl rfl rfl rfl bd28 rfl ?_)
        refine opG rfl (call_ (r13_Same (chgL (mod4 va i) (mod4 vb j)) (chgL (mod4 va i) (mod4 vb j)) (by omega)) rfl rfl rfl rfl rfl bd26 rfl ?_)
        refine opG rfl (aop_move (av := .v (.bool (decide ((chgL (mod4 va i) (mod4 vb j)) = (chgL (mod4 va i) (mod4 vb j)))))) (.inl rfl) rfl rfl rfl ?_)
        refine aops_grp 6 71 (.v (.bool ((decide ((chgL (mod4 va i) (mod4 vb j)) = (chgL (mod4 va i) (mod4 vb j)))) && ((([] : List Chg).length : Int) == 0)))) ?_ ?_
        · rcases Bool.eq_false_or_eq_true (decide ((chgL (mod4 va i) (mod4 vb j)) = (chgL (mod4 va i) (mod4 vb j)))) with hg17 | hg17
          · skip
            refine opY rfl rfl rfl (by show AV.v (.bool (decide ((chgL (mod4 va i) (mod4 vb j)) = (chgL (mod4 va i) (mod4 vb j))))) = _; rw [hg17]) (aop_move (av := .ro ((mod4 va i).length) (enc eU8 (mod4 va i))) (.inl rfl) rfl rfl rfl ?_)
            refine opY rfl rfl rfl (by show AV.v (.bool (decide ((chgL (mod4 va i) (mod4 vb j)) = (chgL (mod4 va i) (mod4 vb j))))) = _; rw [hg17]) (aop_move (av := .ro ((mod4 va i).length) (enc eU8 (mod4 va i))) (.inl rfl) rfl rfl rfl ?_)
            refine opY rfl rfl rfl (by show AV.v (.bool (decide ((chgL (mod4 va i) (mod4 vb j)) = (chgL (mod4 va i) (mod4 vb j))))) = _; rw [hg17]) (call_ (show Fn Tryd.prog 27 [.ro ((mod4 va i).length) (enc eU8 (mod4 va i)), .ro ((mod4 va i).length) (enc eU8 (mod4 va i))] (.ro (([] : List Chg).length) (enc eCh ([] : List Chg))) from (by have h_ := (s_Changes (mod4 va i) (mod4 va i) (by omega) (by omega) hxb hxb); rw [chg_same hxb] at h_; exact h_)) rfl rfl rfl rfl rfl bd27 rfl ?_)
            refine opY rfl rfl rfl (by show AV.v (.bool (decide ((chgL (mod4 va i) (mod4 vb j)) = (chgL (mod4 va i) (mod4 vb j))))) = _; rw [hg17]) (aop_len rfl rfl rfl rfl ut64 (len_ro rfl) ?_)
            refine opY rfl rfl rfl (by show AV.v (.bool (decide ((chgL (mod4 va i) (mod4 vb j)) = (chgL (mod4 va i) (mod4 vb j))))) = _; rw [hg17]) (aop_binI (u := (.bool ((([] : List Chg).length : Int) == 0))) rfl rfl rfl rfl rfl trivial rfl ?_)
            refine opG rfl (aop_pick (b := (decide ((chgL (mod4 va i) (mod4 vb j)) = (chgL (mod4 va i) (mod4 vb j))))) rfl rfl rfl rfl (by rw [hg17] <;> rfl) ?_)
            refine op0 ?_
            exact imp_env (lee_both 71 _ _ (by rw [hg17] <;> rfl) (lee_out 70 _ rfl (lee_out 69 _ rfl (lee_out 68 _ rfl (lee_out 67 _ rfl (lee_out 66 _ rfl (lee_same _)))))))
          · skip
            refine opN rfl rfl rfl rfl (by show yv (.bool (decide ((chgL (mod4 va i) (mod4 vb j)) = (chgL (mod4 va i) (mod4 vb j))))) ≠ _; rw [hg17]; intro h; cases h) rfl rfl ?_
            refine opN rfl rfl rfl rfl (by show yv (.bool (decide ((chgL (mod4 va i) (mod4 vb j)) = (chgL (mod4 va i) (mod4 vb j))))) ≠ _; rw [hg17]; intro h; cases h) rfl rfl ?_
            refine opN rfl rfl rfl rfl (by show yv (.bool (decide ((chgL (mod4 va i) (mod4 vb j)) = (chgL (mod4 va i) (mod4 vb j))))) ≠ _; rw [hg17]; intro h; cases h) rfl rfl ?_
            refine opN rfl rfl rfl rfl (by show yv (.bool (decide ((chgL (mod4 va i) (mod4 vb j)) = (chgL (mod4 va i) (mod4 vb j))))) ≠ _; rw [hg17]; intro h; cases h) rfl rfl ?_
            refine opN rfl rfl rfl rfl (by show yv (.bool (decide ((chgL (mod4 va i) (mod4 vb j)) = (chgL (mod4 va i) (mod4 vb j))))) ≠ _; rw [hg17]; intro h; cases h) rfl rfl ?_
            refine opG rfl (aop_pick (b := (decide ((chgL (mod4 va i) (mod4 vb j)) = (chgL (mod4 va i) (mod4 vb j))))) rfl rfl rfl rfl (by rw [hg17] <;> rfl) ?_)
            refine op0 ?_
            exact imp_env (lee_both 71 _ _ (by rw [hg17] <;> rfl) (lee_out 70 _ rfl (lee_out 69 _ rfl (lee_out 68 _ rfl (lee_out 67 _ rfl (lee_out 66 _ rfl (lee_same _)))))))
        refine opG rfl (aop_move (av := .v (.bool ((decide ((chgL (mod4 va i) (mod4 vb j)) = (chgL (mod4 va i) (mod4 vb j)))) && ((([] : List Chg).length : Int) == 0)))) (.inr rfl) rfl rfl rfl ?_)
        refine op0 ?_
        show AWP _ _ _ _ _
        refine awp_imp ⟨(upd none_ 6 (.v (.bool ((decide ((chgL (mod4 va i) (mod4 vb j)) = (chgL (mod4 va i) (mod4 vb j)))) && ((([] : List Chg).length : Int) == 0))))), noOb⟩ (imp_le ⟨(lee_upd 6 _ rfl (lee_none _)), fun _ => .inl rfl⟩) ?_
        refine awp_ret ?_
        exact fret (av := .v (.bool ((decide ((chgL (mod4 va i) (mod4 vb j)) = (chgL (mod4 va i) (mod4 vb j)))) && ((([] : List Chg).length : Int) == 0)))) rfl rfl (by simp)
end Go.Lo
