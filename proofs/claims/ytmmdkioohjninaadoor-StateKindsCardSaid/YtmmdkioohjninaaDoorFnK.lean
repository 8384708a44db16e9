/- Walks of Go functions in the logic of values. -/
import Derived.Test.YtmmdkioohjninaaDoorFnKTy
import Derived.Test.YtmmdkioohjninaaDoorDef
import Derived.Test.YtmmdkioohjninaaDoorLay
import Derived.Test.YtmmdkioohjninaaDoorSt
import Derived.Test.YtmmdkioohjninaaDoorSv
import Derived.Test.YtmmdkioohjninaaDoorSk
import Derived.Test.YtmmdkioohjninaaDoorFnA
import Derived.Test.YtmmdkioohjninaaDoorFnC
import Derived.Test.YtmmdkioohjninaaDoorFnM
import Derived.Test.YtmmdkioohjninaaDoorFnF
import Derived.Test.YtmmdkioohjninaaDoorFnS
import Derived.Test.YtmmdkioohjninaaDoorFnV
set_option linter.unusedVariables false
set_option linter.unusedSimpArgs false
namespace Go.Lo
open Go.Proofs
set_option maxRecDepth 10000 in
set_option maxHeartbeats 16000000 in
theorem l13_StateKinds (a b : Int) (ha : 0 ≤ a ∧ a ≤ 255) (hb : 0 ≤ b ∧ b ≤ 255) : Fn Tryd.prog 5 [.v (.int .u8 a), .v (.int .u8 b)] (.v (.bool true)) := by
  refine fnE_of_body (N := 67) Tryd.func5 rfl rfl (resOf1 rfl) (by simp) (fun w0 X hL_ => ?_)
  refine seqR ?_
  refine opG rfl (aop_move (av := .v (.bool false)) (.inr rfl) rfl rfl rfl ?_)
  refine op0 ?_
  show AWP _ _ _ _ _
  refine seqR ?_
  refine opG rfl (aop_alloc 51 rfl rfl rfl rfl ze57 rfl ?_)
  refine op0 ?_
  show AWP _ _ _ _ _
  refine awp_seq ?_
  refine seqR ?_
  refine opG rfl (aop_move (av := .v (.int .u8 0)) (.inr rfl) rfl rfl rfl ?_)
  refine op0 ?_
  show AWP _ _ _ _ _
  refine awp_block ?_
  refine awp_countI (fun i => ⟨(upd (upd (upd (upd (upd none_ 0 (.v (.int .u8 a))) 1 (.v (.int .u8 b))) 4 (.v (.bool false))) 5 (.pt 1 0)) 6 (.v (.int .u8 (i : Int)))), (updO noOb 1 (.live ⟨(enc eI (seenK (4 * i))), 57, 1⟩))⟩) (fun i => True) (4) ?_ trivial (fun i hk_i hinv => ?_)
  · skip
    exact imp_ler [(51, 1)] (ler1 51 1 _ _ rfl rfl (NoIL.out (l := [.v (.int .i64 0), .v (.int .i64 0), .v (.int .i64 0), .v (.int .i64 0), .v (.int .i64 0), .v (.int .i64 0), .v (.int .i64 0), .v (.int .i64 0), .v (.int .i64 0), .v (.int .i64 0), .v (.int .i64 0), .v (.int .i64 0), .v (.int .i64 0)])) (sr_same 6 (.v (.int .u8 (0 : Int))) rfl NoI.out (sr_map 5 (.pt 1 0) (by first | exact Ok.sl _ _ _ (by first | decide | simp) | exact Ok.pt _ _ (by first | decide | simp)) rfl (sr_same 4 (.v (.bool false)) rfl NoI.out (sr_same 1 (.v (.int .u8 b)) rfl NoI.out (sr_same 0 (.v (.int .u8 a)) rfl NoI.out sr_none)))))) (keep_of rfl)
  refine awp_seq ?_
  refine seqR ?_
  refine opG rfl (aop_move (av := .v (.int .u8 (i : Int))) (.inl rfl) rfl rfl rfl ?_)
  refine opG rfl (aop_binI (u := (.bool (decide ((i : Int) < 4)))) rfl rfl rfl rfl rfl trivial rfl ?_)
  refine op0 ?_
  show AWP _ _ _ _ _
  refine awp_cond (decide ((i : Int) < 4)) rfl rfl (fun hc0 => ?_) (fun hc0 => ?_)
  · skip
    have hf1 := of_decide_eq_true hc0
    refine awp_skip ?_
    show AWP _ _ _ _ _
    refine awp_seq ?_
    refine awp_block ?_
    refine seqR ?_
    refine opG rfl (aop_move (av := .v (.int .u8 0)) (.inr rfl) rfl rfl rfl ?_)
    refine op0 ?_
    show AWP _ _ _ _ _
    refine awp_block ?_
    refine awp_countI (fun j => ⟨(upd (upd (upd (upd (upd (upd none_ 0 (.v (.int .u8 a))) 1 (.v (.int .u8 b))) 4 (.v (.bool false))) 5 (.pt 1 0)) 6 (.v (.int .u8 (i : Int)))) 7 (.v (.int .u8 (j : Int)))), (updO noOb 1 (.live ⟨(enc eI (seenK (4 * i + j))), 57, 1⟩))⟩) (fun j => True) (4) ?_ trivial (fun j hk_j hinv => ?_)
    · skip
      exact imp_ler [(1, 1)] (ler1 1 1 _ _ rfl (by exact congrArg (fun l_ => LObj.mk (enc eI l_) 57 1) rfl) (NoIL.out (l := (enc eI (seenK (4 * i))))) (sr_same 7 (.v (.int .u8 (0 : Int))) rfl NoI.out (sr_same 6 (.v (.int .u8 (i : Int))) rfl NoI.out (sr_map 5 (.pt 1 0) (by first | exact Ok.sl _ _ _ (by first | decide | simp) | exact Ok.pt _ _ (by first | decide | simp)) rfl (sr_same 4 (.v (.bool false)) rfl NoI.out (sr_same 1 (.v (.int .u8 b)) rfl NoI.out (sr_same 0 (.v (.int .u8 a)) rfl NoI.out sr_none))))))) (keep_of rfl)
    have hsl := seenK_len (4 * i + j)
    refine awp_seq ?_
    refine seqR ?_
    refine opG rfl (aop_move (av := .v (.int .u8 (j : Int))) (.inl rfl) rfl rfl rfl ?_)
    refine opG rfl (aop_binI (u := (.bool (decide ((j : Int) < 4)))) rfl rfl rfl rfl rfl trivial rfl ?_)
    refine op0 ?_
    show AWP _ _ _ _ _
    refine awp_cond (decide ((j : Int) < 4)) rfl rfl (fun hc1 => ?_) (fun hc1 => ?_)
    · skip
      have hf2 := of_decide_eq_true hc1
      obtain ⟨pv, hpv⟩ : ∃ pv, pv = pairK (4 * i + j) := ⟨_, rfl⟩
      have hpf := pair_facts i (by omega) j (by omega)
      rw [← hpv] at hpf
      obtain ⟨hpk, hp12, hpe⟩ := hpf
      have hbb : (((pv : Nat) : Int) == 0) = ((i : Int) == (j : Int)) := by rw [Bool.eq_iff_iff]; simp; first | exact hpe | omega
      have hsb := seen_facts (4 * i + j) (by omega)
      rw [← hpv] at hsb
      have hst : seenK (4 * i + j + 1) = (seenK (4 * i + j)).set pv ((seenK (4 * i + j)).getD pv 0 + 1) := by rw [hpv]; rfl
      refine awp_skip ?_
      show AWP _ _ _ _ _
      refine awp_seq ?_
      refine awp_block ?_
      refine seqR ?_
      refine opG rfl (aop_move (av := .v (.int .u8 (i : Int))) (.inl rfl) rfl rfl rfl ?_)
      refine opG rfl (aop_move (av := .v (.int .u8 (j : Int))) (.inl rfl) rfl rfl rfl ?_)
      refine opG rfl (aop_eqv (d := 20) (a := .v (.int .u8 (kindI (i : Int) (j : Int)))) (b := .v (.int .u8 ((pv : Nat) : Int))) (call_ (s_Kind (i : Int) (j : Int) (by omega) (by omega)) rfl rfl rfl rfl rfl bd22 rfl rfl) (by rw [hpk]) ?_)
      refine opG rfl (aop_move (av := .v (.int .u8 ((pv : Nat) : Int))) (.inr rfl) rfl rfl rfl ?_)
      refine op0 ?_
      show AWP _ _ _ _ _
      refine awp_imp ⟨(upd (upd (upd (upd (upd (upd (upd none_ 0 (.v (.int .u8 a))) 1 (.v (.int .u8 b))) 4 (.v (.bool false))) 5 (.pt 1 0)) 6 (.v (.int .u8 (i : Int)))) 7 (.v (.int .u8 (j : Int)))) 8 (.v (.int .u8 ((pv : Nat) : Int)))), (updO noOb 1 (.live ⟨(enc eI (seenK (4 * i + j))), 57, 1⟩))⟩ (imp_le ⟨(lee_upd 8 _ rfl (lee_upd 7 _ rfl (lee_upd 6 _ rfl (lee_upd 5 _ rfl (lee_upd 4 _ rfl (lee_upd 1 _ rfl (lee_upd 0 _ rfl (lee_none _)))))))), fun _ => .inl rfl⟩) ?_
      refine awp_seq ?_
      refine seqR ?_
      refine opG rfl (aop_move (av := .v (.int .u8 ((pv : Nat) : Int))) (.inl rfl) rfl rfl rfl ?_)
      refine opG rfl (aop_binI (u := (.bool (decide (((pv : Nat) : Int) > 12)))) rfl rfl rfl rfl rfl trivial rfl ?_)
      refine opG rfl (aop_move (av := .v (.bool (decide (((pv : Nat) : Int) > 12)))) (.inl rfl) rfl rfl rfl ?_)
      refine aops_grp 7 30 (.v (.bool ((decide (((pv : Nat) : Int) > 12)) || ((((pv : Nat) : Int) == 0) != ((i : Int) == (j : Int)))))) ?_ ?_
      · refine (Bool.eq_false_or_eq_true (decide (((pv : Nat) : Int) > 12))).elim (fun hg3 => ?_) (fun hg3 => ?_)
        · skip
          have hf4 := of_decide_eq_true hg3
          refine opN rfl rfl rfl rfl (by show yv (.bool (decide (((pv : Nat) : Int) > 12))) ≠ _; rw [hg3]; intro h; cases h) rfl rfl ?_
          refine opN rfl rfl rfl rfl (by show yv (.bool (decide (((pv : Nat) : Int) > 12))) ≠ _; rw [hg3]; intro h; cases h) rfl rfl ?_
          refine opN rfl rfl rfl rfl (by show yv (.bool (decide (((pv : Nat) : Int) > 12))) ≠ _; rw [hg3]; intro h; cases h) rfl rfl ?_
          refine opN rfl rfl rfl rfl (by show yv (.bool (decide (((pv : Nat) : Int) > 12))) ≠ _; rw [hg3]; intro h; cases h) rfl rfl ?_
          refine opN rfl rfl rfl rfl (by show yv (.bool (decide (((pv : Nat) : Int) > 12))) ≠ _; rw [hg3]; intro h; cases h) rfl rfl ?_
          refine opN rfl rfl rfl rfl (by show yv (.bool (decide (((pv : Nat) : Int) > 12))) ≠ _; rw [hg3]; intro h; cases h) rfl rfl ?_
          refine opG rfl (aop_pick (b := (decide (((pv : Nat) : Int) > 12))) (av := .v (.bool true)) rfl rfl rfl rfl ((congrArg (fun b_ => cond b_ _ _) hg3).trans rfl) ?_)
          refine op0 ?_
          exact imp_env (lee_both 30 _ _ (by rw [hg3] <;> rfl) (lee_out 29 _ rfl (lee_out 28 _ rfl (lee_out 27 _ rfl (lee_out 26 _ rfl (lee_out 25 _ rfl (lee_out 24 _ rfl (lee_same _))))))))
        · skip
          have hf5 := of_decide_eq_false hg3
          refine opY rfl rfl rfl (by show AV.v (.bool (decide (((pv : Nat) : Int) > 12))) = _; rw [hg3]) (aop_move (av := .v (.int .u8 ((pv : Nat) : Int))) (.inl rfl) rfl rfl rfl ?_)
          refine opY rfl rfl rfl (by show AV.v (.bool (decide (((pv : Nat) : Int) > 12))) = _; rw [hg3]) (aop_binI (u := (.bool (((pv : Nat) : Int) == 0))) rfl rfl rfl rfl rfl trivial rfl ?_)
          refine opY rfl rfl rfl (by show AV.v (.bool (decide (((pv : Nat) : Int) > 12))) = _; rw [hg3]) (aop_move (av := .v (.int .u8 (i : Int))) (.inl rfl) rfl rfl rfl ?_)
          refine opY rfl rfl rfl (by show AV.v (.bool (decide (((pv : Nat) : Int) > 12))) = _; rw [hg3]) (aop_move (av := .v (.int .u8 (j : Int))) (.inl rfl) rfl rfl rfl ?_)
          refine opY rfl rfl rfl (by show AV.v (.bool (decide (((pv : Nat) : Int) > 12))) = _; rw [hg3]) (aop_binI (u := (.bool ((i : Int) == (j : Int)))) rfl rfl rfl rfl rfl trivial rfl ?_)
          refine opY rfl rfl rfl (by show AV.v (.bool (decide (((pv : Nat) : Int) > 12))) = _; rw [hg3]) (aop_neB rfl rfl rfl rfl rfl ut4 ?_)
          refine opG rfl (aop_pick (b := (decide (((pv : Nat) : Int) > 12))) (av := .v (.bool ((((pv : Nat) : Int) == 0) != ((i : Int) == (j : Int))))) rfl rfl rfl rfl ((congrArg (fun b_ => cond b_ _ _) hg3).trans rfl) ?_)
          refine op0 ?_
          exact imp_env (lee_both 30 _ _ (by rw [hg3] <;> rfl) (lee_out 29 _ rfl (lee_out 28 _ rfl (lee_out 27 _ rfl (lee_out 26 _ rfl (lee_out 25 _ rfl (lee_out 24 _ rfl (lee_same _))))))))
      refine op0 ?_
      show AWP _ _ _ _ _
      refine awp_cond ((decide (((pv : Nat) : Int) > 12)) || ((((pv : Nat) : Int) == 0) != ((i : Int) == (j : Int)))) rfl rfl (fun hc2 => ?_) (fun hc2 => ?_)
      · skip
        exfalso; rw [hbb] at hc2; simp at hc2; omega
      · skip
        obtain ⟨hf6a, hf6b⟩ := or_f hc2
        have hf7 := of_decide_eq_false hf6a
        refine awp_skip ?_
        show AWP _ _ _ _ _
        refine regR ?_
        refine opG rfl (aop_move (av := .v (.int .u8 ((pv : Nat) : Int))) (.inl rfl) rfl rfl rfl ?_)
        refine opG rfl (aop_ixArrO (i := pv) rfl rfl rfl ut57 sz3 rfl rfl (by first | omega | (simp; done) | decide | (simp; omega) | (simp at *; omega)) ?_)
        refine opG rfl (aop_ldO (f := eI) (l := seenK (4 * i + j)) 0 rfl rfl rfl ag3 rfl rfl rfl (fun _ => rfl) (by first | omega | (simp; done) | decide | (simp; omega) | (simp at *; omega)) rfl ?_)
        refine opG rfl (aop_binI (u := (.int .i64 (((seenK (4 * i + j)).getD pv 0) + 1))) rfl rfl rfl rfl rfl trivial (addI (by omega)) ?_)
        refine opG rfl (aop_ixArrO (i := pv) rfl rfl rfl ut57 sz3 rfl rfl (by first | omega | (simp; done) | decide | (simp; omega) | (simp at *; omega)) ?_)
        refine opG rfl (aop_storeE (f := eI) (l := seenK (4 * i + j)) (l' := (seenK (4 * i + j)).set pv (((seenK (4 * i + j)).getD pv 0) + 1 : Int)) (((seenK (4 * i + j)).getD pv 0) + 1 : Int) rfl rfl rfl sz3 rfl rfl rfl rfl rfl (fun _ => rfl) (by first | omega | (simp; done) | decide | (simp; omega) | (simp at *; omega)) rfl rfl ?_)
        refine op0 ?_
        show AWP _ _ _ _ _
        refine awp_imp ⟨(upd (upd (upd (upd (upd (upd (upd none_ 0 (.v (.int .u8 a))) 1 (.v (.int .u8 b))) 4 (.v (.bool false))) 5 (.pt 1 0)) 6 (.v (.int .u8 (i : Int)))) 7 (.v (.int .u8 (j : Int)))) 8 (.v (.int .u8 ((pv : Nat) : Int)))), (updO (updO noOb 1 (.live ⟨(enc eI (seenK (4 * i + j))), 57, 1⟩)) 1 (.live ⟨(enc eI ((seenK (4 * i + j)).set pv (((seenK (4 * i + j)).getD pv 0) + 1 : Int))), 57, 1⟩))⟩ (imp_le ⟨(lee_upd 8 _ rfl (lee_upd 7 _ rfl (lee_upd 6 _ rfl (lee_upd 5 _ rfl (lee_upd 4 _ rfl (lee_upd 1 _ rfl (lee_upd 0 _ rfl (lee_none _)))))))), fun _ => .inl rfl⟩) ?_
        refine regR ?_
        refine opG rfl (aop_move (av := .v (.int .u8 (j : Int))) (.inl rfl) rfl rfl rfl ?_)
        refine opG rfl (aop_binI (u := (.int .u8 ((j : Int) + 1))) rfl rfl rfl rfl rfl trivial (addU8 (by omega)) ?_)
        refine opG rfl (aop_move (av := .v (.int .u8 ((j : Int) + 1))) (.inr rfl) rfl rfl rfl ?_)
        refine op0 ?_
        show _ ∧ _
        refine ⟨by omega, trivial, ?_⟩
        exact imp_ler [(1, 1)] (ler1 1 1 _ _ rfl (by exact congrArg (fun l_ => LObj.mk (enc eI l_) 57 1) (by rw [← Nat.add_assoc]; exact hst)) (NoIL.out (l := (enc eI ((seenK (4 * i + j)).set pv (((seenK (4 * i + j)).getD pv 0) + 1 : Int))))) (sr_same 7 (.v (.int .u8 ((j + 1) : Int))) (by exact congrArg (fun n_ : Int => AV.v (.int .u8 n_)) (by omega)) NoI.out (sr_same 6 (.v (.int .u8 (i : Int))) rfl NoI.out (sr_map 5 (.pt 1 0) (by first | exact Ok.sl _ _ _ (by first | decide | simp) | exact Ok.pt _ _ (by first | decide | simp)) rfl (sr_same 4 (.v (.bool false)) rfl NoI.out (sr_same 1 (.v (.int .u8 b)) rfl NoI.out (sr_same 0 (.v (.int .u8 a)) rfl NoI.out sr_none))))))) (keep_of rfl)
    · skip
      have hf8 := of_decide_eq_false hc1
      refine awp_exit ?_
      show AWP _ _ _ _ _
      refine regR ?_
      refine opG rfl (aop_move (av := .v (.int .u8 (i : Int))) (.inl rfl) rfl rfl rfl ?_)
      refine opG rfl (aop_binI (u := (.int .u8 ((i : Int) + 1))) rfl rfl rfl rfl rfl trivial (addU8 (by omega)) ?_)
      refine opG rfl (aop_move (av := .v (.int .u8 ((i : Int) + 1))) (.inr rfl) rfl rfl rfl ?_)
      refine op0 ?_
      show _ ∧ _
      refine ⟨by omega, trivial, ?_⟩
      exact imp_ler [(1, 1)] (ler1 1 1 _ _ rfl (by exact congrArg (fun l_ => LObj.mk (enc eI l_) 57 1) (by rw [show 4 * (i + 1) = 4 * i + j by omega])) (NoIL.out (l := (enc eI (seenK (4 * i + j))))) (sr_same 6 (.v (.int .u8 ((i + 1) : Int))) (by exact congrArg (fun n_ : Int => AV.v (.int .u8 n_)) (by omega)) NoI.out (sr_map 5 (.pt 1 0) (by first | exact Ok.sl _ _ _ (by first | decide | simp) | exact Ok.pt _ _ (by first | decide | simp)) rfl (sr_same 4 (.v (.bool false)) rfl NoI.out (sr_same 1 (.v (.int .u8 b)) rfl NoI.out (sr_same 0 (.v (.int .u8 a)) rfl NoI.out sr_none)))))) (keep_of rfl)
  · skip
    have hf9 := of_decide_eq_false hc0
    refine awp_exit ?_
    show AWP _ _ _ _ _
    refine awp_seq ?_
    refine seqR ?_
    refine opG rfl (aop_move (av := .v (.int .i64 1)) (.inr rfl) rfl rfl rfl ?_)
    refine op0 ?_
    show AWP _ _ _ _ _
    refine awp_block ?_
    refine awp_countI (fun k => ⟨(upd (upd (upd (upd (upd none_ 0 (.v (.int .u8 a))) 1 (.v (.int .u8 b))) 4 (.v (.bool false))) 5 (.pt 1 0)) 9 (.v (.int .i64 ((k + 1 : Nat) : Int)))), (updO noOb 1 (.live ⟨(enc eI (seenK 16)), 57, 1⟩))⟩) (fun k => True) (12) ?_ trivial (fun k hk_k hinv => ?_)
    · skip
      exact imp_ler [(1, 1)] (ler1 1 1 _ _ rfl (by exact congrArg (fun l_ => LObj.mk (enc eI l_) 57 1) (by rw [show 4 * i = 16 by omega])) (NoIL.out (l := (enc eI (seenK (4 * i))))) (sr_same 9 (.v (.int .i64 ((0 + 1 : Nat) : Int))) rfl NoI.out (sr_map 5 (.pt 1 0) (by first | exact Ok.sl _ _ _ (by first | decide | simp) | exact Ok.pt _ _ (by first | decide | simp)) rfl (sr_same 4 (.v (.bool false)) rfl NoI.out (sr_same 1 (.v (.int .u8 b)) rfl NoI.out (sr_same 0 (.v (.int .u8 a)) rfl NoI.out sr_none)))))) (keep_of rfl)
    have hsl := seenK_len 16
    refine awp_seq ?_
    refine seqR ?_
    refine opG rfl (aop_move (av := .v (.int .i64 ((k + 1 : Nat) : Int))) (.inl rfl) rfl rfl rfl ?_)
    refine opG rfl (aop_binI (u := (.bool (decide (((k + 1 : Nat) : Int) < 13)))) rfl rfl rfl rfl rfl trivial rfl ?_)
    refine op0 ?_
    show AWP _ _ _ _ _
    refine awp_cond (decide (((k + 1 : Nat) : Int) < 13)) rfl rfl (fun hc3 => ?_) (fun hc3 => ?_)
    · skip
      have hf10 := of_decide_eq_true hc3
      have hone := seen_end k (by omega)
      refine awp_skip ?_
      show AWP _ _ _ _ _
      refine awp_seq ?_
      refine awp_block ?_
      refine seqR ?_
      refine opG rfl (aop_move (av := .v (.int .i64 ((k + 1 : Nat) : Int))) (.inl rfl) rfl rfl rfl ?_)
      refine opG rfl (aop_ixArrO (i := k + 1) rfl rfl rfl ut57 sz3 rfl rfl (by first | omega | (simp; done) | decide | (simp; omega) | (simp at *; omega)) ?_)
      refine opG rfl (aop_ldO (f := eI) (l := seenK 16) 0 rfl rfl rfl ag3 rfl rfl rfl (fun _ => rfl) (by first | omega | (simp; done) | decide | (simp; omega) | (simp at *; omega)) rfl ?_)
      refine opG rfl (aop_binI (u := (.bool (((seenK 16).getD (k + 1) 0) != 1))) rfl rfl rfl rfl rfl trivial rfl ?_)
      refine op0 ?_
      show AWP _ _ _ _ _
      refine awp_imp ⟨(upd (upd (upd (upd (upd (upd none_ 0 (.v (.int .u8 a))) 1 (.v (.int .u8 b))) 4 (.v (.bool false))) 5 (.pt 1 0)) 9 (.v (.int .i64 ((k + 1 : Nat) : Int)))) 43 (.v (.bool (((seenK 16).getD (k + 1) 0) != 1)))), (updO noOb 1 (.live ⟨(enc eI (seenK 16)), 57, 1⟩))⟩ (imp_le ⟨(lee_upd 43 _ rfl (lee_upd 9 _ rfl (lee_upd 5 _ rfl (lee_upd 4 _ rfl (lee_upd 1 _ rfl (lee_upd 0 _ rfl (lee_none _))))))), fun _ => .inl rfl⟩) ?_
      refine awp_cond (((seenK 16).getD (k + 1) 0) != 1) rfl rfl (fun hc4 => ?_) (fun hc4 => ?_)
      · skip
        have hf11 := (bne_iff_ne).1 hc4
        exfalso; rw [hone] at hc4; simp at hc4
      · skip
        have hf12 := (bne_eq_false_iff_eq).1 hc4
        refine awp_skip ?_
        show AWP _ _ _ _ _
        refine regR ?_
        refine opG rfl (aop_move (av := .v (.int .i64 ((k + 1 : Nat) : Int))) (.inl rfl) rfl rfl rfl ?_)
        refine opG rfl (aop_binI (u := (.int .i64 ((k + 1 + 1 : Nat) : Int))) rfl rfl rfl rfl rfl trivial (addN (by omega)) ?_)
        refine opG rfl (aop_move (av := .v (.int .i64 ((k + 1 + 1 : Nat) : Int))) (.inr rfl) rfl rfl rfl ?_)
        refine op0 ?_
        show _ ∧ _
        refine ⟨by omega, trivial, ?_⟩
        exact imp_ler [(1, 1)] (ler1 1 1 _ _ rfl rfl (NoIL.out (l := (enc eI (seenK 16)))) (sr_same 9 (.v (.int .i64 (((k + 1) + 1 : Nat) : Int))) rfl NoI.out (sr_map 5 (.pt 1 0) (by first | exact Ok.sl _ _ _ (by first | decide | simp) | exact Ok.pt _ _ (by first | decide | simp)) rfl (sr_same 4 (.v (.bool false)) rfl NoI.out (sr_same 1 (.v (.int .u8 b)) rfl NoI.out (sr_same 0 (.v (.int .u8 a)) rfl NoI.out sr_none)))))) (keep_of rfl)
    · skip
      have hf13 := of_decide_eq_false hc3
      refine awp_exit ?_
      show AWP _ _ _ _ _
      refine seqR ?_
      refine opG rfl (call_ (l13_second) rfl rfl rfl rfl rfl bd10 rfl ?_)
      refine opG rfl (aop_move (av := .v (.bool true)) (.inl rfl) rfl rfl rfl ?_)
      refine opY rfl rfl rfl rfl (aop_move (av := .v (.int .u8 a)) (.inl rfl) rfl rfl rfl ?_)
      refine opY rfl rfl rfl rfl (aop_move (av := .v (.int .u8 b)) (.inl rfl) rfl rfl rfl ?_)
      refine opY rfl rfl rfl rfl (call_ (s_Kind a b ha hb) rfl rfl rfl rfl rfl bd22 rfl ?_)
      refine opY rfl rfl rfl rfl (aop_move (av := .v (.int .u8 a)) (.inl rfl) rfl rfl rfl ?_)
      refine opY rfl rfl rfl rfl (aop_move (av := .v (.int .u8 b)) (.inl rfl) rfl rfl rfl ?_)
      refine opY rfl rfl rfl rfl (call_ (r13_Kind a b ha hb) rfl rfl rfl rfl rfl bd23 rfl ?_)
      refine opY rfl rfl rfl rfl (aop_binI (u := (.bool ((kindI a b) == (kindI a b)))) rfl rfl rfl rfl rfl trivial rfl ?_)
      refine opG rfl (aop_pick (b := true) (av := .v (.bool ((kindI a b) == (kindI a b)))) rfl rfl rfl rfl rfl ?_)
      refine opG rfl (aop_move (av := .v (.bool ((kindI a b) == (kindI a b)))) (.inl rfl) rfl rfl rfl ?_)
      refine aops_grp 12 66 (.v (.bool (((kindI a b) == (kindI a b)) && ((kindI (a % 4) (b % 4)) == (kindI (a % 4) (b % 4)))))) ?_ ?_
      · refine (Bool.eq_false_or_eq_true ((kindI a b) == (kindI a b))).elim (fun hg14 => ?_) (fun hg14 => ?_)
        · skip
          have hf15 := (beq_iff_eq).1 hg14
          refine opY rfl rfl rfl (by show AV.v (.bool ((kindI a b) == (kindI a b))) = _; rw [hg14]) (aop_move (av := .v (.int .u8 a)) (.inl rfl) rfl rfl rfl ?_)
          refine opY rfl rfl rfl (by show AV.v (.bool ((kindI a b) == (kindI a b))) = _; rw [hg14]) (aop_binI (u := (.int .u8 (a % 4))) rfl rfl rfl rfl rfl (by show _ ≠ _; decide) (remI (by omega)) ?_)
          refine opY rfl rfl rfl (by show AV.v (.bool ((kindI a b) == (kindI a b))) = _; rw [hg14]) (aop_move (av := .v (.int .u8 b)) (.inl rfl) rfl rfl rfl ?_)
          refine opY rfl rfl rfl (by show AV.v (.bool ((kindI a b) == (kindI a b))) = _; rw [hg14]) (aop_binI (u := (.int .u8 (b % 4))) rfl rfl rfl rfl rfl (by show _ ≠ _; decide) (remI (by omega)) ?_)
          refine opY rfl rfl rfl (by show AV.v (.bool ((kindI a b) == (kindI a b))) = _; rw [hg14]) (call_ (s_Kind (a % 4) (b % 4) (by omega) (by omega)) rfl rfl rfl rfl rfl bd22 rfl ?_)
          refine opY rfl rfl rfl (by show AV.v (.bool ((kindI a b) == (kindI a b))) = _; rw [hg14]) (aop_move (av := .v (.int .u8 a)) (.inl rfl) rfl rfl rfl ?_)
          refine opY rfl rfl rfl (by show AV.v (.bool ((kindI a b) == (kindI a b))) = _; rw [hg14]) (aop_binI (u := (.int .u8 (a % 4))) rfl rfl rfl rfl rfl (by show _ ≠ _; decide) (remI (by omega)) ?_)
          refine opY rfl rfl rfl (by show AV.v (.bool ((kindI a b) == (kindI a b))) = _; rw [hg14]) (aop_move (av := .v (.int .u8 b)) (.inl rfl) rfl rfl rfl ?_)
          refine opY rfl rfl rfl (by show AV.v (.bool ((kindI a b) == (kindI a b))) = _; rw [hg14]) (aop_binI (u := (.int .u8 (b % 4))) rfl rfl rfl rfl rfl (by show _ ≠ _; decide) (remI (by omega)) ?_)
          refine opY rfl rfl rfl (by show AV.v (.bool ((kindI a b) == (kindI a b))) = _; rw [hg14]) (call_ (r13_Kind (a % 4) (b % 4) (by omega) (by omega)) rfl rfl rfl rfl rfl bd23 rfl ?_)
          refine opY rfl rfl rfl (by show AV.v (.bool ((kindI a b) == (kindI a b))) = _; rw [hg14]) (aop_binI (u := (.bool ((kindI (a % 4) (b % 4)) == (kindI (a % 4) (b % 4))))) rfl rfl rfl rfl rfl trivial rfl ?_)
          refine opG rfl (aop_pick (b := ((kindI a b) == (kindI a b))) (av := .v (.bool ((kindI (a % 4) (b % 4)) == (kindI (a % 4) (b % 4))))) rfl rfl rfl rfl ((congrArg (fun b_ => cond b_ _ _) hg14).trans rfl) ?_)
          refine op0 ?_
          exact imp_env (lee_both 66 _ _ (by rw [hg14] <;> rfl) (lee_out 65 _ rfl (lee_out 64 _ rfl (lee_out 63 _ rfl (lee_out 62 _ rfl (lee_out 61 _ rfl (lee_out 60 _ rfl (lee_out 59 _ rfl (lee_out 58 _ rfl (lee_out 57 _ rfl (lee_out 56 _ rfl (lee_out 55 _ rfl (lee_same _)))))))))))))
        · skip
          have hf16 := (beq_eq_false_iff_ne).1 hg14
          refine opN rfl rfl rfl rfl (by show yv (.bool ((kindI a b) == (kindI a b))) ≠ _; rw [hg14]; intro h; cases h) rfl rfl ?_
          refine opN rfl rfl rfl rfl (by show yv (.bool ((kindI a b) == (kindI a b))) ≠ _; rw [hg14]; intro h; cases h) rfl rfl ?_
          refine opN rfl rfl rfl rfl (by show yv (.bool ((kindI a b) == (kindI a b))) ≠ _; rw [hg14]; intro h; cases h) rfl rfl ?_
          refine opN rfl rfl rfl rfl (by show yv (.bool ((kindI a b) == (kindI a b))) ≠ _; rw [hg14]; intro h; cases h) rfl rfl ?_
          refine opN rfl rfl rfl rfl (by show yv (.bool ((kindI a b) == (kindI a b))) ≠ _; rw [hg14]; intro h; cases h) rfl rfl ?_
          refine opN rfl rfl rfl rfl (by show yv (.bool ((kindI a b) == (kindI a b))) ≠ _; rw [hg14]; intro h; cases h) rfl rfl ?_
          refine opN rfl rfl rfl rfl (by show yv (.bool ((kindI a b) == (kindI a b))) ≠ _; rw [hg14]; intro h; cases h) rfl rfl ?_
          refine opN rfl rfl rfl rfl (by show yv (.bool ((kindI a b) == (kindI a b))) ≠ _; rw [hg14]; intro h; cases h) rfl rfl ?_
          refine opN rfl rfl rfl rfl (by show yv (.bool ((kindI a b) == (kindI a b))) ≠ _; rw [hg14]; intro h; cases h) rfl rfl ?_
          refine opN rfl rfl rfl rfl (by show yv (.bool ((kindI a b) == (kindI a b))) ≠ _; rw [hg14]; intro h; cases h) rfl rfl ?_
          refine opN rfl rfl rfl rfl (by show yv (.bool ((kindI a b) == (kindI a b))) ≠ _; rw [hg14]; intro h; cases h) rfl rfl ?_
          refine opG rfl (aop_pick (b := ((kindI a b) == (kindI a b))) (av := .v (.bool false)) rfl rfl rfl rfl ((congrArg (fun b_ => cond b_ _ _) hg14).trans rfl) ?_)
          refine op0 ?_
          exact imp_env (lee_both 66 _ _ (by rw [hg14] <;> rfl) (lee_out 65 _ rfl (lee_out 64 _ rfl (lee_out 63 _ rfl (lee_out 62 _ rfl (lee_out 61 _ rfl (lee_out 60 _ rfl (lee_out 59 _ rfl (lee_out 58 _ rfl (lee_out 57 _ rfl (lee_out 56 _ rfl (lee_out 55 _ rfl (lee_same _)))))))))))))
      refine opG rfl (aop_move (av := .v (.bool (((kindI a b) == (kindI a b)) && ((kindI (a % 4) (b % 4)) == (kindI (a % 4) (b % 4)))))) (.inr rfl) rfl rfl rfl ?_)
      refine op0 ?_
      show AWP _ _ _ _ _
      refine awp_imp ⟨(upd none_ 4 (.v (.bool (((kindI a b) == (kindI a b)) && ((kindI (a % 4) (b % 4)) == (kindI (a % 4) (b % 4))))))), (updO noOb 1 (.live ⟨(enc eI (seenK 16)), 57, 1⟩))⟩ (imp_le ⟨(lee_upd 4 _ rfl (lee_none _)), fun _ => .inl rfl⟩) ?_
      refine awp_ret ?_
      exact fret (av := .v (.bool (((kindI a b) == (kindI a b)) && ((kindI (a % 4) (b % 4)) == (kindI (a % 4) (b % 4)))))) rfl rfl (by simp)
end Go.Lo
