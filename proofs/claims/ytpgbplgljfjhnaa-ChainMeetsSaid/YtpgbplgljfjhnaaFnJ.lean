/- Walks of Go functions in the logic of values. -/
import Derived.Test.YtpgbplgljfjhnaaFnJTy
import Derived.Test.YtpgbplgljfjhnaaDef
import Derived.Test.YtpgbplgljfjhnaaLay
import Derived.Test.YtpgbplgljfjhnaaGr
import Derived.Test.YtpgbplgljfjhnaaCh
import Derived.Test.YtpgbplgljfjhnaaIns
import Derived.Test.YtpgbplgljfjhnaaDr
import Derived.Test.YtpgbplgljfjhnaaSp
import Derived.Test.YtpgbplgljfjhnaaFnA
import Derived.Test.YtpgbplgljfjhnaaFnC
import Derived.Test.YtpgbplgljfjhnaaFnM
import Derived.Test.YtpgbplgljfjhnaaFnF
import Derived.Test.YtpgbplgljfjhnaaFnG
import Derived.Test.YtpgbplgljfjhnaaFnH
import Derived.Test.YtpgbplgljfjhnaaFnI
set_option linter.unusedVariables false
set_option linter.unusedSimpArgs false
namespace Go.Lo
open Go.Proofs
set_option maxRecDepth 10000 in
set_option maxHeartbeats 16000000 in
theorem l11_ChainMeets (a b : List Int)  : Fn Try.prog 8 [.ro a.length (enc eI a), .ro b.length (enc eI b)] (.v (.bool true)) := by
  refine fnE_of_body (N := 33) Try.func8 rfl rfl (resOf1 rfl) (by simp) (fun w0 X hL_ => ?_)
  refine seqR ?_
  refine opG rfl (aop_move (av := .v (.bool false)) (.inr rfl) rfl rfl rfl ?_)
  refine op0 ?_
  show AWP _ _ _ _ _
  refine awp_seq ?_
  refine seqR ?_
  refine opG rfl (aop_move (av := .ro a.length (enc eI a)) (.inl rfl) rfl rfl rfl ?_)
  refine opG rfl (aop_len rfl rfl rfl rfl ut38 (len_ro rfl) ?_)
  refine opG rfl (aop_binI (u := (.bool (decide ((a.length : Int) > 40)))) rfl rfl rfl rfl rfl trivial rfl ?_)
  refine opG rfl (aop_move (av := .v (.bool (decide ((a.length : Int) > 40)))) (.inl rfl) rfl rfl rfl ?_)
  refine aops_grp 4 12 (.v (.bool ((decide ((a.length : Int) > 40)) || (decide ((b.length : Int) > 40))))) ?_ ?_
  · refine (Bool.eq_false_or_eq_true (decide ((a.length : Int) > 40))).elim (fun hg1 => ?_) (fun hg1 => ?_)
    · skip
      have hf2 := of_decide_eq_true hg1
      refine opN rfl rfl rfl rfl (by show yv (.bool (decide ((a.length : Int) > 40))) ≠ _; rw [hg1]; intro h; cases h) rfl rfl ?_
      refine opN rfl rfl rfl rfl (by show yv (.bool (decide ((a.length : Int) > 40))) ≠ _; rw [hg1]; intro h; cases h) rfl rfl ?_
      refine opN rfl rfl rfl rfl (by show yv (.bool (decide ((a.length : Int) > 40))) ≠ _; rw [hg1]; intro h; cases h) rfl rfl ?_
      refine opG rfl (aop_pick (b := (decide ((a.length : Int) > 40))) (av := .v (.bool true)) rfl rfl rfl rfl ((congrArg (fun b_ => cond b_ _ _) hg1).trans rfl) ?_)
      refine op0 ?_
      exact imp_env (lee_both 12 _ _ (by rw [hg1] <;> rfl) (lee_out 11 _ rfl (lee_out 10 _ rfl (lee_out 9 _ rfl (lee_same _)))))
    · skip
      have hf3 := of_decide_eq_false hg1
      refine opY rfl rfl rfl (by show AV.v (.bool (decide ((a.length : Int) > 40))) = _; rw [hg1]) (aop_move (av := .ro b.length (enc eI b)) (.inl rfl) rfl rfl rfl ?_)
      refine opY rfl rfl rfl (by show AV.v (.bool (decide ((a.length : Int) > 40))) = _; rw [hg1]) (aop_len rfl rfl rfl rfl ut38 (len_ro rfl) ?_)
      refine opY rfl rfl rfl (by show AV.v (.bool (decide ((a.length : Int) > 40))) = _; rw [hg1]) (aop_binI (u := (.bool (decide ((b.length : Int) > 40)))) rfl rfl rfl rfl rfl trivial rfl ?_)
      refine opG rfl (aop_pick (b := (decide ((a.length : Int) > 40))) (av := .v (.bool (decide ((b.length : Int) > 40)))) rfl rfl rfl rfl ((congrArg (fun b_ => cond b_ _ _) hg1).trans rfl) ?_)
      refine op0 ?_
      exact imp_env (lee_both 12 _ _ (by rw [hg1] <;> rfl) (lee_out 11 _ rfl (lee_out 10 _ rfl (lee_out 9 _ rfl (lee_same _)))))
  refine op0 ?_
  show AWP _ _ _ _ _
  refine awp_imp ⟨(upd (upd (upd (upd none_ 0 (.ro a.length (enc eI a))) 1 (.ro b.length (enc eI b))) 4 (.v (.bool false))) 12 (.v (.bool ((decide ((a.length : Int) > 40)) || (decide ((b.length : Int) > 40)))))), noOb⟩ (imp_le ⟨(lee_upd 12 _ rfl (lee_upd 4 _ rfl (lee_upd 1 _ rfl (lee_upd 0 _ rfl (lee_none _))))), fun _ => .inl rfl⟩) ?_
  refine awp_cond ((decide ((a.length : Int) > 40)) || (decide ((b.length : Int) > 40))) rfl rfl (fun hc0 => ?_) (fun hc0 => ?_)
  · skip
    refine seqR ?_
    refine opG rfl (call_ (l11_later) rfl rfl rfl rfl rfl bd9 rfl ?_)
    refine opG rfl (aop_move (av := .v (.bool true)) (.inr rfl) rfl rfl rfl ?_)
    refine op0 ?_
    show AWP _ _ _ _ _
    refine awp_ret ?_
    exact fret (av := .v (.bool true)) rfl rfl rfl
  · skip
    obtain ⟨hf4a, hf4b⟩ := or_f hc0
    have hf5 := of_decide_eq_false hf4a
    have hf6 := of_decide_eq_false hf4b
    refine awp_skip ?_
    show AWP _ _ _ _ _
    refine seqR ?_
    refine opG rfl (call_ (l11_later) rfl rfl rfl rfl rfl bd9 rfl ?_)
    refine opG rfl (aop_move (av := .v (.bool true)) (.inl rfl) rfl rfl rfl ?_)
    refine opY rfl rfl rfl rfl (aop_move (av := .ro a.length (enc eI a)) (.inl rfl) rfl rfl rfl ?_)
    refine opY rfl rfl rfl rfl (aop_move (av := .ro b.length (enc eI b)) (.inl rfl) rfl rfl rfl ?_)
    refine opY rfl rfl rfl rfl (call_ (c_Meets a b (by first | omega | (simp; done) | decide | (simp; omega) | (simp at *; omega)) (by first | omega | (simp; done) | decide | (simp; omega) | (simp at *; omega))) rfl rfl rfl rfl rfl bd22 rfl ?_)
    refine opY rfl rfl rfl rfl (aop_move (av := .ro a.length (enc eI a)) (.inl rfl) rfl rfl rfl ?_)
    refine opY rfl rfl rfl rfl (aop_move (av := .ro b.length (enc eI b)) (.inl rfl) rfl rfl rfl ?_)
    refine opY rfl rfl rfl rfl (call_ (r11_Meets a b (by first | omega | (simp; done) | decide | (simp; omega) | (simp at *; omega)) (by first | omega | (simp; done) | decide | (simp; omega) | (simp at *; omega))) rfl rfl rfl rfl rfl bd23 rfl ?_)
    refine opY rfl rfl rfl rfl (aop_eqB rfl rfl rfl rfl rfl ut4 ?_)
    refine opG rfl (aop_pick (b := true) (av := .v (.bool ((a.any (fun s => decide (s ∈ b))) == (a.any (fun s => decide (s ∈ b)))))) rfl rfl rfl rfl rfl ?_)
    refine opG rfl (aop_move (av := .v (.bool ((a.any (fun s => decide (s ∈ b))) == (a.any (fun s => decide (s ∈ b)))))) (.inl rfl) rfl rfl rfl ?_)
    refine aops_grp 8 32 (.v (.bool (((a.any (fun s => decide (s ∈ b))) == (a.any (fun s => decide (s ∈ b)))) && ((b.any (fun s => decide (s ∈ a))) == (a.any (fun s => decide (s ∈ b))))))) ?_ ?_
    · refine (Bool.eq_false_or_eq_true ((a.any (fun s => decide (s ∈ b))) == (a.any (fun s => decide (s ∈ b))))).elim (fun hg7 => ?_) (fun hg7 => ?_)
      · skip
        refine opY rfl rfl rfl (by show AV.v (.bool ((a.any (fun s => decide (s ∈ b))) == (a.any (fun s => decide (s ∈ b))))) = _; rw [hg7]) (aop_move (av := .ro b.length (enc eI b)) (.inl rfl) rfl rfl rfl ?_)
        refine opY rfl rfl rfl (by show AV.v (.bool ((a.any (fun s => decide (s ∈ b))) == (a.any (fun s => decide (s ∈ b))))) = _; rw [hg7]) (aop_move (av := .ro a.length (enc eI a)) (.inl rfl) rfl rfl rfl ?_)
        refine opY rfl rfl rfl (by show AV.v (.bool ((a.any (fun s => decide (s ∈ b))) == (a.any (fun s => decide (s ∈ b))))) = _; rw [hg7]) (call_ (c_Meets b a (by first | omega | (simp; done) | decide | (simp; omega) | (simp at *; omega)) (by first | omega | (simp; done) | decide | (simp; omega) | (simp at *; omega))) rfl rfl rfl rfl rfl bd22 rfl ?_)
        refine opY rfl rfl rfl (by show AV.v (.bool ((a.any (fun s => decide (s ∈ b))) == (a.any (fun s => decide (s ∈ b))))) = _; rw [hg7]) (aop_move (av := .ro a.length (enc eI a)) (.inl rfl) rfl rfl rfl ?_)
        refine opY rfl rfl rfl (by show AV.v (.bool ((a.any (fun s => decide (s ∈ b))) == (a.any (fun s => decide (s ∈ b))))) = _; rw [hg7]) (aop_move (av := .ro b.length (enc eI b)) (.inl rfl) rfl rfl rfl ?_)
        refine opY rfl rfl rfl (by show AV.v (.bool ((a.any (fun s => decide (s ∈ b))) == (a.any (fun s => decide (s ∈ b))))) = _; rw [hg7]) (call_ (r11_Meets a b (by first | omega | (simp; done) | decide | (simp; omega) | (simp at *; omega)) (by first | omega | (simp; done) | decide | (simp; omega) | (simp at *; omega))) rfl rfl rfl rfl rfl bd23 rfl ?_)
        refine opY rfl rfl rfl (by show AV.v (.bool ((a.any (fun s => decide (s ∈ b))) == (a.any (fun s => decide (s ∈ b))))) = _; rw [hg7]) (aop_eqB rfl rfl rfl rfl rfl ut4 ?_)
        refine opG rfl (aop_pick (b := ((a.any (fun s => decide (s ∈ b))) == (a.any (fun s => decide (s ∈ b))))) (av := .v (.bool ((b.any (fun s => decide (s ∈ a))) == (a.any (fun s => decide (s ∈ b)))))) rfl rfl rfl rfl ((congrArg (fun b_ => cond b_ _ _) hg7).trans rfl) ?_)
        refine op0 ?_
        exact imp_env (lee_both 32 _ _ (by rw [hg7] <;> rfl) (lee_out 31 _ rfl (lee_out 30 _ rfl (lee_out 29 _ rfl (lee_out 28 _ rfl (lee_out 27 _ rfl (lee_out 26 _ rfl (lee_out 25 _ rfl (lee_same _)))))))))
      · skip
        refine opN rfl rfl rfl rfl (by show yv (.bool ((a.any (fun s => decide (s ∈ b))) == (a.any (fun s => decide (s ∈ b))))) ≠ _; rw [hg7]; intro h; cases h) rfl rfl ?_
        refine opN rfl rfl rfl rfl (by show yv (.bool ((a.any (fun s => decide (s ∈ b))) == (a.any (fun s => decide (s ∈ b))))) ≠ _; rw [hg7]; intro h; cases h) rfl rfl ?_
        refine opN rfl rfl rfl rfl (by show yv (.bool ((a.any (fun s => decide (s ∈ b))) == (a.any (fun s => decide (s ∈ b))))) ≠ _; rw [hg7]; intro h; cases h) rfl rfl ?_
        refine opN rfl rfl rfl rfl (by show yv (.bool ((a.any (fun s => decide (s ∈ b))) == (a.any (fun s => decide (s ∈ b))))) ≠ _; rw [hg7]; intro h; cases h) rfl rfl ?_
        refine opN rfl rfl rfl rfl (by show yv (.bool ((a.any (fun s => decide (s ∈ b))) == (a.any (fun s => decide (s ∈ b))))) ≠ _; rw [hg7]; intro h; cases h) rfl rfl ?_
        refine opN rfl rfl rfl rfl (by show yv (.bool ((a.any (fun s => decide (s ∈ b))) == (a.any (fun s => decide (s ∈ b))))) ≠ _; rw [hg7]; intro h; cases h) rfl rfl ?_
        refine opN rfl rfl rfl rfl (by show yv (.bool ((a.any (fun s => decide (s ∈ b))) == (a.any (fun s => decide (s ∈ b))))) ≠ _; rw [hg7]; intro h; cases h) rfl rfl ?_
        refine opG rfl (aop_pick (b := ((a.any (fun s => decide (s ∈ b))) == (a.any (fun s => decide (s ∈ b))))) (av := .v (.bool false)) rfl rfl rfl rfl ((congrArg (fun b_ => cond b_ _ _) hg7).trans rfl) ?_)
        refine op0 ?_
        exact imp_env (lee_both 32 _ _ (by rw [hg7] <;> rfl) (lee_out 31 _ rfl (lee_out 30 _ rfl (lee_out 29 _ rfl (lee_out 28 _ rfl (lee_out 27 _ rfl (lee_out 26 _ rfl (lee_out 25 _ rfl (lee_same _)))))))))
    refine opG rfl (aop_move (av := .v (.bool (((a.any (fun s => decide (s ∈ b))) == (a.any (fun s => decide (s ∈ b)))) && ((b.any (fun s => decide (s ∈ a))) == (a.any (fun s => decide (s ∈ b))))))) (.inr rfl) rfl rfl rfl ?_)
    refine op0 ?_
    show AWP _ _ _ _ _
    refine awp_imp ⟨(upd none_ 4 (.v (.bool (((a.any (fun s => decide (s ∈ b))) == (a.any (fun s => decide (s ∈ b)))) && ((b.any (fun s => decide (s ∈ a))) == (a.any (fun s => decide (s ∈ b)))))))), noOb⟩ (imp_le ⟨(lee_upd 4 _ rfl (lee_none _)), fun _ => .inl rfl⟩) ?_
    refine awp_ret ?_
    exact fret (av := .v (.bool (((a.any (fun s => decide (s ∈ b))) == (a.any (fun s => decide (s ∈ b)))) && ((b.any (fun s => decide (s ∈ a))) == (a.any (fun s => decide (s ∈ b))))))) rfl rfl (by rw [meets_swap a b]; simp)
end Go.Lo
