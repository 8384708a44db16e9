/- Walks of Go functions in the logic of values. -/
import Derived.Test.YtmmdkioohjninaaDoorFnSTy
import Derived.Test.YtmmdkioohjninaaDoorDef
import Derived.Test.YtmmdkioohjninaaDoorLay
import Derived.Test.YtmmdkioohjninaaDoorSt
import Derived.Test.YtmmdkioohjninaaDoorFnA
import Derived.Test.YtmmdkioohjninaaDoorFnC
import Derived.Test.YtmmdkioohjninaaDoorFnM
import Derived.Test.YtmmdkioohjninaaDoorFnF
set_option linter.unusedVariables false
set_option linter.unusedSimpArgs false
namespace Go.Lo
open Go.Proofs
set_option maxRecDepth 10000 in
set_option maxHeartbeats 16000000 in
theorem ixI (l : List Int) (v : Int) (hl : l.length ≤ 4294967296) : Fn Tryd.prog 47 [.ro l.length (enc eI l), .v (.int .i64 v)] (.v (.int .i64 (idxB (fun x => decide (v = x)) l))) := by
  refine fnE_of_body (N := 19) Tryd.func47 rfl rfl (resOf1 rfl) (by simp) (fun w0 X hL_ => ?_)
  refine seqR ?_
  refine opG rfl (aop_move (av := .v (.int .i64 0)) (.inr rfl) rfl rfl rfl ?_)
  refine op0 ?_
  show AWP _ _ _ _ _
  refine awp_seq ?_
  refine seqR ?_
  refine opG rfl (aop_move (av := .ro l.length (enc eI l)) (.inl rfl) rfl rfl rfl ?_)
  refine opG rfl (aop_len rfl rfl rfl rfl ut47 (len_ro rfl) ?_)
  refine opG rfl (aop_move (av := .v (.int .i64 0)) (.inl rfl) rfl rfl rfl ?_)
  refine op0 ?_
  show AWP _ _ _ _ _
  refine awp_imp ⟨(upd (upd (upd (upd (upd none_ 0 (.ro l.length (enc eI l))) 1 (.v (.int .i64 v))) 4 (.v (.int .i64 0))) 7 (.v (.int .i64 (l.length : Int)))) 8 (.v (.int .i64 0))), noOb⟩ (imp_le ⟨(lee_upd 8 _ rfl (lee_upd 7 _ rfl (lee_upd 4 _ rfl (lee_upd 1 _ rfl (lee_upd 0 _ rfl (lee_none _)))))), fun _ => .inl rfl⟩) ?_
  refine awp_block ?_
  refine awp_countI (fun k => ⟨(upd (upd (upd (upd (upd none_ 0 (.ro l.length (enc eI l))) 1 (.v (.int .i64 v))) 4 (.v (.int .i64 0))) 7 (.v (.int .i64 (l.length : Int)))) 8 (.v (.int .i64 (k : Int)))), noOb⟩) (fun k => (l.take k).any (fun x => decide (v = x)) = false) (l.length) ?_ (by simp) (fun k hk_k hinv => ?_)
  · skip
    exact imp_ler [] (ler0 (sr_same 8 (.v (.int .i64 (0 : Int))) rfl NoI.out (sr_same 7 (.v (.int .i64 (l.length : Int))) rfl NoI.out (sr_same 4 (.v (.int .i64 0)) rfl NoI.out (sr_same 1 (.v (.int .i64 v)) rfl NoI.out (sr_same 0 (.ro l.length (enc eI l)) rfl NoI.out sr_none)))))) (keep_of rfl)
  refine seqR ?_
  refine opG rfl (aop_binI (u := (.bool (decide ((k : Int) < (l.length : Int))))) rfl rfl rfl rfl rfl trivial rfl ?_)
  refine op0 ?_
  show AWP _ _ _ _ _
  refine awp_seq ?_
  refine awp_cond (decide ((k : Int) < (l.length : Int))) rfl rfl (fun hc0 => ?_) (fun hc0 => ?_)
  · skip
    have hf1 := of_decide_eq_true hc0
    refine awp_skip ?_
    show AWP _ _ _ _ _
    refine awp_seq ?_
    refine awp_block ?_
    refine seqR ?_
    refine opG rfl (aop_move (av := .v (.int .i64 (k : Int))) (.inl rfl) rfl rfl rfl ?_)
    refine opG rfl (aop_move (av := .v (.int .i64 (k : Int))) (.inr rfl) rfl rfl rfl ?_)
    refine op0 ?_
    show AWP _ _ _ _ _
    refine seqR ?_
    refine opG rfl (aop_move (av := .v (.int .i64 v)) (.inl rfl) rfl rfl rfl ?_)
    refine opG rfl (aop_move (av := .ro l.length (enc eI l)) (.inl rfl) rfl rfl rfl ?_)
    refine opG rfl (aop_move (av := .v (.int .i64 (k : Int))) (.inl rfl) rfl rfl rfl ?_)
    refine opG rfl (aop_ixE 0 rfl rfl rfl ut47 sz3 rfl rfl (fun _ => rfl) rfl (by first | omega | (simp; done) | decide | (simp; omega) | (simp at *; omega)) ?_)
    refine opG rfl (aop_ld (av := .v (.int .i64 (l.getD k 0))) rfl rfl rfl ag3 rfl rfl ?_)
    refine opG rfl (aop_binI (u := (.bool (v == (l.getD k 0)))) rfl rfl rfl rfl rfl trivial rfl ?_)
    refine op0 ?_
    show AWP _ _ _ _ _
    refine awp_imp ⟨(upd (upd (upd (upd (upd (upd (upd none_ 0 (.ro l.length (enc eI l))) 1 (.v (.int .i64 v))) 4 (.v (.int .i64 0))) 5 (.v (.int .i64 (k : Int)))) 7 (.v (.int .i64 (l.length : Int)))) 8 (.v (.int .i64 (k : Int)))) 16 (.v (.bool (v == (l.getD k 0))))), noOb⟩ (imp_le ⟨(lee_upd 16 _ rfl (lee_upd 8 _ rfl (lee_upd 7 _ rfl (lee_upd 5 _ rfl (lee_upd 4 _ rfl (lee_upd 1 _ rfl (lee_upd 0 _ rfl (lee_none _)))))))), fun _ => .inl rfl⟩) ?_
    refine awp_cond (v == (l.getD k 0)) rfl rfl (fun hc1 => ?_) (fun hc1 => ?_)
    · skip
      have hf2 := (beq_iff_eq).1 hc1
      refine seqR ?_
      refine opG rfl (aop_move (av := .v (.int .i64 (k : Int))) (.inl rfl) rfl rfl rfl ?_)
      refine opG rfl (aop_move (av := .v (.int .i64 (k : Int))) (.inr rfl) rfl rfl rfl ?_)
      refine op0 ?_
      show AWP _ _ _ _ _
      refine awp_ret ?_
      exact fret (av := .v (.int .i64 (k : Int))) rfl rfl (by rw [idxB_stop (f := fun x => decide (v = x)) 0 (by omega) hinv (by simpa using hc1)] <;> rfl)
    · skip
      have hf3 := (beq_eq_false_iff_ne).1 hc1
      refine awp_skip ?_
      show AWP _ _ _ _ _
      refine regR ?_
      refine opG rfl (aop_binI (u := (.int .i64 ((k + 1 : Nat) : Int))) rfl rfl rfl rfl rfl trivial (addN (by omega)) ?_)
      refine opG rfl (aop_move (av := .v (.int .i64 ((k + 1 : Nat) : Int))) (.inl rfl) rfl rfl rfl ?_)
      refine op0 ?_
      show _ ∧ _
      refine ⟨by omega, (any_step 0 (by omega) hinv (by simpa using hc1)), ?_⟩
      exact imp_ler [] (ler0 (sr_same 8 (.v (.int .i64 ((k + 1) : Int))) rfl NoI.out (sr_same 7 (.v (.int .i64 (l.length : Int))) rfl NoI.out (sr_same 4 (.v (.int .i64 0)) rfl NoI.out (sr_same 1 (.v (.int .i64 v)) rfl NoI.out (sr_same 0 (.ro l.length (enc eI l)) rfl NoI.out sr_none)))))) (keep_of rfl)
  · skip
    have hf4 := of_decide_eq_false hc0
    refine awp_exit ?_
    show AWP _ _ _ _ _
    refine seqR ?_
    refine opG rfl (aop_move (av := .v (.int .i64 (-1))) (.inr rfl) rfl rfl rfl ?_)
    refine op0 ?_
    show AWP _ _ _ _ _
    refine awp_ret ?_
    exact fret (av := .v (.int .i64 (-1))) rfl rfl (by rw [idxB_end (f := fun x => decide (v = x)) (by omega) hinv] <;> rfl)

set_option maxRecDepth 10000 in
set_option maxHeartbeats 16000000 in
theorem coI (l : List Int) (v : Int) (hl : l.length ≤ 4294967296) : Fn Tryd.prog 38 [.ro l.length (enc eI l), .v (.int .i64 v)] (.v (.bool (decide (v ∈ l)))) := by
  refine fnE_of_body (N := 9) Tryd.func38 rfl rfl (resOf1 rfl) (by simp) (fun w0 X hL_ => ?_)
  refine seqR ?_
  refine opG rfl (aop_move (av := .v (.bool false)) (.inr rfl) rfl rfl rfl ?_)
  refine op0 ?_
  show AWP _ _ _ _ _
  refine seqR ?_
  refine opG rfl (aop_move (av := .ro l.length (enc eI l)) (.inl rfl) rfl rfl rfl ?_)
  refine opG rfl (aop_move (av := .v (.int .i64 v)) (.inl rfl) rfl rfl rfl ?_)
  refine opG rfl (call_ (ixI l v (by first | omega | (simp; done) | decide | (simp; omega) | (simp at *; omega))) rfl rfl rfl rfl rfl bd47 rfl ?_)
  refine opG rfl (aop_binI (u := (.bool (decide ((idxB (fun x => decide (v = x)) l) ≥ 0)))) rfl rfl rfl rfl rfl trivial rfl ?_)
  refine opG rfl (aop_move (av := .v (.bool (decide ((idxB (fun x => decide (v = x)) l) ≥ 0)))) (.inr rfl) rfl rfl rfl ?_)
  refine op0 ?_
  show AWP _ _ _ _ _
  refine awp_imp ⟨(upd none_ 4 (.v (.bool (decide ((idxB (fun x => decide (v = x)) l) ≥ 0))))), noOb⟩ (imp_le ⟨(lee_upd 4 _ rfl (lee_none _)), fun _ => .inl rfl⟩) ?_
  refine awp_ret ?_
  exact fret (av := .v (.bool (decide ((idxB (fun x => decide (v = x)) l) ≥ 0)))) rfl rfl (by rw [idxB_mem])

set_option maxRecDepth 10000 in
set_option maxHeartbeats 16000000 in
theorem g_Part1 (l : List Int) (s : Int) (hl : l.length ≤ 4294967296) : Fn Tryd.prog 37 [.ro l.length (enc eI l), .rp [.v (.int .i64 s)]] (.v (.bool (decide (s ∈ l)))) := by
  refine fnE_of_body (N := 7) Tryd.func37 rfl rfl (resOf1 rfl) (by simp) (fun w0 X hL_ => ?_)
  refine seqR ?_
  refine opG rfl (aop_move (av := .v (.bool false)) (.inr rfl) rfl rfl rfl ?_)
  refine op0 ?_
  show AWP _ _ _ _ _
  refine seqR ?_
  refine opG rfl (aop_move (av := .ro l.length (enc eI l)) (.inl rfl) rfl rfl rfl ?_)
  refine opG rfl (aop_ld (av := .v (.int .i64 s)) rfl rfl rfl ag3 rfl rfl ?_)
  refine opG rfl (call_ (coI l s (by first | omega | (simp; done) | decide | (simp; omega) | (simp at *; omega))) rfl rfl rfl rfl rfl bd38 rfl ?_)
  refine opG rfl (aop_move (av := .v (.bool (decide (s ∈ l)))) (.inr rfl) rfl rfl rfl ?_)
  refine op0 ?_
  show AWP _ _ _ _ _
  refine awp_imp ⟨(upd none_ 3 (.v (.bool (decide (s ∈ l))))), noOb⟩ (imp_le ⟨(lee_upd 3 _ rfl (lee_none _)), fun _ => .inl rfl⟩) ?_
  refine awp_ret ?_
  exact fret (av := .v (.bool (decide (s ∈ l)))) rfl rfl rfl

set_option maxRecDepth 10000 in
set_option maxHeartbeats 16000000 in
theorem ixIL (parts : List (List Int)) (s : Int) (hp : parts.length ≤ 65536) (hpl : ∀ x, x ∈ parts → x.length ≤ 65536) : Fn Tryd.prog 36 [.ro parts.length (enc eIL parts), .fn 37 [.rp [.v (.int .i64 s)]]] (.v (.int .i64 (partI parts s))) := by
  refine fnE_of_body (N := 19) Tryd.func36 rfl rfl (resOf1 rfl) (by simp) (fun w0 X hL_ => ?_)
  refine seqR ?_
  refine opG rfl (aop_move (av := .v (.int .i64 0)) (.inr rfl) rfl rfl rfl ?_)
  refine op0 ?_
  show AWP _ _ _ _ _
  refine awp_seq ?_
  refine seqR ?_
  refine opG rfl (aop_move (av := .ro parts.length (enc eIL parts)) (.inl rfl) rfl rfl rfl ?_)
  refine opG rfl (aop_len rfl rfl rfl rfl ut36 (len_ro rfl) ?_)
  refine opG rfl (aop_move (av := .v (.int .i64 0)) (.inl rfl) rfl rfl rfl ?_)
  refine op0 ?_
  show AWP _ _ _ _ _
  refine awp_imp ⟨(upd (upd (upd (upd (upd none_ 0 (.ro parts.length (enc eIL parts))) 1 (.fn 37 [.rp [.v (.int .i64 s)]])) 4 (.v (.int .i64 0))) 7 (.v (.int .i64 (parts.length : Int)))) 8 (.v (.int .i64 0))), noOb⟩ (imp_le ⟨(lee_upd 8 _ rfl (lee_upd 7 _ rfl (lee_upd 4 _ rfl (lee_upd 1 _ rfl (lee_upd 0 _ rfl (lee_none _)))))), fun _ => .inl rfl⟩) ?_
  refine awp_block ?_
  refine awp_countI (fun k => ⟨(upd (upd (upd (upd (upd none_ 0 (.ro parts.length (enc eIL parts))) 1 (.fn 37 [.rp [.v (.int .i64 s)]])) 4 (.v (.int .i64 0))) 7 (.v (.int .i64 (parts.length : Int)))) 8 (.v (.int .i64 (k : Int)))), noOb⟩) (fun k => (parts.take k).any (fun l => decide (s ∈ l)) = false) (parts.length) ?_ (by simp) (fun k hk_k hinv => ?_)
  · skip
    exact imp_ler [] (ler0 (sr_same 8 (.v (.int .i64 (0 : Int))) rfl NoI.out (sr_same 7 (.v (.int .i64 (parts.length : Int))) rfl NoI.out (sr_same 4 (.v (.int .i64 0)) rfl NoI.out (sr_same 1 (.fn 37 [.rp [.v (.int .i64 s)]]) rfl NoI.out (sr_same 0 (.ro parts.length (enc eIL parts)) rfl NoI.out sr_none)))))) (keep_of rfl)
  refine seqR ?_
  refine opG rfl (aop_binI (u := (.bool (decide ((k : Int) < (parts.length : Int))))) rfl rfl rfl rfl rfl trivial rfl ?_)
  refine op0 ?_
  show AWP _ _ _ _ _
  refine awp_seq ?_
  refine awp_cond (decide ((k : Int) < (parts.length : Int))) rfl rfl (fun hc0 => ?_) (fun hc0 => ?_)
  · skip
    have hf1 := of_decide_eq_true hc0
    have hpk := hpl _ (getD_mem (l := parts) (k := k) [] (by omega))
    refine awp_skip ?_
    show AWP _ _ _ _ _
    refine awp_seq ?_
    refine awp_block ?_
    refine seqR ?_
    refine opG rfl (aop_move (av := .v (.int .i64 (k : Int))) (.inl rfl) rfl rfl rfl ?_)
    refine opG rfl (aop_move (av := .v (.int .i64 (k : Int))) (.inr rfl) rfl rfl rfl ?_)
    refine op0 ?_
    show AWP _ _ _ _ _
    refine seqR ?_
    refine opG rfl (aop_move (av := .fn 37 [.rp [.v (.int .i64 s)]]) (.inl rfl) rfl rfl rfl ?_)
    refine opG rfl (aop_move (av := .ro parts.length (enc eIL parts)) (.inl rfl) rfl rfl rfl ?_)
    refine opG rfl (aop_move (av := .v (.int .i64 (k : Int))) (.inl rfl) rfl rfl rfl ?_)
    refine opG rfl (aop_ixE [] rfl rfl rfl ut36 sz47 rfl rfl (fun _ => rfl) rfl (by first | omega | (simp; done) | decide | (simp; omega) | (simp at *; omega)) ?_)
    refine opG rfl (aop_ld (av := .ro ((parts.getD k []).length) (enc eI (parts.getD k []))) rfl rfl rfl ag47 rfl rfl ?_)
    refine opG rfl (call_ (g_Part1 (parts.getD k []) s (by first | omega | (simp; done) | decide | (simp; omega) | (simp at *; omega))) rfl rfl rfl rfl rfl bd37 rfl ?_)
    refine op0 ?_
    show AWP _ _ _ _ _
    refine awp_imp ⟨(upd (upd (upd (upd (upd (upd (upd none_ 0 (.ro parts.length (enc eIL parts))) 1 (.fn 37 [.rp [.v (.int .i64 s)]])) 4 (.v (.int .i64 0))) 5 (.v (.int .i64 (k : Int)))) 7 (.v (.int .i64 (parts.length : Int)))) 8 (.v (.int .i64 (k : Int)))) 16 (.v (.bool (decide (s ∈ (parts.getD k [])))))), noOb⟩ (imp_le ⟨(lee_upd 16 _ rfl (lee_upd 8 _ rfl (lee_upd 7 _ rfl (lee_upd 5 _ rfl (lee_upd 4 _ rfl (lee_upd 1 _ rfl (lee_upd 0 _ rfl (lee_none _)))))))), fun _ => .inl rfl⟩) ?_
    refine awp_cond (decide (s ∈ (parts.getD k []))) rfl rfl (fun hc1 => ?_) (fun hc1 => ?_)
    · skip
      refine seqR ?_
      refine opG rfl (aop_move (av := .v (.int .i64 (k : Int))) (.inl rfl) rfl rfl rfl ?_)
      refine opG rfl (aop_move (av := .v (.int .i64 (k : Int))) (.inr rfl) rfl rfl rfl ?_)
      refine op0 ?_
      show AWP _ _ _ _ _
      refine awp_ret ?_
      exact fret (av := .v (.int .i64 (k : Int))) rfl rfl (by unfold partI; rw [idxB_stop [] (by omega) hinv hc1] <;> rfl)
    · skip
      refine awp_skip ?_
      show AWP _ _ _ _ _
      refine regR ?_
      refine opG rfl (aop_binI (u := (.int .i64 ((k + 1 : Nat) : Int))) rfl rfl rfl rfl rfl trivial (addN (by omega)) ?_)
      refine opG rfl (aop_move (av := .v (.int .i64 ((k + 1 : Nat) : Int))) (.inl rfl) rfl rfl rfl ?_)
      refine op0 ?_
      show _ ∧ _
      refine ⟨by omega, (any_step [] (by omega) hinv hc1), ?_⟩
      exact imp_ler [] (ler0 (sr_same 8 (.v (.int .i64 ((k + 1) : Int))) rfl NoI.out (sr_same 7 (.v (.int .i64 (parts.length : Int))) rfl NoI.out (sr_same 4 (.v (.int .i64 0)) rfl NoI.out (sr_same 1 (.fn 37 [.rp [.v (.int .i64 s)]]) rfl NoI.out (sr_same 0 (.ro parts.length (enc eIL parts)) rfl NoI.out sr_none)))))) (keep_of rfl)
  · skip
    have hf2 := of_decide_eq_false hc0
    refine awp_exit ?_
    show AWP _ _ _ _ _
    refine seqR ?_
    refine opG rfl (aop_move (av := .v (.int .i64 (-1))) (.inr rfl) rfl rfl rfl ?_)
    refine op0 ?_
    show AWP _ _ _ _ _
    refine awp_ret ?_
    exact fret (av := .v (.int .i64 (-1))) rfl rfl (by unfold partI; rw [idxB_end (by omega) hinv] <;> rfl)

set_option maxRecDepth 10000 in
set_option maxHeartbeats 16000000 in
theorem g_New (parts : List (List Int))  : Fn Tryd.prog 31 [.agg [.one, .one, .ro parts.length (enc eIL parts), .one, .one, .one, .one, .one, .one, .one]] (.rp [.one, .one, .ro parts.length (enc eIL parts), .one, .one, .one, .one, .one, .one, .one]) := by
  refine fnE_of_body (N := 6) Tryd.func31 rfl rfl (resOf1 rfl) (by simp) (fun w0 X hL_ => ?_)
  refine seqR ?_
  refine opG rfl (aop_box 51 rfl rfl rfl rfl rfl rfl rfl ?_)
  refine opG rfl (aop_move (av := .v (.pointer none)) (.inr rfl) rfl rfl rfl ?_)
  refine op0 ?_
  show AWP _ _ _ _ _
  refine seqR ?_
  refine opG rfl (aop_ldB (cells' := [.one, .one, .ro parts.length (enc eIL parts), .one, .one, .one, .one, .one, .one, .one]) rfl rfl rfl ag39 sz39 rfl rfl rfl rfl ?_)
  refine opG rfl (aop_build rfl rfl rfl pl94 rfl ?_)
  refine opG rfl (aop_box 52 rfl rfl rfl rfl rfl rfl rfl ?_)
  refine opG rfl (aop_move (av := .pt 52 0) (.inr rfl) rfl rfl rfl ?_)
  refine op0 ?_
  show AWP _ _ _ _ _
  refine awp_imp ⟨(upd none_ 2 (.pt 52 0)), (updO (updO noOb 51 (.live ⟨[.one, .one, .ro parts.length (enc eIL parts), .one, .one, .one, .one, .one, .one, .one], 39, 1⟩)) 52 (.live ⟨[.one, .one, .ro parts.length (enc eIL parts), .one, .one, .one, .one, .one, .one, .one], 94, 1⟩))⟩ (imp_le ⟨(lee_upd 2 _ rfl (lee_none _)), fun _ => .inl rfl⟩) ?_
  refine awp_imp _ (imp_frozen rfl (fun _ h => h) (lee_lend 2 (.rp [.one, .one, .ro parts.length (enc eIL parts), .one, .one, .one, .one, .one, .one, .one]) (lend_pt rfl (lends_cons (lend_n (av := .one)) (lends_cons (lend_n (av := .one)) (lends_cons (lend_n (av := .ro parts.length (enc eIL parts))) (lends_cons (lend_n (av := .one)) (lends_cons (lend_n (av := .one)) (lends_cons (lend_n (av := .one)) (lends_cons (lend_n (av := .one)) (lends_cons (lend_n (av := .one)) (lends_cons (lend_n (av := .one)) (lends_cons (lend_n (av := .one)) lends_nil))))))))))) lee_lend0)) ?_
  refine awp_ret ?_
  exact fret (av := .rp [.one, .one, .ro parts.length (enc eIL parts), .one, .one, .one, .one, .one, .one, .one]) rfl rfl rfl

set_option maxRecDepth 10000 in
set_option maxHeartbeats 16000000 in
theorem g_Part (parts : List (List Int)) (s : Int) (hp : parts.length ≤ 65536) (hpl : ∀ x, x ∈ parts → x.length ≤ 65536) : Fn Tryd.prog 32 [.rp [.one, .one, .ro parts.length (enc eIL parts), .one, .one, .one, .one, .one, .one, .one], .v (.int .i64 s)] (.v (.int .i64 (partI parts s))) := by
  refine fnE_of_body (N := 14) Tryd.func32 rfl rfl (resOf1 rfl) (by simp) (fun w0 X hL_ => ?_)
  refine seqR ?_
  refine opG rfl (aop_box 51 rfl rfl rfl rfl rfl rfl rfl ?_)
  refine opG rfl (aop_move (av := .v (.int .i64 0)) (.inr rfl) rfl rfl rfl ?_)
  refine op0 ?_
  show AWP _ _ _ _ _
  refine awp_seq ?_
  refine seqR ?_
  refine opG rfl (aop_move (av := .rp [.one, .one, .ro parts.length (enc eIL parts), .one, .one, .one, .one, .one, .one, .one]) (.inl rfl) rfl rfl rfl ?_)
  refine opG rfl (aop_ptNil rfl rfl rfl ut74 rfl rfl rfl (.inl ⟨rfl, rfl⟩) ?_)
  refine op0 ?_
  show AWP _ _ _ _ _
  refine awp_imp ⟨(upd (upd (upd (upd none_ 0 (.rp [.one, .one, .ro parts.length (enc eIL parts), .one, .one, .one, .one, .one, .one, .one])) 3 (.pt 51 0)) 4 (.v (.int .i64 0))) 6 (.v (.bool false))), (updO noOb 51 (.live ⟨[.v (.int .i64 s)], 3, 1⟩))⟩ (imp_le ⟨(lee_upd 6 _ rfl (lee_upd 4 _ rfl (lee_upd 3 _ rfl (lee_upd 0 _ rfl (lee_none _))))), fun _ => .inl rfl⟩) ?_
  refine awp_cond false rfl rfl (fun h => by cases h) (fun _ => ?_)
  refine awp_skip ?_
  show AWP _ _ _ _ _
  refine seqR ?_
  refine opG rfl (aop_move (av := .rp [.one, .one, .ro parts.length (enc eIL parts), .one, .one, .one, .one, .one, .one, .one]) (.inl rfl) rfl rfl rfl ?_)
  refine opG rfl (aop_nilCheck rfl rfl rfl rfl rfl ?_)
  refine opG rfl (aop_fieldAddr (av := .rp [.one, .one, .ro parts.length (enc eIL parts), .one, .one, .one, .one, .one, .one, .one]) (av' := .rp [.one, .one, .ro parts.length (enc eIL parts), .one, .one, .one, .one, .one, .one, .one]) rfl rfl rfl ft94_0 sz39 rfl rfl rfl ?_)
  refine opG rfl (aop_fieldAddr (av := .rp [.one, .one, .ro parts.length (enc eIL parts), .one, .one, .one, .one, .one, .one, .one]) (av' := .rp [.ro parts.length (enc eIL parts), .one, .one, .one, .one, .one, .one, .one]) rfl rfl rfl ft39_2 sz36 rfl rfl rfl ?_)
  refine opG rfl (aop_ld (av := .ro parts.length (enc eIL parts)) rfl rfl rfl ag36 rfl rfl ?_)
  refine opG rfl (aop_makeFunc (caps := [.tmp 3]) rfl rfl rfl rfl ?_)
  refine opG rfl (callL_ (ixIL parts s hp hpl) rfl rfl rfl rfl rfl bd36 (lends_cons (lend_n (av := .ro parts.length (enc eIL parts))) (lends_cons (lend_fn (lends_cons (lend_pt rfl (lends_cons (lend_n (av := .v (.int .i64 s))) lends_nil)) lends_nil)) lends_nil)) ?_)
  refine opG rfl (aop_move (av := .v (.int .i64 (partI parts s))) (.inr rfl) rfl rfl rfl ?_)
  refine op0 ?_
  show AWP _ _ _ _ _
  refine awp_imp ⟨(upd none_ 4 (.v (.int .i64 (partI parts s)))), (updO noOb 51 (.live ⟨[.v (.int .i64 s)], 3, 1⟩))⟩ (imp_le ⟨(lee_upd 4 _ rfl (lee_none _)), fun _ => .inl rfl⟩) ?_
  refine awp_ret ?_
  exact fret (av := .v (.int .i64 (partI parts s))) rfl rfl rfl

set_option maxRecDepth 10000 in
set_option maxHeartbeats 16000000 in
theorem r05_Part (parts : List (List Int)) (s : Int) (hp : parts.length ≤ 65536) (hpl : ∀ x, x ∈ parts → x.length ≤ 65536) : Fn Tryd.prog 19 [.agg [.one, .one, .ro parts.length (enc eIL parts), .one, .one, .one, .one, .one, .one, .one], .v (.int .i64 s)] (.v (.int .i64 (partI parts s))) := by
  refine fnE_of_body (N := 21) Tryd.func19 rfl rfl (resOf1 rfl) (by simp) (fun w0 X hL_ => ?_)
  refine seqR ?_
  refine opG rfl (aop_box 51 rfl rfl rfl rfl rfl rfl rfl ?_)
  refine opG rfl (aop_move (av := .v (.int .i64 0)) (.inr rfl) rfl rfl rfl ?_)
  refine op0 ?_
  show AWP _ _ _ _ _
  refine awp_seq ?_
  refine seqR ?_
  refine opG rfl (aop_move (av := .v (.int .i64 0)) (.inr rfl) rfl rfl rfl ?_)
  refine op0 ?_
  show AWP _ _ _ _ _
  refine awp_block ?_
  refine awp_countI (fun k => ⟨(upd (upd (upd (upd none_ 1 (.v (.int .i64 s))) 2 (.pt 2 0)) 4 (.v (.int .i64 0))) 5 (.v (.int .i64 (k : Int)))), (updO noOb 2 (.live ⟨[.one, .one, .ro parts.length (enc eIL parts), .one, .one, .one, .one, .one, .one, .one], 39, 1⟩))⟩) (fun k => (parts.take k).any (fun l => decide (s ∈ l)) = false) (parts.length) ?_ (by simp) (fun k hk_k hinv => ?_)
  · skip
    exact imp_ler [(51, 2)] (ler1 51 2 _ _ rfl rfl (NoIL.out (l := [.one, .one, .ro parts.length (enc eIL parts), .one, .one, .one, .one, .one, .one, .one])) (sr_same 5 (.v (.int .i64 (0 : Int))) rfl NoI.out (sr_same 4 (.v (.int .i64 0)) rfl NoI.out (sr_map 2 (.pt 2 0) (by first | exact Ok.sl _ _ _ (by first | decide | simp) | exact Ok.pt _ _ (by first | decide | simp)) rfl (sr_same 1 (.v (.int .i64 s)) rfl NoI.out sr_none))))) (keep_of rfl)
  refine awp_seq ?_
  refine seqR ?_
  refine opG rfl (aop_move (av := .v (.int .i64 (k : Int))) (.inl rfl) rfl rfl rfl ?_)
  refine opG rfl (aop_fieldAddr (av := .pt 2 0) (av' := .pt 2 2) rfl rfl rfl ft39_2 sz36 rfl rfl rfl ?_)
  refine opG rfl (aop_ld (av := .ro parts.length (enc eIL parts)) rfl rfl rfl ag36 rfl rfl ?_)
  refine opG rfl (aop_len rfl rfl rfl rfl ut36 (len_ro rfl) ?_)
  refine opG rfl (aop_binI (u := (.bool (decide ((k : Int) < (parts.length : Int))))) rfl rfl rfl rfl rfl trivial rfl ?_)
  refine op0 ?_
  show AWP _ _ _ _ _
  refine awp_imp ⟨(upd (upd (upd (upd (upd none_ 1 (.v (.int .i64 s))) 2 (.pt 2 0)) 4 (.v (.int .i64 0))) 5 (.v (.int .i64 (k : Int)))) 10 (.v (.bool (decide ((k : Int) < (parts.length : Int)))))), (updO noOb 2 (.live ⟨[.one, .one, .ro parts.length (enc eIL parts), .one, .one, .one, .one, .one, .one, .one], 39, 1⟩))⟩ (imp_le ⟨(lee_upd 10 _ rfl (lee_upd 5 _ rfl (lee_upd 4 _ rfl (lee_upd 2 _ rfl (lee_upd 1 _ rfl (lee_none _)))))), fun _ => .inl rfl⟩) ?_
  refine awp_cond (decide ((k : Int) < (parts.length : Int))) rfl rfl (fun hc0 => ?_) (fun hc0 => ?_)
  · skip
    have hf1 := of_decide_eq_true hc0
    have hpk := hpl _ (getD_mem (l := parts) (k := k) [] (by omega))
    refine awp_skip ?_
    show AWP _ _ _ _ _
    refine awp_seq ?_
    refine awp_block ?_
    refine seqR ?_
    refine opG rfl (aop_fieldAddr (av := .pt 2 0) (av' := .pt 2 2) rfl rfl rfl ft39_2 sz36 rfl rfl rfl ?_)
    refine opG rfl (aop_ld (av := .ro parts.length (enc eIL parts)) rfl rfl rfl ag36 rfl rfl ?_)
    refine opG rfl (aop_move (av := .v (.int .i64 (k : Int))) (.inl rfl) rfl rfl rfl ?_)
    refine opG rfl (aop_ixE [] rfl rfl rfl ut36 sz47 rfl rfl (fun _ => rfl) rfl (by first | omega | (simp; done) | decide | (simp; omega) | (simp at *; omega)) ?_)
    refine opG rfl (aop_ld (av := .ro ((parts.getD k []).length) (enc eI (parts.getD k []))) rfl rfl rfl ag47 rfl rfl ?_)
    refine opG rfl (aop_move (av := .v (.int .i64 s)) (.inl rfl) rfl rfl rfl ?_)
    refine opG rfl (call_ (r01_Has (parts.getD k []) s (by first | omega | (simp; done) | decide | (simp; omega) | (simp at *; omega))) rfl rfl rfl rfl rfl bd21 rfl ?_)
    refine op0 ?_
    show AWP _ _ _ _ _
    refine awp_imp ⟨(upd (upd (upd (upd (upd none_ 1 (.v (.int .i64 s))) 2 (.pt 2 0)) 4 (.v (.int .i64 0))) 5 (.v (.int .i64 (k : Int)))) 19 (.v (.bool (decide (s ∈ (parts.getD k [])))))), (updO noOb 2 (.live ⟨[.one, .one, .ro parts.length (enc eIL parts), .one, .one, .one, .one, .one, .one, .one], 39, 1⟩))⟩ (imp_le ⟨(lee_upd 19 _ rfl (lee_upd 5 _ rfl (lee_upd 4 _ rfl (lee_upd 2 _ rfl (lee_upd 1 _ rfl (lee_none _)))))), fun _ => .inl rfl⟩) ?_
    refine awp_cond (decide (s ∈ (parts.getD k []))) rfl rfl (fun hc1 => ?_) (fun hc1 => ?_)
    · skip
      refine seqR ?_
      refine opG rfl (aop_move (av := .v (.int .i64 (k : Int))) (.inl rfl) rfl rfl rfl ?_)
      refine opG rfl (aop_move (av := .v (.int .i64 (k : Int))) (.inr rfl) rfl rfl rfl ?_)
      refine op0 ?_
      show AWP _ _ _ _ _
      refine awp_ret ?_
      exact fret (av := .v (.int .i64 (k : Int))) rfl rfl (by unfold partI; rw [idxB_stop [] (by omega) hinv hc1] <;> rfl)
    · skip
      refine awp_skip ?_
      show AWP _ _ _ _ _
      refine regR ?_
      refine opG rfl (aop_move (av := .v (.int .i64 (k : Int))) (.inl rfl) rfl rfl rfl ?_)
      refine opG rfl (aop_binI (u := (.int .i64 ((k + 1 : Nat) : Int))) rfl rfl rfl rfl rfl trivial (addN (by omega)) ?_)
      refine opG rfl (aop_move (av := .v (.int .i64 ((k + 1 : Nat) : Int))) (.inr rfl) rfl rfl rfl ?_)
      refine op0 ?_
      show _ ∧ _
      refine ⟨by omega, (any_step [] (by omega) hinv hc1), ?_⟩
      exact imp_ler [(2, 2)] (ler1 2 2 _ _ rfl rfl (NoIL.out (l := [.one, .one, .ro parts.length (enc eIL parts), .one, .one, .one, .one, .one, .one, .one])) (sr_same 5 (.v (.int .i64 ((k + 1) : Int))) rfl NoI.out (sr_same 4 (.v (.int .i64 0)) rfl NoI.out (sr_map 2 (.pt 2 0) (by first | exact Ok.sl _ _ _ (by first | decide | simp) | exact Ok.pt _ _ (by first | decide | simp)) rfl (sr_same 1 (.v (.int .i64 s)) rfl NoI.out sr_none))))) (keep_of rfl)
  · skip
    have hf2 := of_decide_eq_false hc0
    refine awp_exit ?_
    show AWP _ _ _ _ _
    refine seqR ?_
    refine opG rfl (aop_move (av := .v (.int .i64 (-1))) (.inr rfl) rfl rfl rfl ?_)
    refine op0 ?_
    show AWP _ _ _ _ _
    refine awp_ret ?_
    exact fret (av := .v (.int .i64 (-1))) rfl rfl (by unfold partI; rw [idxB_end (by omega) hinv] <;> rfl)

set_option maxRecDepth 10000 in
set_option maxHeartbeats 16000000 in
theorem s_one1 (span : List Int) (s : Int) (hl : span.length ≤ 4294967296) : Fn Tryd.prog 39 [.agg [.one, .one, .ro span.length (enc eI span)], .rp [.v (.int .i64 s)]] (.v (.bool (decide (s ∈ span)))) := by
  refine fnE_of_body (N := 8) Tryd.func39 rfl rfl (resOf1 rfl) (by simp) (fun w0 X hL_ => ?_)
  refine seqR ?_
  refine opG rfl (aop_box 51 rfl rfl rfl rfl rfl rfl rfl ?_)
  refine opG rfl (aop_move (av := .v (.bool false)) (.inr rfl) rfl rfl rfl ?_)
  refine op0 ?_
  show AWP _ _ _ _ _
  refine seqR ?_
  refine opG rfl (aop_fieldAddr (av := .pt 51 0) (av' := .pt 51 2) rfl rfl rfl ft73_2 sz47 rfl rfl rfl ?_)
  refine opG rfl (aop_ld (av := .ro span.length (enc eI span)) rfl rfl rfl ag47 rfl rfl ?_)
  refine opG rfl (aop_ld (av := .v (.int .i64 s)) rfl rfl rfl ag3 rfl rfl ?_)
  refine opG rfl (call_ (coI span s (by first | omega | (simp; done) | decide | (simp; omega) | (simp at *; omega))) rfl rfl rfl rfl rfl bd38 rfl ?_)
  refine opG rfl (aop_move (av := .v (.bool (decide (s ∈ span)))) (.inr rfl) rfl rfl rfl ?_)
  refine op0 ?_
  show AWP _ _ _ _ _
  refine awp_imp ⟨(upd none_ 3 (.v (.bool (decide (s ∈ span))))), (updO noOb 51 (.live ⟨[.one, .one, .ro span.length (enc eI span)], 73, 1⟩))⟩ (imp_le ⟨(lee_upd 3 _ rfl (lee_none _)), fun _ => .inl rfl⟩) ?_
  refine awp_ret ?_
  exact fret (av := .v (.bool (decide (s ∈ span)))) rfl rfl rfl

set_option maxRecDepth 10000 in
set_option maxHeartbeats 16000000 in
theorem o_Find1 (id x : Int)  : Fn Tryd.prog 49 [.agg [.v (.int .i64 x), .one, .one], .rp [.v (.int .i64 id)]] (.v (.bool (decide (x = id)))) := by
  refine fnE_of_body (N := 8) Tryd.func49 rfl rfl (resOf1 rfl) (by simp) (fun w0 X hL_ => ?_)
  refine seqR ?_
  refine opG rfl (aop_box 51 rfl rfl rfl rfl rfl rfl rfl ?_)
  refine opG rfl (aop_move (av := .v (.bool false)) (.inr rfl) rfl rfl rfl ?_)
  refine op0 ?_
  show AWP _ _ _ _ _
  refine seqR ?_
  refine opG rfl (aop_fieldAddr (av := .pt 51 0) (av' := .pt 51 0) rfl rfl rfl ft73_0 sz3 rfl rfl rfl ?_)
  refine opG rfl (aop_ld (av := .v (.int .i64 x)) rfl rfl rfl ag3 rfl rfl ?_)
  refine opG rfl (aop_ld (av := .v (.int .i64 id)) rfl rfl rfl ag3 rfl rfl ?_)
  refine opG rfl (aop_binI (u := (.bool (x == id))) rfl rfl rfl rfl rfl trivial rfl ?_)
  refine opG rfl (aop_move (av := .v (.bool (x == id))) (.inr rfl) rfl rfl rfl ?_)
  refine op0 ?_
  show AWP _ _ _ _ _
  refine awp_imp ⟨(upd none_ 3 (.v (.bool (x == id)))), (updO noOb 51 (.live ⟨[.v (.int .i64 x), .one, .one], 73, 1⟩))⟩ (imp_le ⟨(lee_upd 3 _ rfl (lee_none _)), fun _ => .inl rfl⟩) ?_
  refine awp_ret ?_
  exact fret (av := .v (.bool (x == id))) rfl rfl (by rw [eq_dec])

set_option maxRecDepth 10000 in
set_option maxHeartbeats 16000000 in
theorem ixVs (views : List View) (s : Int) (hn : views.length ≤ 4294967296) (hv : ∀ v, v ∈ views → v.span.length ≤ 65536) : Fn Tryd.prog 48 [.ro views.length (enc eV views), .fn 39 [.rp [.v (.int .i64 s)]]] (.v (.int .i64 (idxB (hasV s) views))) := by
  refine fnE_of_body (N := 19) Tryd.func48 rfl rfl (resOf1 rfl) (by simp) (fun w0 X hL_ => ?_)
  refine seqR ?_
  refine opG rfl (aop_move (av := .v (.int .i64 0)) (.inr rfl) rfl rfl rfl ?_)
  refine op0 ?_
  show AWP _ _ _ _ _
  refine awp_seq ?_
  refine seqR ?_
  refine opG rfl (aop_move (av := .ro views.length (enc eV views)) (.inl rfl) rfl rfl rfl ?_)
  refine opG rfl (aop_len rfl rfl rfl rfl ut41 (len_ro rfl) ?_)
  refine opG rfl (aop_move (av := .v (.int .i64 0)) (.inl rfl) rfl rfl rfl ?_)
  refine op0 ?_
  show AWP _ _ _ _ _
  refine awp_imp ⟨(upd (upd (upd (upd (upd none_ 0 (.ro views.length (enc eV views))) 1 (.fn 39 [.rp [.v (.int .i64 s)]])) 4 (.v (.int .i64 0))) 7 (.v (.int .i64 (views.length : Int)))) 8 (.v (.int .i64 0))), noOb⟩ (imp_le ⟨(lee_upd 8 _ rfl (lee_upd 7 _ rfl (lee_upd 4 _ rfl (lee_upd 1 _ rfl (lee_upd 0 _ rfl (lee_none _)))))), fun _ => .inl rfl⟩) ?_
  refine awp_block ?_
  refine awp_countI (fun k => ⟨(upd (upd (upd (upd (upd none_ 0 (.ro views.length (enc eV views))) 1 (.fn 39 [.rp [.v (.int .i64 s)]])) 4 (.v (.int .i64 0))) 7 (.v (.int .i64 (views.length : Int)))) 8 (.v (.int .i64 (k : Int)))), noOb⟩) (fun k => (views.take k).any (hasV s) = false) (views.length) ?_ (by simp) (fun k hk_k hinv => ?_)
  · skip
    exact imp_ler [] (ler0 (sr_same 8 (.v (.int .i64 (0 : Int))) rfl NoI.out (sr_same 7 (.v (.int .i64 (views.length : Int))) rfl NoI.out (sr_same 4 (.v (.int .i64 0)) rfl NoI.out (sr_same 1 (.fn 39 [.rp [.v (.int .i64 s)]]) rfl NoI.out (sr_same 0 (.ro views.length (enc eV views)) rfl NoI.out sr_none)))))) (keep_of rfl)
  refine seqR ?_
  refine opG rfl (aop_binI (u := (.bool (decide ((k : Int) < (views.length : Int))))) rfl rfl rfl rfl rfl trivial rfl ?_)
  refine op0 ?_
  show AWP _ _ _ _ _
  refine awp_seq ?_
  refine awp_cond (decide ((k : Int) < (views.length : Int))) rfl rfl (fun hc0 => ?_) (fun hc0 => ?_)
  · skip
    have hf1 := of_decide_eq_true hc0
    have hvk := hv _ (getD_mem (l := views) (k := k) dV (by omega))
    refine awp_skip ?_
    show AWP _ _ _ _ _
    refine awp_seq ?_
    refine awp_block ?_
    refine seqR ?_
    refine opG rfl (aop_move (av := .v (.int .i64 (k : Int))) (.inl rfl) rfl rfl rfl ?_)
    refine opG rfl (aop_move (av := .v (.int .i64 (k : Int))) (.inr rfl) rfl rfl rfl ?_)
    refine op0 ?_
    show AWP _ _ _ _ _
    refine seqR ?_
    refine opG rfl (aop_move (av := .fn 39 [.rp [.v (.int .i64 s)]]) (.inl rfl) rfl rfl rfl ?_)
    refine opG rfl (aop_move (av := .ro views.length (enc eV views)) (.inl rfl) rfl rfl rfl ?_)
    refine opG rfl (aop_move (av := .v (.int .i64 (k : Int))) (.inl rfl) rfl rfl rfl ?_)
    refine opG rfl (aop_ixE dV rfl rfl rfl ut41 sz73 rfl rfl (fun _ => rfl) rfl (by first | omega | (simp; done) | decide | (simp; omega) | (simp at *; omega)) ?_)
    refine opG rfl (aop_ldB (cells' := [.v (.int .i64 ((views.getD k dV).id)), .v (.bool ((views.getD k dV).sure)), .ro ((views.getD k dV).span.length) (enc eI ((views.getD k dV).span))]) rfl rfl rfl ag73 sz73 rfl rfl rfl rfl ?_)
    refine opG rfl (callW_ (s_one1 ((views.getD k dV).span) s (by first | omega | (simp; done) | decide | (simp; omega) | (simp at *; omega))) rfl rfl rfl rfl rfl bd39 (lends_cons (lend_agg (lends_cons (.one _ rfl) (lends_cons (.one _ rfl) (lends_cons (lend_n (av := .ro ((views.getD k dV).span.length) (enc eI ((views.getD k dV).span)))) lends_nil)))) (lends_cons (lend_n (av := .rp [.v (.int .i64 s)])) lends_nil)) ?_)
    refine op0 ?_
    show AWP _ _ _ _ _
    refine awp_imp ⟨(upd (upd (upd (upd (upd (upd (upd none_ 0 (.ro views.length (enc eV views))) 1 (.fn 39 [.rp [.v (.int .i64 s)]])) 4 (.v (.int .i64 0))) 5 (.v (.int .i64 (k : Int)))) 7 (.v (.int .i64 (views.length : Int)))) 8 (.v (.int .i64 (k : Int)))) 16 (.v (.bool (decide (s ∈ ((views.getD k dV).span)))))), noOb⟩ (imp_le ⟨(lee_upd 16 _ rfl (lee_upd 8 _ rfl (lee_upd 7 _ rfl (lee_upd 5 _ rfl (lee_upd 4 _ rfl (lee_upd 1 _ rfl (lee_upd 0 _ rfl (lee_none _)))))))), fun _ => .inl rfl⟩) ?_
    refine awp_cond (decide (s ∈ ((views.getD k dV).span))) rfl rfl (fun hc1 => ?_) (fun hc1 => ?_)
    · skip
      refine seqR ?_
      refine opG rfl (aop_move (av := .v (.int .i64 (k : Int))) (.inl rfl) rfl rfl rfl ?_)
      refine opG rfl (aop_move (av := .v (.int .i64 (k : Int))) (.inr rfl) rfl rfl rfl ?_)
      refine op0 ?_
      show AWP _ _ _ _ _
      refine awp_ret ?_
      exact fret (av := .v (.int .i64 (k : Int))) rfl rfl (by rw [idxB_stop (f := hasV s) dV (by omega) hinv hc1] <;> rfl)
    · skip
      refine awp_skip ?_
      show AWP _ _ _ _ _
      refine regR ?_
      refine opG rfl (aop_binI (u := (.int .i64 ((k + 1 : Nat) : Int))) rfl rfl rfl rfl rfl trivial (addN (by omega)) ?_)
      refine opG rfl (aop_move (av := .v (.int .i64 ((k + 1 : Nat) : Int))) (.inl rfl) rfl rfl rfl ?_)
      refine op0 ?_
      show _ ∧ _
      refine ⟨by omega, (any_step dV (by omega) hinv hc1), ?_⟩
      exact imp_ler [] (ler0 (sr_same 8 (.v (.int .i64 ((k + 1) : Int))) rfl NoI.out (sr_same 7 (.v (.int .i64 (views.length : Int))) rfl NoI.out (sr_same 4 (.v (.int .i64 0)) rfl NoI.out (sr_same 1 (.fn 39 [.rp [.v (.int .i64 s)]]) rfl NoI.out (sr_same 0 (.ro views.length (enc eV views)) rfl NoI.out sr_none)))))) (keep_of rfl)
  · skip
    have hf2 := of_decide_eq_false hc0
    refine awp_exit ?_
    show AWP _ _ _ _ _
    refine seqR ?_
    refine opG rfl (aop_move (av := .v (.int .i64 (-1))) (.inr rfl) rfl rfl rfl ?_)
    refine op0 ?_
    show AWP _ _ _ _ _
    refine awp_ret ?_
    exact fret (av := .v (.int .i64 (-1))) rfl rfl (by rw [idxB_end (f := hasV s) (by omega) hinv] <;> rfl)

set_option maxRecDepth 10000 in
set_option maxHeartbeats 16000000 in
theorem ixVf (views : List View) (id : Int) (hn : views.length ≤ 4294967296)  : Fn Tryd.prog 48 [.ro views.length (enc eV views), .fn 49 [.rp [.v (.int .i64 id)]]] (.v (.int .i64 (findI views id))) := by
  refine fnE_of_body (N := 19) Tryd.func48 rfl rfl (resOf1 rfl) (by simp) (fun w0 X hL_ => ?_)
  refine seqR ?_
  refine opG rfl (aop_move (av := .v (.int .i64 0)) (.inr rfl) rfl rfl rfl ?_)
  refine op0 ?_
  show AWP _ _ _ _ _
  refine awp_seq ?_
  refine seqR ?_
  refine opG rfl (aop_move (av := .ro views.length (enc eV views)) (.inl rfl) rfl rfl rfl ?_)
  refine opG rfl (aop_len rfl rfl rfl rfl ut41 (len_ro rfl) ?_)
  refine opG rfl (aop_move (av := .v (.int .i64 0)) (.inl rfl) rfl rfl rfl ?_)
  refine op0 ?_
  show AWP _ _ _ _ _
  refine awp_imp ⟨(upd (upd (upd (upd (upd none_ 0 (.ro views.length (enc eV views))) 1 (.fn 49 [.rp [.v (.int .i64 id)]])) 4 (.v (.int .i64 0))) 7 (.v (.int .i64 (views.length : Int)))) 8 (.v (.int .i64 0))), noOb⟩ (imp_le ⟨(lee_upd 8 _ rfl (lee_upd 7 _ rfl (lee_upd 4 _ rfl (lee_upd 1 _ rfl (lee_upd 0 _ rfl (lee_none _)))))), fun _ => .inl rfl⟩) ?_
  refine awp_block ?_
  refine awp_countI (fun k => ⟨(upd (upd (upd (upd (upd none_ 0 (.ro views.length (enc eV views))) 1 (.fn 49 [.rp [.v (.int .i64 id)]])) 4 (.v (.int .i64 0))) 7 (.v (.int .i64 (views.length : Int)))) 8 (.v (.int .i64 (k : Int)))), noOb⟩) (fun k => (views.take k).any (fun v : View => decide (v.id = id)) = false) (views.length) ?_ (by simp) (fun k hk_k hinv => ?_)
  · skip
    exact imp_ler [] (ler0 (sr_same 8 (.v (.int .i64 (0 : Int))) rfl NoI.out (sr_same 7 (.v (.int .i64 (views.length : Int))) rfl NoI.out (sr_same 4 (.v (.int .i64 0)) rfl NoI.out (sr_same 1 (.fn 49 [.rp [.v (.int .i64 id)]]) rfl NoI.out (sr_same 0 (.ro views.length (enc eV views)) rfl NoI.out sr_none)))))) (keep_of rfl)
  refine seqR ?_
  refine opG rfl (aop_binI (u := (.bool (decide ((k : Int) < (views.length : Int))))) rfl rfl rfl rfl rfl trivial rfl ?_)
  refine op0 ?_
  show AWP _ _ _ _ _
  refine awp_seq ?_
  refine awp_cond (decide ((k : Int) < (views.length : Int))) rfl rfl (fun hc0 => ?_) (fun hc0 => ?_)
  · skip
    have hf1 := of_decide_eq_true hc0
    refine awp_skip ?_
    show AWP _ _ _ _ _
    refine awp_seq ?_
    refine awp_block ?_
    refine seqR ?_
    refine opG rfl (aop_move (av := .v (.int .i64 (k : Int))) (.inl rfl) rfl rfl rfl ?_)
    refine opG rfl (aop_move (av := .v (.int .i64 (k : Int))) (.inr rfl) rfl rfl rfl ?_)
    refine op0 ?_
    show AWP _ _ _ _ _
    refine seqR ?_
    refine opG rfl (aop_move (av := .fn 49 [.rp [.v (.int .i64 id)]]) (.inl rfl) rfl rfl rfl ?_)
    refine opG rfl (aop_move (av := .ro views.length (enc eV views)) (.inl rfl) rfl rfl rfl ?_)
    refine opG rfl (aop_move (av := .v (.int .i64 (k : Int))) (.inl rfl) rfl rfl rfl ?_)
    refine opG rfl (aop_ixE dV rfl rfl rfl ut41 sz73 rfl rfl (fun _ => rfl) rfl (by first | omega | (simp; done) | decide | (simp; omega) | (simp at *; omega)) ?_)
    refine opG rfl (aop_ldB (cells' := [.v (.int .i64 ((views.getD k dV).id)), .v (.bool ((views.getD k dV).sure)), .ro ((views.getD k dV).span.length) (enc eI ((views.getD k dV).span))]) rfl rfl rfl ag73 sz73 rfl rfl rfl rfl ?_)
    refine opG rfl (callW_ (o_Find1 id ((views.getD k dV).id)) rfl rfl rfl rfl rfl bd49 (lends_cons (lend_agg (lends_cons (lend_n (av := .v (.int .i64 ((views.getD k dV).id)))) (lends_cons (.one _ rfl) (lends_cons (.one _ rfl) lends_nil)))) (lends_cons (lend_n (av := .rp [.v (.int .i64 id)])) lends_nil)) ?_)
    refine op0 ?_
    show AWP _ _ _ _ _
    refine awp_imp ⟨(upd (upd (upd (upd (upd (upd (upd none_ 0 (.ro views.length (enc eV views))) 1 (.fn 49 [.rp [.v (.int .i64 id)]])) 4 (.v (.int .i64 0))) 5 (.v (.int .i64 (k : Int)))) 7 (.v (.int .i64 (views.length : Int)))) 8 (.v (.int .i64 (k : Int)))) 16 (.v (.bool (decide (((views.getD k dV).id) = id))))), noOb⟩ (imp_le ⟨(lee_upd 16 _ rfl (lee_upd 8 _ rfl (lee_upd 7 _ rfl (lee_upd 5 _ rfl (lee_upd 4 _ rfl (lee_upd 1 _ rfl (lee_upd 0 _ rfl (lee_none _)))))))), fun _ => .inl rfl⟩) ?_
    refine awp_cond (decide (((views.getD k dV).id) = id)) rfl rfl (fun hc1 => ?_) (fun hc1 => ?_)
    · skip
      refine seqR ?_
      refine opG rfl (aop_move (av := .v (.int .i64 (k : Int))) (.inl rfl) rfl rfl rfl ?_)
      refine opG rfl (aop_move (av := .v (.int .i64 (k : Int))) (.inr rfl) rfl rfl rfl ?_)
      refine op0 ?_
      show AWP _ _ _ _ _
      refine awp_ret ?_
      exact fret (av := .v (.int .i64 (k : Int))) rfl rfl (by unfold findI; rw [idxB_stop (f := fun v : View => decide (v.id = id)) dV (by omega) hinv hc1] <;> rfl)
    · skip
      refine awp_skip ?_
      show AWP _ _ _ _ _
      refine regR ?_
      refine opG rfl (aop_binI (u := (.int .i64 ((k + 1 : Nat) : Int))) rfl rfl rfl rfl rfl trivial (addN (by omega)) ?_)
      refine opG rfl (aop_move (av := .v (.int .i64 ((k + 1 : Nat) : Int))) (.inl rfl) rfl rfl rfl ?_)
      refine op0 ?_
      show _ ∧ _
      refine ⟨by omega, (any_step dV (by omega) hinv hc1), ?_⟩
      exact imp_ler [] (ler0 (sr_same 8 (.v (.int .i64 ((k + 1) : Int))) rfl NoI.out (sr_same 7 (.v (.int .i64 (views.length : Int))) rfl NoI.out (sr_same 4 (.v (.int .i64 0)) rfl NoI.out (sr_same 1 (.fn 49 [.rp [.v (.int .i64 id)]]) rfl NoI.out (sr_same 0 (.ro views.length (enc eV views)) rfl NoI.out sr_none)))))) (keep_of rfl)
  · skip
    have hf2 := of_decide_eq_false hc0
    refine awp_exit ?_
    show AWP _ _ _ _ _
    refine seqR ?_
    refine opG rfl (aop_move (av := .v (.int .i64 (-1))) (.inr rfl) rfl rfl rfl ?_)
    refine op0 ?_
    show AWP _ _ _ _ _
    refine awp_ret ?_
    exact fret (av := .v (.int .i64 (-1))) rfl rfl (by unfold findI; rw [idxB_end (f := fun v : View => decide (v.id = id)) (by omega) hinv] <;> rfl)

set_option maxRecDepth 10000 in
set_option maxHeartbeats 16000000 in
theorem coVs (views : List View) (s : Int) (hn : views.length ≤ 4294967296) (hv : ∀ v, v ∈ views → v.span.length ≤ 65536) : Fn Tryd.prog 40 [.ro views.length (enc eV views), .fn 39 [.rp [.v (.int .i64 s)]]] (.v (.bool (views.any (hasV s)))) := by
  refine fnE_of_body (N := 9) Tryd.func40 rfl rfl (resOf1 rfl) (by simp) (fun w0 X hL_ => ?_)
  refine seqR ?_
  refine opG rfl (aop_move (av := .v (.bool false)) (.inr rfl) rfl rfl rfl ?_)
  refine op0 ?_
  show AWP _ _ _ _ _
  refine seqR ?_
  refine opG rfl (aop_move (av := .ro views.length (enc eV views)) (.inl rfl) rfl rfl rfl ?_)
  refine opG rfl (aop_move (av := .fn 39 [.rp [.v (.int .i64 s)]]) (.inl rfl) rfl rfl rfl ?_)
  refine opG rfl (call_ (ixVs views s (by first | omega | (simp; done) | decide | (simp; omega) | (simp at *; omega)) (by first | omega | (simp; done) | decide | (simp; omega) | (simp at *; omega))) rfl rfl rfl rfl rfl bd48 rfl ?_)
  refine opG rfl (aop_binI (u := (.bool (decide ((idxB (hasV s) views) ≥ 0)))) rfl rfl rfl rfl rfl trivial rfl ?_)
  refine opG rfl (aop_move (av := .v (.bool (decide ((idxB (hasV s) views) ≥ 0)))) (.inr rfl) rfl rfl rfl ?_)
  refine op0 ?_
  show AWP _ _ _ _ _
  refine awp_imp ⟨(upd none_ 4 (.v (.bool (decide ((idxB (hasV s) views) ≥ 0))))), noOb⟩ (imp_le ⟨(lee_upd 4 _ rfl (lee_none _)), fun _ => .inl rfl⟩) ?_
  refine awp_ret ?_
  exact fret (av := .v (.bool (decide ((idxB (hasV s) views) ≥ 0)))) rfl rfl (by rw [idxB_any dV] <;> rfl)

set_option maxRecDepth 10000 in
set_option maxHeartbeats 16000000 in
theorem o_Find (views : List View) (id : Int) (hn : views.length ≤ 4294967296) : Fn Tryd.prog 41 [.ro views.length (enc eV views), .v (.int .i64 id)] (.tup [.agg [.v (.int .i64 ((findV views id).id)), .v (.bool ((findV views id).sure)), .ro ((findV views id).span.length) (enc eI ((findV views id).span))], .v (.bool (!decide (findI views id < 0)))]) := by
  refine fnC_of_body (N := 17) Tryd.func41 rfl rfl (by simp) (fun w0 X hL_ => ?_)
  refine seqR ?_
  refine opG rfl (aop_box 51 rfl rfl rfl rfl rfl rfl rfl ?_)
  refine opG rfl (aop_alloc 52 rfl rfl rfl rfl ze73 rfl ?_)
  refine opG rfl (aop_move (av := .v (.bool false)) (.inr rfl) rfl rfl rfl ?_)
  refine op0 ?_
  show AWP _ _ _ _ _
  refine seqR ?_
  refine opG rfl (aop_move (av := .ro views.length (enc eV views)) (.inl rfl) rfl rfl rfl ?_)
  refine opG rfl (aop_makeFunc (caps := [.tmp 3]) rfl rfl rfl rfl ?_)
  refine opG rfl (callL_ (ixVf views id (by first | omega | (simp; done) | decide | (simp; omega) | (simp at *; omega))) rfl rfl rfl rfl rfl bd48 (lends_cons (lend_n (av := .ro views.length (enc eV views))) (lends_cons (lend_fn (lends_cons (lend_pt rfl (lends_cons (lend_n (av := .v (.int .i64 id))) lends_nil)) lends_nil)) lends_nil)) ?_)
  refine opG rfl (aop_move (av := .v (.int .i64 (findI views id))) (.inr rfl) rfl rfl rfl ?_)
  refine op0 ?_
  show AWP _ _ _ _ _
  refine awp_imp ⟨(upd (upd (upd (upd none_ 0 (.ro views.length (enc eV views))) 4 (.pt 52 0)) 5 (.v (.bool false))) 6 (.v (.int .i64 (findI views id)))), (updO (updO noOb 51 (.live ⟨[.v (.int .i64 id)], 3, 1⟩)) 52 (.live ⟨[.v (.int .i64 0), .v (.bool false), .v (.slice none 0 0)], 73, 1⟩))⟩ (imp_le ⟨(lee_upd 6 _ rfl (lee_upd 5 _ rfl (lee_upd 4 _ rfl (lee_upd 0 _ rfl (lee_none _))))), fun _ => .inl rfl⟩) ?_
  refine awp_seq ?_
  refine seqR ?_
  refine opG rfl (aop_move (av := .v (.int .i64 (findI views id))) (.inl rfl) rfl rfl rfl ?_)
  refine opG rfl (aop_binI (u := (.bool (decide ((findI views id) < 0)))) rfl rfl rfl rfl rfl trivial rfl ?_)
  refine op0 ?_
  show AWP _ _ _ _ _
  refine awp_cond (decide ((findI views id) < 0)) rfl rfl (fun hc0 => ?_) (fun hc0 => ?_)
  · skip
    have hf1 := of_decide_eq_true hc0
    have hf : findI views id < 0 := of_decide_eq_true hc0
    refine seqR ?_
    refine opG rfl (aop_build rfl rfl rfl pl73 rfl ?_)
    refine opG rfl (aop_store rfl rfl rfl sz73 rfl rfl rfl rfl rfl (Nat.le_of_ble_eq_true rfl) rfl rfl ?_)
    refine opG rfl (aop_move (av := .v (.bool false)) (.inr rfl) rfl rfl rfl ?_)
    refine op0 ?_
    show AWP _ _ _ _ _
    refine awp_imp ⟨(upd (upd (upd (upd none_ 0 (.ro views.length (enc eV views))) 4 (.pt 52 0)) 5 (.v (.bool false))) 6 (.v (.int .i64 (findI views id)))), (updO (updO (updO noOb 51 (.live ⟨[.v (.int .i64 id)], 3, 1⟩)) 52 (.live ⟨[.v (.int .i64 0), .v (.bool false), .v (.slice none 0 0)], 73, 1⟩)) 52 (.live ⟨[.v (.int .i64 0), .v (.bool false), .v (.slice none 0 0)], 73, 1⟩))⟩ (imp_le ⟨(lee_upd 6 _ rfl (lee_upd 5 _ rfl (lee_upd 4 _ rfl (lee_upd 0 _ rfl (lee_none _))))), fun _ => .inl rfl⟩) ?_
    refine awp_imp _ ((frz_ [52] [(52, ⟨[.v (.int .i64 0), .v (.bool false), .ro 0 []], 73, 1⟩)] rfl (fun _ h => h) ⟨keep_cells (cs := [.v (.int .i64 0), .v (.bool false), .v (.slice none 0 0)]) (by simp) rfl rfl (frzs_cons (.inl rfl) (frzs_cons (.inl rfl) (frzs_cons (.inr .nil) frzs_nil))), trivial⟩ (fz_same 5 (.v (.bool false)) rfl (fz_same 4 (.pt 52 0) rfl fz_none)))) ?_
    refine awp_ret ?_
    exact fretC2 (p := 4) (q := 5) rfl rfl ag73 sz73 rfl rfl (Nat.le_of_ble_eq_true rfl) rfl rfl rfl (by rw [findV_no hf, decide_eq_true hf]; rfl)
  · skip
    have hf2 := of_decide_eq_false hc0
    have hf : ¬ findI views id < 0 := of_decide_eq_false hc0
    have hfr := findI_range views id
    refine awp_skip ?_
    show AWP _ _ _ _ _
    refine seqR ?_
    refine opG rfl (aop_move (av := .ro views.length (enc eV views)) (.inl rfl) rfl rfl rfl ?_)
    refine opG rfl (aop_move (av := .v (.int .i64 (findI views id))) (.inl rfl) rfl rfl rfl ?_)
    refine opG rfl (aop_ixI dV rfl rfl rfl ut41 sz73 rfl rfl (fun _ => rfl) rfl (by omega) (by first | omega | (simp; done) | decide | (simp; omega) | (simp at *; omega)) ?_)
    refine opG rfl (aop_ldB (cells' := [.v (.int .i64 ((views.getD (findI views id).toNat dV).id)), .v (.bool ((views.getD (findI views id).toNat dV).sure)), .ro ((views.getD (findI views id).toNat dV).span.length) (enc eI ((views.getD (findI views id).toNat dV).span))]) rfl rfl rfl ag73 sz73 rfl rfl rfl rfl ?_)
    refine opG rfl (aop_store rfl rfl rfl sz73 rfl rfl rfl rfl rfl (Nat.le_of_ble_eq_true rfl) rfl rfl ?_)
    refine opG rfl (aop_move (av := .v (.bool true)) (.inr rfl) rfl rfl rfl ?_)
    refine op0 ?_
    show AWP _ _ _ _ _
    refine awp_imp ⟨(upd (upd none_ 4 (.pt 52 0)) 5 (.v (.bool true))), (updO (updO (updO noOb 51 (.live ⟨[.v (.int .i64 id)], 3, 1⟩)) 52 (.live ⟨[.v (.int .i64 0), .v (.bool false), .v (.slice none 0 0)], 73, 1⟩)) 52 (.live ⟨[.v (.int .i64 ((views.getD (findI views id).toNat dV).id)), .v (.bool ((views.getD (findI views id).toNat dV).sure)), .ro ((views.getD (findI views id).toNat dV).span.length) (enc eI ((views.getD (findI views id).toNat dV).span))], 73, 1⟩))⟩ (imp_le ⟨(lee_upd 5 _ rfl (lee_upd 4 _ rfl (lee_none _))), fun _ => .inl rfl⟩) ?_
    refine awp_imp _ ((frz_ [52] [(52, ⟨[.v (.int .i64 ((views.getD (findI views id).toNat dV).id)), .v (.bool ((views.getD (findI views id).toNat dV).sure)), .ro ((views.getD (findI views id).toNat dV).span.length) (enc eI ((views.getD (findI views id).toNat dV).span))], 73, 1⟩)] rfl (fun _ h => h) ⟨keep_cells (cs := [.v (.int .i64 ((views.getD (findI views id).toNat dV).id)), .v (.bool ((views.getD (findI views id).toNat dV).sure)), .ro ((views.getD (findI views id).toNat dV).span.length) (enc eI ((views.getD (findI views id).toNat dV).span))]) (by simp) rfl rfl (frzs_cons (.inl rfl) (frzs_cons (.inl rfl) (frzs_cons (.inl rfl) frzs_nil))), trivial⟩ (fz_same 5 (.v (.bool true)) rfl (fz_same 4 (.pt 52 0) rfl fz_none)))) ?_
    refine awp_ret ?_
    exact fretC2 (p := 4) (q := 5) rfl rfl ag73 sz73 rfl rfl (Nat.le_of_ble_eq_true rfl) rfl rfl rfl (by rw [findV_at hf, decide_eq_false hf]; rfl)

set_option maxRecDepth 10000 in
set_option maxHeartbeats 16000000 in
theorem r12_Find (views : List View) (id : Int) (hn : views.length ≤ 4294967296) : Fn Tryd.prog 20 [.ro views.length (enc eV views), .v (.int .i64 id)] (.tup [.agg [.v (.int .i64 ((findV views id).id)), .v (.bool ((findV views id).sure)), .ro ((findV views id).span.length) (enc eI ((findV views id).span))], .v (.bool (!decide (findI views id < 0)))]) := by
  refine fnC_of_body (N := 25) Tryd.func20 rfl rfl (by simp) (fun w0 X hL_ => ?_)
  refine seqR ?_
  refine opG rfl (aop_alloc 51 rfl rfl rfl rfl ze53 rfl ?_)
  refine opG rfl (aop_move (av := .v (.bool false)) (.inr rfl) rfl rfl rfl ?_)
  refine op0 ?_
  show AWP _ _ _ _ _
  refine awp_seq ?_
  refine seqR ?_
  refine opG rfl (aop_move (av := .v (.int .i64 0)) (.inr rfl) rfl rfl rfl ?_)
  refine op0 ?_
  show AWP _ _ _ _ _
  refine awp_block ?_
  refine awp_countI (fun k => ⟨(upd (upd (upd (upd (upd none_ 0 (.ro views.length (enc eV views))) 1 (.v (.int .i64 id))) 4 (.pt 2 0)) 5 (.v (.bool false))) 6 (.v (.int .i64 (k : Int)))), (updO noOb 2 (.live ⟨[.v (.int .i64 0), .v (.bool false), .v (.slice none 0 0)], 53, 1⟩))⟩) (fun k => (views.take k).any (fun v : View => decide (v.id = id)) = false) (views.length) ?_ (by simp) (fun k hk_k hinv => ?_)
  · skip
    exact imp_ler [(51, 2)] (ler1 51 2 _ _ rfl rfl (NoIL.out (l := [.v (.int .i64 0), .v (.bool false), .v (.slice none 0 0)])) (sr_same 6 (.v (.int .i64 (0 : Int))) rfl NoI.out (sr_same 5 (.v (.bool false)) rfl NoI.out (sr_map 4 (.pt 2 0) (by first | exact Ok.sl _ _ _ (by first | decide | simp) | exact Ok.pt _ _ (by first | decide | simp)) rfl (sr_same 1 (.v (.int .i64 id)) rfl NoI.out (sr_same 0 (.ro views.length (enc eV views)) rfl NoI.out sr_none)))))) (keep_of rfl)
  refine awp_seq ?_
  refine seqR ?_
  refine opG rfl (aop_move (av := .v (.int .i64 (k : Int))) (.inl rfl) rfl rfl rfl ?_)
  refine opG rfl (aop_move (av := .ro views.length (enc eV views)) (.inl rfl) rfl rfl rfl ?_)
  refine opG rfl (aop_len rfl rfl rfl rfl ut42 (len_ro rfl) ?_)
  refine opG rfl (aop_binI (u := (.bool (decide ((k : Int) < (views.length : Int))))) rfl rfl rfl rfl rfl trivial rfl ?_)
  refine op0 ?_
  show AWP _ _ _ _ _
  refine awp_imp ⟨(upd (upd (upd (upd (upd (upd none_ 0 (.ro views.length (enc eV views))) 1 (.v (.int .i64 id))) 4 (.pt 2 0)) 5 (.v (.bool false))) 6 (.v (.int .i64 (k : Int)))) 10 (.v (.bool (decide ((k : Int) < (views.length : Int)))))), (updO noOb 2 (.live ⟨[.v (.int .i64 0), .v (.bool false), .v (.slice none 0 0)], 53, 1⟩))⟩ (imp_le ⟨(lee_upd 10 _ rfl (lee_upd 6 _ rfl (lee_upd 5 _ rfl (lee_upd 4 _ rfl (lee_upd 1 _ rfl (lee_upd 0 _ rfl (lee_none _))))))), fun _ => .inl rfl⟩) ?_
  refine awp_cond (decide ((k : Int) < (views.length : Int))) rfl rfl (fun hc0 => ?_) (fun hc0 => ?_)
  · skip
    have hf1 := of_decide_eq_true hc0
    refine awp_skip ?_
    show AWP _ _ _ _ _
    refine awp_seq ?_
    refine awp_block ?_
    refine seqR ?_
    refine opG rfl (aop_move (av := .ro views.length (enc eV views)) (.inl rfl) rfl rfl rfl ?_)
    refine opG rfl (aop_move (av := .v (.int .i64 (k : Int))) (.inl rfl) rfl rfl rfl ?_)
    refine opG rfl (aop_ixE dV rfl rfl rfl ut42 sz53 rfl rfl (fun _ => rfl) rfl (by first | omega | (simp; done) | decide | (simp; omega) | (simp at *; omega)) ?_)
    refine opG rfl (aop_fieldAddr (av := .rp (([.v (.int .i64 ((views.getD k dV).id)), .v (.bool ((views.getD k dV).sure)), .ro ((views.getD k dV).span.length) (enc eI ((views.getD k dV).span))] : List AV) ++ ((enc eV views).drop ((k + 1) * 3)))) (av' := .rp (([.v (.int .i64 ((views.getD k dV).id)), .v (.bool ((views.getD k dV).sure)), .ro ((views.getD k dV).span.length) (enc eI ((views.getD k dV).span))] : List AV) ++ ((enc eV views).drop ((k + 1) * 3)))) rfl rfl rfl ft53_0 sz3 rfl rfl rfl ?_)
    refine opG rfl (aop_ld (av := .v (.int .i64 ((views.getD k dV).id))) rfl rfl rfl ag3 rfl rfl ?_)
    refine opG rfl (aop_move (av := .v (.int .i64 id)) (.inl rfl) rfl rfl rfl ?_)
    refine opG rfl (aop_binI (u := (.bool (((views.getD k dV).id) == id))) rfl rfl rfl rfl rfl trivial rfl ?_)
    refine op0 ?_
    show AWP _ _ _ _ _
    refine awp_imp ⟨(upd (upd (upd (upd (upd (upd none_ 0 (.ro views.length (enc eV views))) 1 (.v (.int .i64 id))) 4 (.pt 2 0)) 5 (.v (.bool false))) 6 (.v (.int .i64 (k : Int)))) 19 (.v (.bool (((views.getD k dV).id) == id)))), (updO noOb 2 (.live ⟨[.v (.int .i64 0), .v (.bool false), .v (.slice none 0 0)], 53, 1⟩))⟩ (imp_le ⟨(lee_upd 19 _ rfl (lee_upd 6 _ rfl (lee_upd 5 _ rfl (lee_upd 4 _ rfl (lee_upd 1 _ rfl (lee_upd 0 _ rfl (lee_none _))))))), fun _ => .inl rfl⟩) ?_
    refine awp_cond (((views.getD k dV).id) == id) rfl rfl (fun hc1 => ?_) (fun hc1 => ?_)
    · skip
      have hf2 := (beq_iff_eq).1 hc1
      refine seqR ?_
      refine opG rfl (aop_move (av := .ro views.length (enc eV views)) (.inl rfl) rfl rfl rfl ?_)
      refine opG rfl (aop_move (av := .v (.int .i64 (k : Int))) (.inl rfl) rfl rfl rfl ?_)
      refine opG rfl (aop_ixE dV rfl rfl rfl ut42 sz53 rfl rfl (fun _ => rfl) rfl (by first | omega | (simp; done) | decide | (simp; omega) | (simp at *; omega)) ?_)
      refine opG rfl (aop_ldB (cells' := [.v (.int .i64 ((views.getD k dV).id)), .v (.bool ((views.getD k dV).sure)), .ro ((views.getD k dV).span.length) (enc eI ((views.getD k dV).span))]) rfl rfl rfl ag53 sz53 rfl rfl rfl rfl ?_)
      refine opG rfl (aop_store rfl rfl rfl sz53 rfl rfl rfl rfl rfl (Nat.le_of_ble_eq_true rfl) rfl rfl ?_)
      refine opG rfl (aop_move (av := .v (.bool true)) (.inr rfl) rfl rfl rfl ?_)
      refine op0 ?_
      show AWP _ _ _ _ _
      refine awp_imp ⟨(upd (upd (upd (upd (upd none_ 0 (.ro views.length (enc eV views))) 1 (.v (.int .i64 id))) 4 (.pt 2 0)) 5 (.v (.bool true))) 6 (.v (.int .i64 (k : Int)))), (updO (updO noOb 2 (.live ⟨[.v (.int .i64 0), .v (.bool false), .v (.slice none 0 0)], 53, 1⟩)) 2 (.live ⟨[.v (.int .i64 ((views.getD k dV).id)), .v (.bool ((views.getD k dV).sure)), .ro ((views.getD k dV).span.length) (enc eI ((views.getD k dV).span))], 53, 1⟩))⟩ (imp_le ⟨(lee_upd 6 _ rfl (lee_upd 5 _ rfl (lee_upd 4 _ rfl (lee_upd 1 _ rfl (lee_upd 0 _ rfl (lee_none _)))))), fun _ => .inl rfl⟩) ?_
      have hi : findI views id = (k : Int) := idxB_stop dV (by omega) hinv (by simpa using hc1)
      refine awp_imp _ ((frz_ [2] [(2, ⟨[.v (.int .i64 ((views.getD k dV).id)), .v (.bool ((views.getD k dV).sure)), .ro ((views.getD k dV).span.length) (enc eI ((views.getD k dV).span))], 53, 1⟩)] rfl (fun _ h => h) ⟨keep_cells (cs := [.v (.int .i64 ((views.getD k dV).id)), .v (.bool ((views.getD k dV).sure)), .ro ((views.getD k dV).span.length) (enc eI ((views.getD k dV).span))]) (by simp) rfl rfl (frzs_cons (.inl rfl) (frzs_cons (.inl rfl) (frzs_cons (.inl rfl) frzs_nil))), trivial⟩ (fz_same 5 (.v (.bool true)) rfl (fz_same 4 (.pt 2 0) rfl fz_none)))) ?_
      refine awp_ret ?_
      exact fretC2 (p := 4) (q := 5) rfl rfl ag53 sz53 rfl rfl (Nat.le_of_ble_eq_true rfl) rfl rfl rfl (by rw [findV_at (by omega), decide_eq_false (show ¬ findI views id < 0 by omega), hi]; rfl)
    · skip
      have hf3 := (beq_eq_false_iff_ne).1 hc1
      refine awp_skip ?_
      show AWP _ _ _ _ _
      refine regR ?_
      refine opG rfl (aop_move (av := .v (.int .i64 (k : Int))) (.inl rfl) rfl rfl rfl ?_)
      refine opG rfl (aop_binI (u := (.int .i64 ((k + 1 : Nat) : Int))) rfl rfl rfl rfl rfl trivial (addN (by omega)) ?_)
      refine opG rfl (aop_move (av := .v (.int .i64 ((k + 1 : Nat) : Int))) (.inr rfl) rfl rfl rfl ?_)
      refine op0 ?_
      show _ ∧ _
      refine ⟨by omega, (any_step dV (by omega) hinv (by simpa using hc1)), ?_⟩
      exact imp_ler [(2, 2)] (ler1 2 2 _ _ rfl rfl (NoIL.out (l := [.v (.int .i64 0), .v (.bool false), .v (.slice none 0 0)])) (sr_same 6 (.v (.int .i64 ((k + 1) : Int))) rfl NoI.out (sr_same 5 (.v (.bool false)) rfl NoI.out (sr_map 4 (.pt 2 0) (by first | exact Ok.sl _ _ _ (by first | decide | simp) | exact Ok.pt _ _ (by first | decide | simp)) rfl (sr_same 1 (.v (.int .i64 id)) rfl NoI.out (sr_same 0 (.ro views.length (enc eV views)) rfl NoI.out sr_none)))))) (keep_of rfl)
  · skip
    have hf4 := of_decide_eq_false hc0
    refine awp_exit ?_
    show AWP _ _ _ _ _
    refine seqR ?_
    refine opG rfl (aop_build rfl rfl rfl pl53 rfl ?_)
    refine opG rfl (aop_store rfl rfl rfl sz53 rfl rfl rfl rfl rfl (Nat.le_of_ble_eq_true rfl) rfl rfl ?_)
    refine opG rfl (aop_move (av := .v (.bool false)) (.inr rfl) rfl rfl rfl ?_)
    refine op0 ?_
    show AWP _ _ _ _ _
    have hi : findI views id = -1 := idxB_end (by omega) hinv
    refine awp_imp _ ((frz_ [2] [(2, ⟨[.v (.int .i64 0), .v (.bool false), .ro 0 []], 53, 1⟩)] rfl (fun _ h => h) ⟨keep_cells (cs := [.v (.int .i64 0), .v (.bool false), .v (.slice none 0 0)]) (by simp) rfl rfl (frzs_cons (.inl rfl) (frzs_cons (.inl rfl) (frzs_cons (.inr .nil) frzs_nil))), trivial⟩ (fz_same 5 (.v (.bool false)) rfl (fz_same 4 (.pt 2 0) rfl fz_none)))) ?_
    refine awp_ret ?_
    exact fretC2 (p := 4) (q := 5) rfl rfl ag53 sz53 rfl rfl (Nat.le_of_ble_eq_true rfl) rfl rfl rfl (by rw [findV_no (by omega), decide_eq_true (show findI views id < 0 by omega)]; rfl)

set_option maxRecDepth 10000 in
set_option maxHeartbeats 16000000 in
theorem s_one (s o : Int) (views : List View) (hn : views.length ≤ 65536) (hv : ∀ v, v ∈ views → v.span.length ≤ 65536) : Fn Tryd.prog 33 [.v (.int .i64 s), .v (.int .i64 o), .ro views.length (enc eV views)] (.v (.int .u8 (oneS s o views))) := by
  refine fnE_of_body (N := 28) Tryd.func33 rfl rfl (resOf1 rfl) (by simp) (fun w0 X hL_ => ?_)
  refine seqR ?_
  refine opG rfl (aop_box 51 rfl rfl rfl rfl rfl rfl rfl ?_)
  refine opG rfl (aop_move (av := .v (.int .u8 0)) (.inr rfl) rfl rfl rfl ?_)
  refine op0 ?_
  show AWP _ _ _ _ _
  refine seqR ?_
  refine opG rfl (aop_makeFunc (caps := [.tmp 3]) rfl rfl rfl rfl ?_)
  refine opG rfl (aop_move (av := .fn 39 [.pt 51 0]) (.inr rfl) rfl rfl rfl ?_)
  refine op0 ?_
  show AWP _ _ _ _ _
  refine awp_imp ⟨(upd (upd (upd (upd none_ 1 (.v (.int .i64 o))) 2 (.ro views.length (enc eV views))) 6 (.v (.int .u8 0))) 7 (.fn 39 [.pt 51 0])), (updO noOb 51 (.live ⟨[.v (.int .i64 s)], 3, 1⟩))⟩ (imp_le ⟨(lee_upd 7 _ rfl (lee_upd 6 _ rfl (lee_upd 2 _ rfl (lee_upd 1 _ rfl (lee_none _))))), fun _ => .inl rfl⟩) ?_
  refine awp_seq ?_
  refine seqR ?_
  refine opG rfl (aop_move (av := .v (.int .i64 o)) (.inl rfl) rfl rfl rfl ?_)
  refine op0 ?_
  show AWP _ _ _ _ _
  refine awp_block ?_
  refine seqR ?_
  refine opG rfl (aop_binI (u := (.bool (o == (-2)))) rfl rfl rfl rfl rfl trivial rfl ?_)
  refine opG rfl (aop_move (av := .v (.bool (o == (-2)))) (.inr rfl) rfl rfl rfl ?_)
  refine op0 ?_
  show AWP _ _ _ _ _
  refine awp_cond (o == (-2)) rfl rfl (fun hc0 => ?_) (fun hc0 => ?_)
  · skip
    have hf1 := (beq_iff_eq).1 hc0
    have h1 : o = -2 := by simpa using hc0
    refine seqR ?_
    refine opG rfl (aop_move (av := .v (.int .u8 0)) (.inr rfl) rfl rfl rfl ?_)
    refine op0 ?_
    show AWP _ _ _ _ _
    refine awp_imp ⟨(upd (upd (upd (upd none_ 1 (.v (.int .i64 o))) 2 (.ro views.length (enc eV views))) 6 (.v (.int .u8 0))) 7 (.fn 39 [.pt 51 0])), (updO noOb 51 (.live ⟨[.v (.int .i64 s)], 3, 1⟩))⟩ (imp_le ⟨(lee_upd 7 _ rfl (lee_upd 6 _ rfl (lee_upd 2 _ rfl (lee_upd 1 _ rfl (lee_none _))))), fun _ => .inl rfl⟩) ?_
    refine awp_ret ?_
    exact fret (av := .v (.int .u8 0)) rfl rfl (by rw [oneS_a h1])
  · skip
    have hf2 := (beq_eq_false_iff_ne).1 hc0
    have h1 : ¬ o = -2 := by simpa using hc0
    refine seqR ?_
    refine opG rfl (aop_binI (u := (.bool (o == (-1)))) rfl rfl rfl rfl rfl trivial rfl ?_)
    refine opG rfl (aop_move (av := .v (.bool (o == (-1)))) (.inr rfl) rfl rfl rfl ?_)
    refine op0 ?_
    show AWP _ _ _ _ _
    refine awp_imp ⟨(upd (upd (upd (upd (upd none_ 1 (.v (.int .i64 o))) 2 (.ro views.length (enc eV views))) 6 (.v (.int .u8 0))) 7 (.fn 39 [.pt 51 0])) 14 (.v (.bool (o == (-1))))), (updO noOb 51 (.live ⟨[.v (.int .i64 s)], 3, 1⟩))⟩ (imp_le ⟨(lee_upd 14 _ rfl (lee_upd 7 _ rfl (lee_upd 6 _ rfl (lee_upd 2 _ rfl (lee_upd 1 _ rfl (lee_none _)))))), fun _ => .inl rfl⟩) ?_
    refine awp_cond (o == (-1)) rfl rfl (fun hc1 => ?_) (fun hc1 => ?_)
    · skip
      have hf3 := (beq_iff_eq).1 hc1
      have h2 : o = -1 := by simpa using hc1
      refine awp_seq ?_
      refine seqR ?_
      refine opG rfl (aop_move (av := .ro views.length (enc eV views)) (.inl rfl) rfl rfl rfl ?_)
      refine opG rfl (aop_move (av := .fn 39 [.pt 51 0]) (.inl rfl) rfl rfl rfl ?_)
      refine opG rfl (callL_ (coVs views s (by omega) hv) rfl rfl rfl rfl rfl bd40 (lends_cons (lend_n (av := .ro views.length (enc eV views))) (lends_cons (lend_fn (lends_cons (lend_pt rfl (lends_cons (lend_n (av := .v (.int .i64 s))) lends_nil)) lends_nil)) lends_nil)) ?_)
      refine op0 ?_
      show AWP _ _ _ _ _
      refine awp_cond (views.any (hasV s)) rfl rfl (fun hc2 => ?_) (fun hc2 => ?_)
      · skip
        refine seqR ?_
        refine opG rfl (aop_move (av := .v (.int .u8 2)) (.inr rfl) rfl rfl rfl ?_)
        refine op0 ?_
        show AWP _ _ _ _ _
        refine awp_imp ⟨(upd (upd (upd (upd none_ 1 (.v (.int .i64 o))) 2 (.ro views.length (enc eV views))) 6 (.v (.int .u8 2))) 7 (.fn 39 [.pt 51 0])), (updO noOb 51 (.live ⟨[.v (.int .i64 s)], 3, 1⟩))⟩ (imp_le ⟨(lee_upd 7 _ rfl (lee_upd 6 _ rfl (lee_upd 2 _ rfl (lee_upd 1 _ rfl (lee_none _))))), fun _ => .inl rfl⟩) ?_
        refine awp_ret ?_
        exact fret (av := .v (.int .u8 2)) rfl rfl (by rw [oneS_b h1 h2 hc2])
      · skip
        refine awp_skip ?_
        show AWP _ _ _ _ _
        refine seqR ?_
        refine opG rfl (aop_move (av := .v (.int .u8 3)) (.inr rfl) rfl rfl rfl ?_)
        refine op0 ?_
        show AWP _ _ _ _ _
        refine awp_imp ⟨(upd (upd (upd (upd none_ 1 (.v (.int .i64 o))) 2 (.ro views.length (enc eV views))) 6 (.v (.int .u8 3))) 7 (.fn 39 [.pt 51 0])), (updO noOb 51 (.live ⟨[.v (.int .i64 s)], 3, 1⟩))⟩ (imp_le ⟨(lee_upd 7 _ rfl (lee_upd 6 _ rfl (lee_upd 2 _ rfl (lee_upd 1 _ rfl (lee_none _))))), fun _ => .inl rfl⟩) ?_
        refine awp_ret ?_
        exact fret (av := .v (.int .u8 3)) rfl rfl (by rw [oneS_c h1 h2 hc2])
    · skip
      have hf4 := (beq_eq_false_iff_ne).1 hc1
      have h2 : ¬ o = -1 := by simpa using hc1
      have hfs := findV_span (id := o) hv
      refine awp_skip ?_
      show AWP _ _ _ _ _
      refine awp_seq ?_
      refine seqR ?_
      refine opG rfl (aop_move (av := .ro views.length (enc eV views)) (.inl rfl) rfl rfl rfl ?_)
      refine opG rfl (aop_move (av := .v (.int .i64 o)) (.inl rfl) rfl rfl rfl ?_)
      refine opG rfl (call_ (o_Find views o (by first | omega | (simp; done) | decide | (simp; omega) | (simp at *; omega))) rfl rfl rfl rfl rfl bd41 rfl ?_)
      refine opG rfl (aop_move (av := .tup [.agg [.v (.int .i64 ((findV views o).id)), .v (.bool ((findV views o).sure)), .ro ((findV views o).span.length) (enc eI ((findV views o).span))], .v (.bool (!decide (findI views o < 0)))]) (.inl rfl) rfl rfl rfl ?_)
      refine opG rfl (aop_extract rfl rfl rfl rfl rfl ?_)
      refine opG rfl (aop_extract rfl rfl rfl rfl rfl ?_)
      refine opG rfl (aop_alloc 52 rfl rfl rfl rfl ze73 rfl ?_)
      refine opG rfl (aop_store rfl rfl rfl sz73 rfl rfl rfl rfl rfl (Nat.le_of_ble_eq_true rfl) rfl rfl ?_)
      refine opG rfl (aop_move (av := .v (.bool (!decide (findI views o < 0)))) (.inr rfl) rfl rfl rfl ?_)
      refine op0 ?_
      show AWP _ _ _ _ _
      refine awp_imp ⟨(upd (upd (upd none_ 6 (.v (.int .u8 0))) 7 (.fn 39 [.pt 51 0])) 8 (.pt 52 0)), (updO (updO (updO noOb 51 (.live ⟨[.v (.int .i64 s)], 3, 1⟩)) 52 (.live ⟨[.v (.int .i64 0), .v (.bool false), .v (.slice none 0 0)], 73, 1⟩)) 52 (.live ⟨[.v (.int .i64 ((findV views o).id)), .v (.bool ((findV views o).sure)), .ro ((findV views o).span.length) (enc eI ((findV views o).span))], 73, 1⟩))⟩ (imp_le ⟨(lee_upd 8 _ rfl (lee_upd 7 _ rfl (lee_upd 6 _ rfl (lee_none _)))), fun _ => .inl rfl⟩) ?_
      refine seqR ?_
      refine opG rfl (aop_move (av := .fn 39 [.pt 51 0]) (.inl rfl) rfl rfl rfl ?_)
      refine opG rfl (aop_ldB (cells' := [.v (.int .i64 ((findV views o).id)), .v (.bool ((findV views o).sure)), .ro ((findV views o).span.length) (enc eI ((findV views o).span))]) rfl rfl rfl ag73 sz73 rfl rfl rfl rfl ?_)
      refine opG rfl (callL_ (s_one1 ((findV views o).span) s (by first | omega | (simp; done) | decide | (simp; omega) | (simp at *; omega))) rfl rfl rfl rfl rfl bd39 (lends_cons (lend_agg (lends_cons (.one _ rfl) (lends_cons (.one _ rfl) (lends_cons (lend_n (av := .ro ((findV views o).span.length) (enc eI ((findV views o).span)))) lends_nil)))) (lends_cons (lend_pt rfl (lends_cons (lend_n (av := .v (.int .i64 s))) lends_nil)) lends_nil)) ?_)
      refine op0 ?_
      show AWP _ _ _ _ _
      refine awp_cond (decide (s ∈ ((findV views o).span))) rfl rfl (fun hc3 => ?_) (fun hc3 => ?_)
      · skip
        refine seqR ?_
        refine opG rfl (aop_move (av := .v (.int .u8 1)) (.inr rfl) rfl rfl rfl ?_)
        refine op0 ?_
        show AWP _ _ _ _ _
        refine awp_imp ⟨(upd none_ 6 (.v (.int .u8 1))), (updO (updO (updO noOb 51 (.live ⟨[.v (.int .i64 s)], 3, 1⟩)) 52 (.live ⟨[.v (.int .i64 0), .v (.bool false), .v (.slice none 0 0)], 73, 1⟩)) 52 (.live ⟨[.v (.int .i64 ((findV views o).id)), .v (.bool ((findV views o).sure)), .ro ((findV views o).span.length) (enc eI ((findV views o).span))], 73, 1⟩))⟩ (imp_le ⟨(lee_upd 6 _ rfl (lee_none _)), fun _ => .inl rfl⟩) ?_
        refine awp_ret ?_
        exact fret (av := .v (.int .u8 1)) rfl rfl (by rw [oneS_d h1 h2 (of_decide_eq_true hc3)])
      · skip
        refine awp_skip ?_
        show AWP _ _ _ _ _
        refine seqR ?_
        refine opG rfl (aop_move (av := .v (.int .u8 0)) (.inr rfl) rfl rfl rfl ?_)
        refine op0 ?_
        show AWP _ _ _ _ _
        refine awp_imp ⟨(upd none_ 6 (.v (.int .u8 0))), (updO (updO (updO noOb 51 (.live ⟨[.v (.int .i64 s)], 3, 1⟩)) 52 (.live ⟨[.v (.int .i64 0), .v (.bool false), .v (.slice none 0 0)], 73, 1⟩)) 52 (.live ⟨[.v (.int .i64 ((findV views o).id)), .v (.bool ((findV views o).sure)), .ro ((findV views o).span.length) (enc eI ((findV views o).span))], 73, 1⟩))⟩ (imp_le ⟨(lee_upd 6 _ rfl (lee_none _)), fun _ => .inl rfl⟩) ?_
        refine awp_ret ?_
        exact fret (av := .v (.int .u8 0)) rfl rfl (by rw [oneS_e h1 h2 (of_decide_eq_false hc3)])

set_option maxRecDepth 10000 in
set_option maxHeartbeats 16000000 in
theorem s_Kind (a b : Int) (ha : 0 ≤ a ∧ a ≤ 255) (hb : 0 ≤ b ∧ b ≤ 255) : Fn Tryd.prog 22 [.v (.int .u8 a), .v (.int .u8 b)] (.v (.int .u8 (kindI a b))) := by
  refine fnE_of_body (N := 16) Tryd.func22 rfl rfl (resOf1 rfl) (by simp) (fun w0 X hL_ => ?_)
  refine seqR ?_
  refine opG rfl (aop_move (av := .v (.int .u8 0)) (.inr rfl) rfl rfl rfl ?_)
  refine op0 ?_
  show AWP _ _ _ _ _
  refine awp_seq ?_
  refine seqR ?_
  refine opG rfl (aop_move (av := .v (.int .u8 a)) (.inl rfl) rfl rfl rfl ?_)
  refine opG rfl (aop_binI (u := (.bool (decide (a > 3)))) rfl rfl rfl rfl rfl trivial rfl ?_)
  refine opG rfl (aop_move (av := .v (.bool (decide (a > 3)))) (.inl rfl) rfl rfl rfl ?_)
  refine aops_grp 3 10 (.v (.bool ((decide (a > 3)) || (decide (b > 3))))) ?_ ?_
  · rcases Bool.eq_false_or_eq_true (decide (a > 3)) with hg1 | hg1
    · skip
      have hf2 := of_decide_eq_true hg1
      refine opN rfl rfl rfl rfl (by show yv (.bool (decide (a > 3))) ≠ _; rw [hg1]; intro h; cases h) rfl rfl ?_
      refine opN rfl rfl rfl rfl (by show yv (.bool (decide (a > 3))) ≠ _; rw [hg1]; intro h; cases h) rfl rfl ?_
      refine opG rfl (aop_pick (b := (decide (a > 3))) rfl rfl rfl rfl (by rw [hg1] <;> rfl) ?_)
      refine op0 ?_
      exact imp_env (lee_both 10 _ _ (by rw [hg1] <;> rfl) (lee_out 9 _ rfl (lee_out 8 _ rfl (lee_same _))))
    · skip
      have hf3 := of_decide_eq_false hg1
      refine opY rfl rfl rfl (by show AV.v (.bool (decide (a > 3))) = _; rw [hg1]) (aop_move (av := .v (.int .u8 b)) (.inl rfl) rfl rfl rfl ?_)
      refine opY rfl rfl rfl (by show AV.v (.bool (decide (a > 3))) = _; rw [hg1]) (aop_binI (u := (.bool (decide (b > 3)))) rfl rfl rfl rfl rfl trivial rfl ?_)
      refine opG rfl (aop_pick (b := (decide (a > 3))) rfl rfl rfl rfl (by rw [hg1] <;> rfl) ?_)
      refine op0 ?_
      exact imp_env (lee_both 10 _ _ (by rw [hg1] <;> rfl) (lee_out 9 _ rfl (lee_out 8 _ rfl (lee_same _))))
  refine op0 ?_
  show AWP _ _ _ _ _
  refine awp_imp ⟨(upd (upd (upd (upd none_ 0 (.v (.int .u8 a))) 1 (.v (.int .u8 b))) 4 (.v (.int .u8 0))) 10 (.v (.bool ((decide (a > 3)) || (decide (b > 3)))))), noOb⟩ (imp_le ⟨(lee_upd 10 _ rfl (lee_upd 4 _ rfl (lee_upd 1 _ rfl (lee_upd 0 _ rfl (lee_none _))))), fun _ => .inl rfl⟩) ?_
  refine awp_cond ((decide (a > 3)) || (decide (b > 3))) rfl rfl (fun hc0 => ?_) (fun hc0 => ?_)
  · skip
    refine seqR ?_
    refine opG rfl (aop_move (av := .v (.int .u8 0)) (.inr rfl) rfl rfl rfl ?_)
    refine op0 ?_
    show AWP _ _ _ _ _
    refine awp_ret ?_
    exact fret (av := .v (.int .u8 0)) rfl rfl (by rw [kind_no hc0])
  · skip
    obtain ⟨hf4a, hf4b⟩ := or_f hc0
    have hf5 := of_decide_eq_false hf4a
    have hf6 := of_decide_eq_false hf4b
    have hno : (decide (a > 3) || decide (b > 3)) = false := hc0
    have hkl := kind_lt hno ha.1 hb.1
    refine awp_skip ?_
    show AWP _ _ _ _ _
    refine seqR ?_
    refine opG rfl (aop_move (av := .v (.int .u8 a)) (.inl rfl) rfl rfl rfl ?_)
    refine opG rfl (aop_move (av := .v (.int .u8 b)) (.inl rfl) rfl rfl rfl ?_)
    refine opG rfl (aop_ixArrI rfl rfl rfl ut79 sz78 rfl rfl (by first | omega | (simp; done) | decide | (simp; omega) | (simp at *; omega)) (by first | omega | (simp; done) | decide | (simp; omega) | (simp at *; omega)) ?_)
    refine opG rfl (aop_ixArrI rfl rfl rfl ut78 sz5 rfl rfl (by first | omega | (simp; done) | decide | (simp; omega) | (simp at *; omega)) (by first | omega | (simp; done) | decide | (simp; omega) | (simp at *; omega)) ?_)
    refine opG rfl (aop_ld (av := .v (.int .u8 (kindI a b))) rfl rfl rfl ag5 rfl (congrArg some (kind_cell hno ha.1 hb.1)) ?_)
    refine opG rfl (aop_move (av := .v (.int .u8 (kindI a b))) (.inr rfl) rfl rfl rfl ?_)
    refine op0 ?_
    show AWP _ _ _ _ _
    refine awp_imp ⟨(upd none_ 4 (.v (.int .u8 (kindI a b)))), noOb⟩ (imp_le ⟨(lee_upd 4 _ rfl (lee_none _)), fun _ => .inl rfl⟩) ?_
    refine awp_ret ?_
    exact fret (av := .v (.int .u8 (kindI a b))) rfl rfl rfl

set_option maxRecDepth 10000 in
set_option maxHeartbeats 16000000 in
theorem r13_Kind (a b : Int) (ha : 0 ≤ a ∧ a ≤ 255) (hb : 0 ≤ b ∧ b ≤ 255) : Fn Tryd.prog 23 [.v (.int .u8 a), .v (.int .u8 b)] (.v (.int .u8 (kindI a b))) := by
  refine fnE_of_body (N := 22) Tryd.func23 rfl rfl (resOf1 rfl) (by simp) (fun w0 X hL_ => ?_)
  refine seqR ?_
  refine opG rfl (aop_move (av := .v (.int .u8 0)) (.inr rfl) rfl rfl rfl ?_)
  refine op0 ?_
  show AWP _ _ _ _ _
  refine seqR ?_
  refine opG rfl (aop_lit (cells := enc eU8 kindT) rfl rfl rfl ut26 iz5 (by decide) (by decide) rfl rfl ?_)
  refine opG rfl (aop_move (av := .ro 16 (enc eU8 kindT)) (.inr rfl) rfl rfl rfl ?_)
  refine op0 ?_
  show AWP _ _ _ _ _
  refine awp_seq ?_
  refine seqR ?_
  refine opG rfl (aop_move (av := .v (.int .u8 a)) (.inl rfl) rfl rfl rfl ?_)
  refine opG rfl (aop_binI (u := (.bool (decide (a > 3)))) rfl rfl rfl rfl rfl trivial rfl ?_)
  refine opG rfl (aop_move (av := .v (.bool (decide (a > 3)))) (.inl rfl) rfl rfl rfl ?_)
  refine aops_grp 3 12 (.v (.bool ((decide (a > 3)) || (decide (b > 3))))) ?_ ?_
  · rcases Bool.eq_false_or_eq_true (decide (a > 3)) with hg1 | hg1
    · skip
      have hf2 := of_decide_eq_true hg1
      refine opN rfl rfl rfl rfl (by show yv (.bool (decide (a > 3))) ≠ _; rw [hg1]; intro h; cases h) rfl rfl ?_
      refine opN rfl rfl rfl rfl (by show yv (.bool (decide (a > 3))) ≠ _; rw [hg1]; intro h; cases h) rfl rfl ?_
      refine opG rfl (aop_pick (b := (decide (a > 3))) rfl rfl rfl rfl (by rw [hg1] <;> rfl) ?_)
      refine op0 ?_
      exact imp_env (lee_both 12 _ _ (by rw [hg1] <;> rfl) (lee_out 11 _ rfl (lee_out 10 _ rfl (lee_same _))))
    · skip
      have hf3 := of_decide_eq_false hg1
      refine opY rfl rfl rfl (by show AV.v (.bool (decide (a > 3))) = _; rw [hg1]) (aop_move (av := .v (.int .u8 b)) (.inl rfl) rfl rfl rfl ?_)
      refine opY rfl rfl rfl (by show AV.v (.bool (decide (a > 3))) = _; rw [hg1]) (aop_binI (u := (.bool (decide (b > 3)))) rfl rfl rfl rfl rfl trivial rfl ?_)
      refine opG rfl (aop_pick (b := (decide (a > 3))) rfl rfl rfl rfl (by rw [hg1] <;> rfl) ?_)
      refine op0 ?_
      exact imp_env (lee_both 12 _ _ (by rw [hg1] <;> rfl) (lee_out 11 _ rfl (lee_out 10 _ rfl (lee_same _))))
  refine op0 ?_
  show AWP _ _ _ _ _
  refine awp_imp ⟨(upd (upd (upd (upd (upd none_ 0 (.v (.int .u8 a))) 1 (.v (.int .u8 b))) 4 (.v (.int .u8 0))) 5 (.ro 16 (enc eU8 kindT))) 12 (.v (.bool ((decide (a > 3)) || (decide (b > 3)))))), noOb⟩ (imp_le ⟨(lee_upd 12 _ rfl (lee_upd 5 _ rfl (lee_upd 4 _ rfl (lee_upd 1 _ rfl (lee_upd 0 _ rfl (lee_none _)))))), fun _ => .inl rfl⟩) ?_
  refine awp_cond ((decide (a > 3)) || (decide (b > 3))) rfl rfl (fun hc0 => ?_) (fun hc0 => ?_)
  · skip
    refine seqR ?_
    refine opG rfl (aop_move (av := .v (.int .u8 0)) (.inr rfl) rfl rfl rfl ?_)
    refine op0 ?_
    show AWP _ _ _ _ _
    refine awp_ret ?_
    exact fret (av := .v (.int .u8 0)) rfl rfl (by rw [kind_no hc0])
  · skip
    obtain ⟨hf4a, hf4b⟩ := or_f hc0
    have hf5 := of_decide_eq_false hf4a
    have hf6 := of_decide_eq_false hf4b
    have hno : (decide (a > 3) || decide (b > 3)) = false := hc0
    have hkl := kind_lt hno ha.1 hb.1
    refine awp_skip ?_
    show AWP _ _ _ _ _
    refine seqR ?_
    refine opG rfl (aop_move (av := .ro 16 (enc eU8 kindT)) (.inl rfl) rfl rfl rfl ?_)
    refine opG rfl (aop_move (av := .v (.int .u8 a)) (.inl rfl) rfl rfl rfl ?_)
    refine opG rfl (aop_conv' rfl rfl rfl ut5 ut3 rfl (IntWalk.i64_in _ (by omega)) ?_)
    refine opG rfl (aop_binI (u := (.int .i64 (4 * a))) rfl rfl rfl rfl rfl trivial (mulI (by omega)) ?_)
    refine opG rfl (aop_move (av := .v (.int .u8 b)) (.inl rfl) rfl rfl rfl ?_)
    refine opG rfl (aop_conv' rfl rfl rfl ut5 ut3 rfl (IntWalk.i64_in _ (by omega)) ?_)
    refine opG rfl (aop_binI (u := (.int .i64 ((4 * a) + b))) rfl rfl rfl rfl rfl trivial (addI (by omega)) ?_)
    refine opG rfl (aop_ixI 0 rfl rfl rfl ut26 sz5 rfl rfl (fun _ => rfl) rfl (by omega) (by show _ < ((16 : Nat) : Int); omega) ?_)
    refine opG rfl (aop_ld (av := .v (.int .u8 (kindT.getD ((4 * a) + b).toNat 0))) rfl rfl rfl ag5 rfl rfl ?_)
    refine opG rfl (aop_move (av := .v (.int .u8 (kindT.getD ((4 * a) + b).toNat 0))) (.inr rfl) rfl rfl rfl ?_)
    refine op0 ?_
    show AWP _ _ _ _ _
    refine awp_imp ⟨(upd none_ 4 (.v (.int .u8 (kindT.getD ((4 * a) + b).toNat 0)))), noOb⟩ (imp_le ⟨(lee_upd 4 _ rfl (lee_none _)), fun _ => .inl rfl⟩) ?_
    refine awp_ret ?_
    exact fret (av := .v (.int .u8 (kindT.getD ((4 * a) + b).toNat 0))) rfl rfl (by rw [kind_in hno])

set_option maxRecDepth 10000 in
set_option maxHeartbeats 16000000 in
theorem b_Mul64 (n : Int) (hn : 0 ≤ n ∧ n ≤ 8) : Fn Tryd.prog 51 [.v (.int .u64 1), .v (.int .u64 n)] (.tup [.v (.int .u64 0), .v (.int .u64 n)]) := by
  have hc9 : n = 0 ∨ n = 1 ∨ n = 2 ∨ n = 3 ∨ n = 4 ∨ n = 5 ∨ n = 6 ∨ n = 7 ∨ n = 8 := by omega
  refine fnE_of_body (N := 51) Tryd.func51 rfl rfl (resOf2 rfl) (by simp) (fun w0 X hL_ => ?_)
  refine seqR ?_
  refine opG rfl (aop_move (av := .v (.int .u64 0)) (.inr rfl) rfl rfl rfl ?_)
  refine opG rfl (aop_move (av := .v (.int .u64 0)) (.inr rfl) rfl rfl rfl ?_)
  refine op0 ?_
  show AWP _ _ _ _ _
  refine seqR ?_
  refine opG rfl (aop_move (av := .v (.int .u64 1)) (.inl rfl) rfl rfl rfl ?_)
  refine opG rfl (aop_and rfl rfl rfl rfl rfl ?_)
  refine opG rfl (aop_move (av := .v (.int .u64 (andI .u64 1 4294967295))) (.inr rfl) rfl rfl rfl ?_)
  refine op0 ?_
  show AWP _ _ _ _ _
  refine awp_imp ⟨(upd (upd (upd (upd (upd none_ 0 (.v (.int .u64 1))) 1 (.v (.int .u64 n))) 4 (.v (.int .u64 0))) 5 (.v (.int .u64 0))) 6 (.v (.int .u64 (andI .u64 1 4294967295)))), noOb⟩ (imp_le ⟨(lee_upd 6 _ rfl (lee_upd 5 _ rfl (lee_upd 4 _ rfl (lee_upd 1 _ rfl (lee_upd 0 _ rfl (lee_none _)))))), fun _ => .inl rfl⟩) ?_
  refine seqR ?_
  refine opG rfl (aop_move (av := .v (.int .u64 1)) (.inl rfl) rfl rfl rfl ?_)
  refine opG rfl (aop_shrK 32 rfl rfl rfl rfl rfl (by show _ ≤ 64; decide) ?_)
  refine opG rfl (aop_move (av := .v (.int .u64 ((1 : Int).fdiv (2 ^ 32)))) (.inr rfl) rfl rfl rfl ?_)
  refine op0 ?_
  show AWP _ _ _ _ _
  refine seqR ?_
  refine opG rfl (aop_move (av := .v (.int .u64 n)) (.inl rfl) rfl rfl rfl ?_)
  refine opG rfl (aop_and rfl rfl rfl rfl rfl ?_)
  refine opG rfl (aop_move (av := .v (.int .u64 (andI .u64 n 4294967295))) (.inr rfl) rfl rfl rfl ?_)
  refine op0 ?_
  show AWP _ _ _ _ _
  refine awp_imp ⟨(upd (upd (upd (upd (upd (upd (upd none_ 0 (.v (.int .u64 1))) 1 (.v (.int .u64 n))) 4 (.v (.int .u64 0))) 5 (.v (.int .u64 0))) 6 (.v (.int .u64 (andI .u64 1 4294967295)))) 7 (.v (.int .u64 ((1 : Int).fdiv (2 ^ 32))))) 8 (.v (.int .u64 (andI .u64 n 4294967295)))), noOb⟩ (imp_le ⟨(lee_upd 8 _ rfl (lee_upd 7 _ rfl (lee_upd 6 _ rfl (lee_upd 5 _ rfl (lee_upd 4 _ rfl (lee_upd 1 _ rfl (lee_upd 0 _ rfl (lee_none _)))))))), fun _ => .inl rfl⟩) ?_
  refine seqR ?_
  refine opG rfl (aop_move (av := .v (.int .u64 n)) (.inl rfl) rfl rfl rfl ?_)
  refine opG rfl (aop_shrK 32 rfl rfl rfl rfl rfl (by show _ ≤ 64; decide) ?_)
  refine opG rfl (aop_move (av := .v (.int .u64 (n.fdiv (2 ^ 32)))) (.inr rfl) rfl rfl rfl ?_)
  refine op0 ?_
  show AWP _ _ _ _ _
  refine seqR ?_
  refine opG rfl (aop_move (av := .v (.int .u64 (andI .u64 1 4294967295))) (.inl rfl) rfl rfl rfl ?_)
  refine opG rfl (aop_move (av := .v (.int .u64 (andI .u64 n 4294967295))) (.inl rfl) rfl rfl rfl ?_)
  refine opG rfl (aop_binI (u := (.int .u64 (IntKind.u64.wrap ((andI .u64 1 4294967295) * (andI .u64 n 4294967295))))) rfl rfl rfl rfl rfl trivial rfl ?_)
  refine opG rfl (aop_move (av := .v (.int .u64 (IntKind.u64.wrap ((andI .u64 1 4294967295) * (andI .u64 n 4294967295))))) (.inr rfl) rfl rfl rfl ?_)
  refine op0 ?_
  show AWP _ _ _ _ _
  refine awp_imp ⟨(upd (upd (upd (upd (upd (upd (upd (upd (upd none_ 0 (.v (.int .u64 1))) 1 (.v (.int .u64 n))) 4 (.v (.int .u64 0))) 5 (.v (.int .u64 0))) 6 (.v (.int .u64 (andI .u64 1 4294967295)))) 7 (.v (.int .u64 ((1 : Int).fdiv (2 ^ 32))))) 8 (.v (.int .u64 (andI .u64 n 4294967295)))) 9 (.v (.int .u64 (n.fdiv (2 ^ 32))))) 10 (.v (.int .u64 (IntKind.u64.wrap ((andI .u64 1 4294967295) * (andI .u64 n 4294967295)))))), noOb⟩ (imp_le ⟨(lee_upd 10 _ rfl (lee_upd 9 _ rfl (lee_upd 8 _ rfl (lee_upd 7 _ rfl (lee_upd 6 _ rfl (lee_upd 5 _ rfl (lee_upd 4 _ rfl (lee_upd 1 _ rfl (lee_upd 0 _ rfl (lee_none _)))))))))), fun _ => .inl rfl⟩) ?_
  refine seqR ?_
  refine opG rfl (aop_move (av := .v (.int .u64 ((1 : Int).fdiv (2 ^ 32)))) (.inl rfl) rfl rfl rfl ?_)
  refine opG rfl (aop_move (av := .v (.int .u64 (andI .u64 n 4294967295))) (.inl rfl) rfl rfl rfl ?_)
  refine opG rfl (aop_binI (u := (.int .u64 (IntKind.u64.wrap (((1 : Int).fdiv (2 ^ 32)) * (andI .u64 n 4294967295))))) rfl rfl rfl rfl rfl trivial rfl ?_)
  refine opG rfl (aop_move (av := .v (.int .u64 (IntKind.u64.wrap ((andI .u64 1 4294967295) * (andI .u64 n 4294967295))))) (.inl rfl) rfl rfl rfl ?_)
  refine opG rfl (aop_shrK 32 rfl rfl rfl rfl rfl (by show _ ≤ 64; decide) ?_)
  refine opG rfl (aop_binI (u := (.int .u64 (IntKind.u64.wrap ((IntKind.u64.wrap (((1 : Int).fdiv (2 ^ 32)) * (andI .u64 n 4294967295))) + ((IntKind.u64.wrap ((andI .u64 1 4294967295) * (andI .u64 n 4294967295))).fdiv (2 ^ 32)))))) rfl rfl rfl rfl rfl trivial rfl ?_)
  refine opG rfl (aop_move (av := .v (.int .u64 (IntKind.u64.wrap ((IntKind.u64.wrap (((1 : Int).fdiv (2 ^ 32)) * (andI .u64 n 4294967295))) + ((IntKind.u64.wrap ((andI .u64 1 4294967295) * (andI .u64 n 4294967295))).fdiv (2 ^ 32)))))) (.inr rfl) rfl rfl rfl ?_)
  refine op0 ?_
  show AWP _ _ _ _ _
  refine awp_imp ⟨(upd (upd (upd (upd (upd (upd (upd (upd none_ 0 (.v (.int .u64 1))) 1 (.v (.int .u64 n))) 4 (.v (.int .u64 0))) 5 (.v (.int .u64 0))) 6 (.v (.int .u64 (andI .u64 1 4294967295)))) 7 (.v (.int .u64 ((1 : Int).fdiv (2 ^ 32))))) 9 (.v (.int .u64 (n.fdiv (2 ^ 32))))) 11 (.v (.int .u64 (IntKind.u64.wrap ((IntKind.u64.wrap (((1 : Int).fdiv (2 ^ 32)) * (andI .u64 n 4294967295))) + ((IntKind.u64.wrap ((andI .u64 1 4294967295) * (andI .u64 n 4294967295))).fdiv (2 ^ 32))))))), noOb⟩ (imp_le ⟨(lee_upd 11 _ rfl (lee_upd 9 _ rfl (lee_upd 7 _ rfl (lee_upd 6 _ rfl (lee_upd 5 _ rfl (lee_upd 4 _ rfl (lee_upd 1 _ rfl (lee_upd 0 _ rfl (lee_none _))))))))), fun _ => .inl rfl⟩) ?_
  refine seqR ?_
  refine opG rfl (aop_move (av := .v (.int .u64 (IntKind.u64.wrap ((IntKind.u64.wrap (((1 : Int).fdiv (2 ^ 32)) * (andI .u64 n 4294967295))) + ((IntKind.u64.wrap ((andI .u64 1 4294967295) * (andI .u64 n 4294967295))).fdiv (2 ^ 32)))))) (.inl rfl) rfl rfl rfl ?_)
  refine opG rfl (aop_and rfl rfl rfl rfl rfl ?_)
  refine opG rfl (aop_move (av := .v (.int .u64 (andI .u64 (IntKind.u64.wrap ((IntKind.u64.wrap (((1 : Int).fdiv (2 ^ 32)) * (andI .u64 n 4294967295))) + ((IntKind.u64.wrap ((andI .u64 1 4294967295) * (andI .u64 n 4294967295))).fdiv (2 ^ 32)))) 4294967295))) (.inr rfl) rfl rfl rfl ?_)
  refine op0 ?_
  show AWP _ _ _ _ _
  refine seqR ?_
  refine opG rfl (aop_move (av := .v (.int .u64 (IntKind.u64.wrap ((IntKind.u64.wrap (((1 : Int).fdiv (2 ^ 32)) * (andI .u64 n 4294967295))) + ((IntKind.u64.wrap ((andI .u64 1 4294967295) * (andI .u64 n 4294967295))).fdiv (2 ^ 32)))))) (.inl rfl) rfl rfl rfl ?_)
  refine opG rfl (aop_shrK 32 rfl rfl rfl rfl rfl (by show _ ≤ 64; decide) ?_)
  refine opG rfl (aop_move (av := .v (.int .u64 ((IntKind.u64.wrap ((IntKind.u64.wrap (((1 : Int).fdiv (2 ^ 32)) * (andI .u64 n 4294967295))) + ((IntKind.u64.wrap ((andI .u64 1 4294967295) * (andI .u64 n 4294967295))).fdiv (2 ^ 32)))).fdiv (2 ^ 32)))) (.inr rfl) rfl rfl rfl ?_)
  refine op0 ?_
  show AWP _ _ _ _ _
  refine awp_imp ⟨(upd (upd (upd (upd (upd (upd (upd (upd (upd none_ 0 (.v (.int .u64 1))) 1 (.v (.int .u64 n))) 4 (.v (.int .u64 0))) 5 (.v (.int .u64 0))) 6 (.v (.int .u64 (andI .u64 1 4294967295)))) 7 (.v (.int .u64 ((1 : Int).fdiv (2 ^ 32))))) 9 (.v (.int .u64 (n.fdiv (2 ^ 32))))) 12 (.v (.int .u64 (andI .u64 (IntKind.u64.wrap ((IntKind.u64.wrap (((1 : Int).fdiv (2 ^ 32)) * (andI .u64 n 4294967295))) + ((IntKind.u64.wrap ((andI .u64 1 4294967295) * (andI .u64 n 4294967295))).fdiv (2 ^ 32)))) 4294967295)))) 13 (.v (.int .u64 ((IntKind.u64.wrap ((IntKind.u64.wrap (((1 : Int).fdiv (2 ^ 32)) * (andI .u64 n 4294967295))) + ((IntKind.u64.wrap ((andI .u64 1 4294967295) * (andI .u64 n 4294967295))).fdiv (2 ^ 32)))).fdiv (2 ^ 32))))), noOb⟩ (imp_le ⟨(lee_upd 13 _ rfl (lee_upd 12 _ rfl (lee_upd 9 _ rfl (lee_upd 7 _ rfl (lee_upd 6 _ rfl (lee_upd 5 _ rfl (lee_upd 4 _ rfl (lee_upd 1 _ rfl (lee_upd 0 _ rfl (lee_none _)))))))))), fun _ => .inl rfl⟩) ?_
  refine seqR ?_
  refine opG rfl (aop_move (av := .v (.int .u64 (andI .u64 (IntKind.u64.wrap ((IntKind.u64.wrap (((1 : Int).fdiv (2 ^ 32)) * (andI .u64 n 4294967295))) + ((IntKind.u64.wrap ((andI .u64 1 4294967295) * (andI .u64 n 4294967295))).fdiv (2 ^ 32)))) 4294967295))) (.inl rfl) rfl rfl rfl ?_)
  refine opG rfl (aop_move (av := .v (.int .u64 (andI .u64 1 4294967295))) (.inl rfl) rfl rfl rfl ?_)
  refine opG rfl (aop_move (av := .v (.int .u64 (n.fdiv (2 ^ 32)))) (.inl rfl) rfl rfl rfl ?_)
  refine opG rfl (aop_binI (u := (.int .u64 (IntKind.u64.wrap ((andI .u64 1 4294967295) * (n.fdiv (2 ^ 32)))))) rfl rfl rfl rfl rfl trivial rfl ?_)
  refine opG rfl (aop_binI (u := (.int .u64 (IntKind.u64.wrap ((andI .u64 (IntKind.u64.wrap ((IntKind.u64.wrap (((1 : Int).fdiv (2 ^ 32)) * (andI .u64 n 4294967295))) + ((IntKind.u64.wrap ((andI .u64 1 4294967295) * (andI .u64 n 4294967295))).fdiv (2 ^ 32)))) 4294967295) + (IntKind.u64.wrap ((andI .u64 1 4294967295) * (n.fdiv (2 ^ 32)))))))) rfl rfl rfl rfl rfl trivial rfl ?_)
  refine opG rfl (aop_move (av := .v (.int .u64 (IntKind.u64.wrap ((andI .u64 (IntKind.u64.wrap ((IntKind.u64.wrap (((1 : Int).fdiv (2 ^ 32)) * (andI .u64 n 4294967295))) + ((IntKind.u64.wrap ((andI .u64 1 4294967295) * (andI .u64 n 4294967295))).fdiv (2 ^ 32)))) 4294967295) + (IntKind.u64.wrap ((andI .u64 1 4294967295) * (n.fdiv (2 ^ 32)))))))) (.inr rfl) rfl rfl rfl ?_)
  refine op0 ?_
  show AWP _ _ _ _ _
  refine awp_imp ⟨(upd (upd (upd (upd (upd (upd (upd (upd none_ 0 (.v (.int .u64 1))) 1 (.v (.int .u64 n))) 4 (.v (.int .u64 0))) 5 (.v (.int .u64 0))) 7 (.v (.int .u64 ((1 : Int).fdiv (2 ^ 32))))) 9 (.v (.int .u64 (n.fdiv (2 ^ 32))))) 12 (.v (.int .u64 (IntKind.u64.wrap ((andI .u64 (IntKind.u64.wrap ((IntKind.u64.wrap (((1 : Int).fdiv (2 ^ 32)) * (andI .u64 n 4294967295))) + ((IntKind.u64.wrap ((andI .u64 1 4294967295) * (andI .u64 n 4294967295))).fdiv (2 ^ 32)))) 4294967295) + (IntKind.u64.wrap ((andI .u64 1 4294967295) * (n.fdiv (2 ^ 32))))))))) 13 (.v (.int .u64 ((IntKind.u64.wrap ((IntKind.u64.wrap (((1 : Int).fdiv (2 ^ 32)) * (andI .u64 n 4294967295))) + ((IntKind.u64.wrap ((andI .u64 1 4294967295) * (andI .u64 n 4294967295))).fdiv (2 ^ 32)))).fdiv (2 ^ 32))))), noOb⟩ (imp_le ⟨(lee_upd 13 _ rfl (lee_upd 12 _ rfl (lee_upd 9 _ rfl (lee_upd 7 _ rfl (lee_upd 5 _ rfl (lee_upd 4 _ rfl (lee_upd 1 _ rfl (lee_upd 0 _ rfl (lee_none _))))))))), fun _ => .inl rfl⟩) ?_
  refine seqR ?_
  refine opG rfl (aop_move (av := .v (.int .u64 ((1 : Int).fdiv (2 ^ 32)))) (.inl rfl) rfl rfl rfl ?_)
  refine opG rfl (aop_move (av := .v (.int .u64 (n.fdiv (2 ^ 32)))) (.inl rfl) rfl rfl rfl ?_)
  refine opG rfl (aop_binI (u := (.int .u64 (IntKind.u64.wrap (((1 : Int).fdiv (2 ^ 32)) * (n.fdiv (2 ^ 32)))))) rfl rfl rfl rfl rfl trivial rfl ?_)
  refine opG rfl (aop_move (av := .v (.int .u64 ((IntKind.u64.wrap ((IntKind.u64.wrap (((1 : Int).fdiv (2 ^ 32)) * (andI .u64 n 4294967295))) + ((IntKind.u64.wrap ((andI .u64 1 4294967295) * (andI .u64 n 4294967295))).fdiv (2 ^ 32)))).fdiv (2 ^ 32)))) (.inl rfl) rfl rfl rfl ?_)
  refine opG rfl (aop_binI (u := (.int .u64 (IntKind.u64.wrap ((IntKind.u64.wrap (((1 : Int).fdiv (2 ^ 32)) * (n.fdiv (2 ^ 32)))) + ((IntKind.u64.wrap ((IntKind.u64.wrap (((1 : Int).fdiv (2 ^ 32)) * (andI .u64 n 4294967295))) + ((IntKind.u64.wrap ((andI .u64 1 4294967295) * (andI .u64 n 4294967295))).fdiv (2 ^ 32)))).fdiv (2 ^ 32)))))) rfl rfl rfl rfl rfl trivial rfl ?_)
  refine opG rfl (aop_move (av := .v (.int .u64 (IntKind.u64.wrap ((andI .u64 (IntKind.u64.wrap ((IntKind.u64.wrap (((1 : Int).fdiv (2 ^ 32)) * (andI .u64 n 4294967295))) + ((IntKind.u64.wrap ((andI .u64 1 4294967295) * (andI .u64 n 4294967295))).fdiv (2 ^ 32)))) 4294967295) + (IntKind.u64.wrap ((andI .u64 1 4294967295) * (n.fdiv (2 ^ 32)))))))) (.inl rfl) rfl rfl rfl ?_)
  refine opG rfl (aop_shrK 32 rfl rfl rfl rfl rfl (by show _ ≤ 64; decide) ?_)
  refine opG rfl (aop_binI (u := (.int .u64 (IntKind.u64.wrap ((IntKind.u64.wrap ((IntKind.u64.wrap (((1 : Int).fdiv (2 ^ 32)) * (n.fdiv (2 ^ 32)))) + ((IntKind.u64.wrap ((IntKind.u64.wrap (((1 : Int).fdiv (2 ^ 32)) * (andI .u64 n 4294967295))) + ((IntKind.u64.wrap ((andI .u64 1 4294967295) * (andI .u64 n 4294967295))).fdiv (2 ^ 32)))).fdiv (2 ^ 32)))) + ((IntKind.u64.wrap ((andI .u64 (IntKind.u64.wrap ((IntKind.u64.wrap (((1 : Int).fdiv (2 ^ 32)) * (andI .u64 n 4294967295))) + ((IntKind.u64.wrap ((andI .u64 1 4294967295) * (andI .u64 n 4294967295))).fdiv (2 ^ 32)))) 4294967295) + (IntKind.u64.wrap ((andI .u64 1 4294967295) * (n.fdiv (2 ^ 32)))))).fdiv (2 ^ 32)))))) rfl rfl rfl rfl rfl trivial rfl ?_)
  refine opG rfl (aop_move (av := .v (.int .u64 (IntKind.u64.wrap ((IntKind.u64.wrap ((IntKind.u64.wrap (((1 : Int).fdiv (2 ^ 32)) * (n.fdiv (2 ^ 32)))) + ((IntKind.u64.wrap ((IntKind.u64.wrap (((1 : Int).fdiv (2 ^ 32)) * (andI .u64 n 4294967295))) + ((IntKind.u64.wrap ((andI .u64 1 4294967295) * (andI .u64 n 4294967295))).fdiv (2 ^ 32)))).fdiv (2 ^ 32)))) + ((IntKind.u64.wrap ((andI .u64 (IntKind.u64.wrap ((IntKind.u64.wrap (((1 : Int).fdiv (2 ^ 32)) * (andI .u64 n 4294967295))) + ((IntKind.u64.wrap ((andI .u64 1 4294967295) * (andI .u64 n 4294967295))).fdiv (2 ^ 32)))) 4294967295) + (IntKind.u64.wrap ((andI .u64 1 4294967295) * (n.fdiv (2 ^ 32)))))).fdiv (2 ^ 32)))))) (.inr rfl) rfl rfl rfl ?_)
  refine op0 ?_
  show AWP _ _ _ _ _
  refine awp_imp ⟨(upd (upd (upd (upd none_ 0 (.v (.int .u64 1))) 1 (.v (.int .u64 n))) 4 (.v (.int .u64 (IntKind.u64.wrap ((IntKind.u64.wrap ((IntKind.u64.wrap (((1 : Int).fdiv (2 ^ 32)) * (n.fdiv (2 ^ 32)))) + ((IntKind.u64.wrap ((IntKind.u64.wrap (((1 : Int).fdiv (2 ^ 32)) * (andI .u64 n 4294967295))) + ((IntKind.u64.wrap ((andI .u64 1 4294967295) * (andI .u64 n 4294967295))).fdiv (2 ^ 32)))).fdiv (2 ^ 32)))) + ((IntKind.u64.wrap ((andI .u64 (IntKind.u64.wrap ((IntKind.u64.wrap (((1 : Int).fdiv (2 ^ 32)) * (andI .u64 n 4294967295))) + ((IntKind.u64.wrap ((andI .u64 1 4294967295) * (andI .u64 n 4294967295))).fdiv (2 ^ 32)))) 4294967295) + (IntKind.u64.wrap ((andI .u64 1 4294967295) * (n.fdiv (2 ^ 32)))))).fdiv (2 ^ 32))))))) 5 (.v (.int .u64 0))), noOb⟩ (imp_le ⟨(lee_upd 5 _ rfl (lee_upd 4 _ rfl (lee_upd 1 _ rfl (lee_upd 0 _ rfl (lee_none _))))), fun _ => .inl rfl⟩) ?_
  refine seqR ?_
  refine opG rfl (aop_move (av := .v (.int .u64 1)) (.inl rfl) rfl rfl rfl ?_)
  refine opG rfl (aop_move (av := .v (.int .u64 n)) (.inl rfl) rfl rfl rfl ?_)
  refine opG rfl (aop_binI (u := (.int .u64 (IntKind.u64.wrap (1 * n)))) rfl rfl rfl rfl rfl trivial rfl ?_)
  refine opG rfl (aop_move (av := .v (.int .u64 (IntKind.u64.wrap (1 * n)))) (.inr rfl) rfl rfl rfl ?_)
  refine op0 ?_
  show AWP _ _ _ _ _
  refine awp_imp ⟨(upd (upd none_ 4 (.v (.int .u64 (IntKind.u64.wrap ((IntKind.u64.wrap ((IntKind.u64.wrap (((1 : Int).fdiv (2 ^ 32)) * (n.fdiv (2 ^ 32)))) + ((IntKind.u64.wrap ((IntKind.u64.wrap (((1 : Int).fdiv (2 ^ 32)) * (andI .u64 n 4294967295))) + ((IntKind.u64.wrap ((andI .u64 1 4294967295) * (andI .u64 n 4294967295))).fdiv (2 ^ 32)))).fdiv (2 ^ 32)))) + ((IntKind.u64.wrap ((andI .u64 (IntKind.u64.wrap ((IntKind.u64.wrap (((1 : Int).fdiv (2 ^ 32)) * (andI .u64 n 4294967295))) + ((IntKind.u64.wrap ((andI .u64 1 4294967295) * (andI .u64 n 4294967295))).fdiv (2 ^ 32)))) 4294967295) + (IntKind.u64.wrap ((andI .u64 1 4294967295) * (n.fdiv (2 ^ 32)))))).fdiv (2 ^ 32))))))) 5 (.v (.int .u64 (IntKind.u64.wrap (1 * n))))), noOb⟩ (imp_le ⟨(lee_upd 5 _ rfl (lee_upd 4 _ rfl (lee_none _))), fun _ => .inl rfl⟩) ?_
  refine awp_ret ?_
  exact fret (av := .tup [.v (.int .u64 (IntKind.u64.wrap ((IntKind.u64.wrap ((IntKind.u64.wrap (((1 : Int).fdiv (2 ^ 32)) * (n.fdiv (2 ^ 32)))) + ((IntKind.u64.wrap ((IntKind.u64.wrap (((1 : Int).fdiv (2 ^ 32)) * (andI .u64 n 4294967295))) + ((IntKind.u64.wrap ((andI .u64 1 4294967295) * (andI .u64 n 4294967295))).fdiv (2 ^ 32)))).fdiv (2 ^ 32)))) + ((IntKind.u64.wrap ((andI .u64 (IntKind.u64.wrap ((IntKind.u64.wrap (((1 : Int).fdiv (2 ^ 32)) * (andI .u64 n 4294967295))) + ((IntKind.u64.wrap ((andI .u64 1 4294967295) * (andI .u64 n 4294967295))).fdiv (2 ^ 32)))) 4294967295) + (IntKind.u64.wrap ((andI .u64 1 4294967295) * (n.fdiv (2 ^ 32)))))).fdiv (2 ^ 32))))), .v (.int .u64 (IntKind.u64.wrap (1 * n)))]) rfl rfl (by rcases hc9 with rfl | rfl | rfl | rfl | rfl | rfl | rfl | rfl | rfl <;> rfl)

set_option maxRecDepth 10000 in
set_option maxHeartbeats 16000000 in
theorem b_Mul (n : Int) (hn : 0 ≤ n ∧ n ≤ 8) : Fn Tryd.prog 42 [.v (.int .u64 1), .v (.int .u64 n)] (.tup [.v (.int .u64 0), .v (.int .u64 n)]) := by
  refine fnE_of_body (N := 30) Tryd.func42 rfl rfl (resOf2 rfl) (by simp) (fun w0 X hL_ => ?_)
  refine seqR ?_
  refine opG rfl (aop_move (av := .v (.int .u64 0)) (.inr rfl) rfl rfl rfl ?_)
  refine opG rfl (aop_move (av := .v (.int .u64 0)) (.inr rfl) rfl rfl rfl ?_)
  refine op0 ?_
  show AWP _ _ _ _ _
  refine awp_seq ?_
  refine awp_cond false rfl rfl (fun h => by cases h) (fun _ => ?_)
  refine awp_skip ?_
  show AWP _ _ _ _ _
  refine seqR ?_
  refine opG rfl (aop_move (av := .v (.int .u64 1)) (.inl rfl) rfl rfl rfl ?_)
  refine opG rfl (aop_move (av := .v (.int .u64 n)) (.inl rfl) rfl rfl rfl ?_)
  refine opG rfl (call_ (b_Mul64 n (by first | omega | (simp; done) | decide | (simp; omega) | (simp at *; omega))) rfl rfl rfl rfl rfl bd51 rfl ?_)
  refine opG rfl (aop_move (av := .tup [.v (.int .u64 0), .v (.int .u64 n)]) (.inl rfl) rfl rfl rfl ?_)
  refine opG rfl (aop_extract rfl rfl rfl rfl rfl ?_)
  refine opG rfl (aop_extract rfl rfl rfl rfl rfl ?_)
  refine opG rfl (aop_move (av := .v (.int .u64 0)) (.inr rfl) rfl rfl rfl ?_)
  refine opG rfl (aop_move (av := .v (.int .u64 n)) (.inr rfl) rfl rfl rfl ?_)
  refine op0 ?_
  show AWP _ _ _ _ _
  refine awp_imp ⟨(upd (upd (upd (upd none_ 4 (.v (.int .u64 0))) 5 (.v (.int .u64 0))) 8 (.v (.int .u64 0))) 9 (.v (.int .u64 n))), noOb⟩ (imp_le ⟨(lee_upd 9 _ rfl (lee_upd 8 _ rfl (lee_upd 5 _ rfl (lee_upd 4 _ rfl (lee_none _))))), fun _ => .inl rfl⟩) ?_
  refine seqR ?_
  refine opG rfl (aop_move (av := .v (.int .u64 0)) (.inl rfl) rfl rfl rfl ?_)
  refine opG rfl (aop_move (av := .v (.int .u64 n)) (.inl rfl) rfl rfl rfl ?_)
  refine opG rfl (aop_move (av := .v (.int .u64 0)) (.inr rfl) rfl rfl rfl ?_)
  refine opG rfl (aop_move (av := .v (.int .u64 n)) (.inr rfl) rfl rfl rfl ?_)
  refine op0 ?_
  show AWP _ _ _ _ _
  refine awp_imp ⟨(upd (upd none_ 4 (.v (.int .u64 0))) 5 (.v (.int .u64 n))), noOb⟩ (imp_le ⟨(lee_upd 5 _ rfl (lee_upd 4 _ rfl (lee_none _))), fun _ => .inl rfl⟩) ?_
  refine awp_ret ?_
  exact fret (av := .tup [.v (.int .u64 0), .v (.int .u64 n)]) rfl rfl rfl

set_option maxRecDepth 10000 in
set_option maxHeartbeats 16000000 in
theorem sl_Repeat (n : Nat) (hn : 1 ≤ n ∧ n ≤ 8) : Fn Tryd.prog 34 [.ro 1 [.v (.int .i64 (-1))], .v (.int .i64 (n : Int))] (.ro ((List.replicate n (-1 : Int)).length) (enc eI (List.replicate n (-1)))) := by
  refine fnE_of_body (N := 48) Tryd.func34 rfl rfl (resOf1 rfl) (by simp) (fun w0 X hL_ => ?_)
  refine seqR ?_
  refine opG rfl (aop_move (av := .v (.slice none 0 0)) (.inr rfl) rfl rfl rfl ?_)
  refine op0 ?_
  show AWP _ _ _ _ _
  refine awp_seq ?_
  refine seqR ?_
  refine opG rfl (aop_move (av := .v (.int .i64 (n : Int))) (.inl rfl) rfl rfl rfl ?_)
  refine opG rfl (aop_binI (u := (.bool (decide ((n : Int) < 0)))) rfl rfl rfl rfl rfl trivial rfl ?_)
  refine op0 ?_
  show AWP _ _ _ _ _
  refine awp_cond (decide ((n : Int) < 0)) rfl rfl (fun hc0 => ?_) (fun hc0 => ?_)
  · skip
    have hf1 := of_decide_eq_true hc0
    exfalso; simp at hc0; omega
  · skip
    have hf2 := of_decide_eq_false hc0
    refine awp_skip ?_
    show AWP _ _ _ _ _
    refine seqR ?_
    refine opG rfl (aop_move (av := .ro 1 [.v (.int .i64 (-1))]) (.inl rfl) rfl rfl rfl ?_)
    refine opG rfl (aop_len rfl rfl rfl rfl ut47 (len_ro rfl) ?_)
    refine opG rfl (aop_conv' rfl rfl rfl ut3 ut101 rfl rfl ?_)
    refine opG rfl (aop_move (av := .v (.int .i64 (n : Int))) (.inl rfl) rfl rfl rfl ?_)
    refine opG rfl (aop_conv' rfl rfl rfl ut3 ut101 rfl (u64_in (by omega)) ?_)
    refine opG rfl (call_ (b_Mul (n : Int) (by first | omega | (simp; done) | decide | (simp; omega) | (simp at *; omega))) rfl rfl rfl rfl rfl bd42 rfl ?_)
    refine opG rfl (aop_move (av := .tup [.v (.int .u64 0), .v (.int .u64 (n : Int))]) (.inl rfl) rfl rfl rfl ?_)
    refine opG rfl (aop_extract rfl rfl rfl rfl rfl ?_)
    refine opG rfl (aop_extract rfl rfl rfl rfl rfl ?_)
    refine opG rfl (aop_move (av := .v (.int .u64 0)) (.inr rfl) rfl rfl rfl ?_)
    refine opG rfl (aop_move (av := .v (.int .u64 (n : Int))) (.inr rfl) rfl rfl rfl ?_)
    refine op0 ?_
    show AWP _ _ _ _ _
    refine awp_imp ⟨(upd (upd (upd (upd none_ 0 (.ro 1 [.v (.int .i64 (-1))])) 4 (.v (.slice none 0 0))) 5 (.v (.int .u64 0))) 6 (.v (.int .u64 (n : Int)))), noOb⟩ (imp_le ⟨(lee_upd 6 _ rfl (lee_upd 5 _ rfl (lee_upd 4 _ rfl (lee_upd 0 _ rfl (lee_none _))))), fun _ => .inl rfl⟩) ?_
    refine awp_seq ?_
    refine seqR ?_
    refine opG rfl (aop_move (av := .v (.int .u64 0)) (.inl rfl) rfl rfl rfl ?_)
    refine opG rfl (aop_binI (u := (.bool (decide ((0 : Int) > 0)))) rfl rfl rfl rfl rfl trivial rfl ?_)
    refine opG rfl (aop_move (av := .v (.bool (decide ((0 : Int) > 0)))) (.inl rfl) rfl rfl rfl ?_)
    refine aops_grp 3 26 (.v (.bool ((decide ((0 : Int) > 0)) || (decide ((n : Int) > 9223372036854775807))))) ?_ ?_
    · rcases Bool.eq_false_or_eq_true (decide ((0 : Int) > 0)) with hg3 | hg3
      · skip
        have hf4 := of_decide_eq_true hg3
        refine opN rfl rfl rfl rfl (by show yv (.bool (decide ((0 : Int) > 0))) ≠ _; rw [hg3]; intro h; cases h) rfl rfl ?_
        refine opN rfl rfl rfl rfl (by show yv (.bool (decide ((0 : Int) > 0))) ≠ _; rw [hg3]; intro h; cases h) rfl rfl ?_
        refine opG rfl (aop_pick (b := (decide ((0 : Int) > 0))) rfl rfl rfl rfl (by rw [hg3] <;> rfl) ?_)
        refine op0 ?_
        exact imp_env (lee_both 26 _ _ (by rw [hg3] <;> rfl) (lee_out 25 _ rfl (lee_out 24 _ rfl (lee_same _))))
      · skip
        have hf5 := of_decide_eq_false hg3
        refine opY rfl rfl rfl (by show AV.v (.bool (decide ((0 : Int) > 0))) = _; rw [hg3]) (aop_move (av := .v (.int .u64 (n : Int))) (.inl rfl) rfl rfl rfl ?_)
        refine opY rfl rfl rfl (by show AV.v (.bool (decide ((0 : Int) > 0))) = _; rw [hg3]) (aop_binI (u := (.bool (decide ((n : Int) > 9223372036854775807)))) rfl rfl rfl rfl rfl trivial rfl ?_)
        refine opG rfl (aop_pick (b := (decide ((0 : Int) > 0))) rfl rfl rfl rfl (by rw [hg3] <;> rfl) ?_)
        refine op0 ?_
        exact imp_env (lee_both 26 _ _ (by rw [hg3] <;> rfl) (lee_out 25 _ rfl (lee_out 24 _ rfl (lee_same _))))
    refine op0 ?_
    show AWP _ _ _ _ _
    refine awp_cond ((decide ((0 : Int) > 0)) || (decide ((n : Int) > 9223372036854775807))) rfl rfl (fun hc1 => ?_) (fun hc1 => ?_)
    · skip
      exfalso; simp at hc1; omega
    · skip
      obtain ⟨hf6a, hf6b⟩ := or_f hc1
      have hf7 := of_decide_eq_false hf6a
      have hf8 := of_decide_eq_false hf6b
      refine awp_skip ?_
      show AWP _ _ _ _ _
      refine seqR ?_
      refine opG rfl (aop_move (av := .v (.int .u64 (n : Int))) (.inl rfl) rfl rfl rfl ?_)
      refine opG rfl (aop_conv' rfl rfl rfl ut101 ut3 rfl (IntWalk.i64_in _ (by omega)) ?_)
      refine opG rfl (aop_makeE (n := n) (f := eI) 51 (0 : Int) rfl rfl rfl ut47 in3 rfl rfl rfl rfl (by omega) (by omega) rfl rfl ?_)
      refine opG rfl (aop_move (av := .sl 51 0 ((List.replicate n (0 : Int)).length)) (.inr rfl) rfl rfl rfl ?_)
      refine op0 ?_
      show AWP _ _ _ _ _
      refine awp_imp ⟨(upd (upd (upd none_ 0 (.ro 1 [.v (.int .i64 (-1))])) 4 (.v (.slice none 0 0))) 7 (.sl 51 0 ((List.replicate n (0 : Int)).length))), (updO noOb 51 (.live ⟨(enc eI (List.replicate n (0 : Int))), 3, 1⟩))⟩ (imp_le ⟨(lee_upd 7 _ rfl (lee_upd 4 _ rfl (lee_upd 0 _ rfl (lee_none _)))), fun _ => .inl rfl⟩) ?_
      refine seqR ?_
      refine opG rfl (aop_move (av := .sl 51 0 ((List.replicate n (0 : Int)).length)) (.inl rfl) rfl rfl rfl ?_)
      refine opG rfl (aop_move (av := .ro 1 [.v (.int .i64 (-1))]) (.inl rfl) rfl rfl rfl ?_)
      refine opG rfl (aop_copy (k := 1) (cs := [.v (.int .i64 (-1))]) (cells' := enc eI (repK n 1)) rfl rfl rfl rfl ut47 sz3 rfl rfl (src_ro (1) rfl rfl rfl (by decide)) (by show min 1 _ = 1; simp; omega) rfl (by simp; omega) (by rw [enc_length (s := 1) (fun _ => rfl)]; simp; omega) (by rw [← repK_zero]; exact repK_spl (j := 0) (i := 1) (by omega)) ?_)
      refine opG rfl (aop_move (av := .v (.int .i64 ((1 : Nat) : Int))) (.inr rfl) rfl rfl rfl ?_)
      refine op0 ?_
      show AWP _ _ _ _ _
      refine awp_imp ⟨(upd (upd (upd none_ 4 (.v (.slice none 0 0))) 7 (.sl 51 0 ((List.replicate n (0 : Int)).length))) 8 (.v (.int .i64 ((1 : Nat) : Int)))), (updO (updO noOb 51 (.live ⟨(enc eI (List.replicate n (0 : Int))), 3, 1⟩)) 51 (.live ⟨(enc eI (repK n 1)), 3, 1⟩))⟩ (imp_le ⟨(lee_upd 8 _ rfl (lee_upd 7 _ rfl (lee_upd 4 _ rfl (lee_none _)))), fun _ => .inl rfl⟩) ?_
      refine awp_seq ?_
      refine awp_block ?_
      refine awp_countI (fun k => ⟨(upd (upd (upd none_ 4 (.v (.slice none 0 0))) 7 (.sl 1 0 n)) 8 (.v (.int .i64 ((pw n k : Nat) : Int)))), (updO noOb 1 (.live ⟨(enc eI (repK n (pw n k))), 3, 1⟩))⟩) (fun k => True) (8) ?_ trivial (fun k hk_k hinv => ?_)
      · skip
        have hp0 := pw_facts n 0 hn.1
        have hpz : pw n 0 = 1 := by simp [pw]; omega
        exact imp_ler [(51, 1)] (ler1 51 1 _ _ rfl (by exact congrArg (fun l_ => LObj.mk (enc eI l_) 3 1) (by rw [hpz])) (NoIL.out (l := (enc eI (repK n 1)))) (sr_same 8 (.v (.int .i64 ((pw n 0 : Nat) : Int))) (by exact congrArg (fun n_ : Int => AV.v (.int .i64 n_)) (by rw [hpz])) NoI.out (sr_map 7 (.sl 1 0 n) (by first | exact Ok.sl _ _ _ (by first | decide | simp) | exact Ok.pt _ _ (by first | decide | simp)) (by exact congrArg (AV.sl 1 0) (by simp)) (sr_same 4 (.v (.slice none 0 0)) rfl NoI.out sr_none)))) (keep_of rfl)
      have hpf := pw_facts n k hn.1
      refine awp_seq ?_
      refine seqR ?_
      refine opG rfl (aop_move (av := .v (.int .i64 ((pw n k : Nat) : Int))) (.inl rfl) rfl rfl rfl ?_)
      refine opG rfl (aop_move (av := .sl 1 0 n) (.inl rfl) rfl rfl rfl ?_)
      refine opG rfl (aop_len rfl rfl rfl rfl ut47 (len_sl rfl) ?_)
      refine opG rfl (aop_binI (u := (.bool (decide (((pw n k : Nat) : Int) < (n : Int))))) rfl rfl rfl rfl rfl trivial rfl ?_)
      refine op0 ?_
      show AWP _ _ _ _ _
      refine awp_imp ⟨(upd (upd (upd (upd none_ 4 (.v (.slice none 0 0))) 7 (.sl 1 0 n)) 8 (.v (.int .i64 ((pw n k : Nat) : Int)))) 37 (.v (.bool (decide (((pw n k : Nat) : Int) < (n : Int)))))), (updO noOb 1 (.live ⟨(enc eI (repK n (pw n k))), 3, 1⟩))⟩ (imp_le ⟨(lee_upd 37 _ rfl (lee_upd 8 _ rfl (lee_upd 7 _ rfl (lee_upd 4 _ rfl (lee_none _))))), fun _ => .inl rfl⟩) ?_
      refine awp_cond (decide (((pw n k : Nat) : Int) < (n : Int))) rfl rfl (fun hc2 => ?_) (fun hc2 => ?_)
      · skip
        have hf9 := of_decide_eq_true hc2
        refine awp_skip ?_
        show AWP _ _ _ _ _
        refine awp_block ?_
        refine awp_drawX (updO (updO noOb 1 (.live ⟨(enc eI (repK n (pw n k))), 3, 1⟩)) 1 (.live ⟨(enc eI (repK n (pw n (k + 1)))), 3, 1⟩)) (x := 7) (m := 8) (by decide) [(45, .v (.int .i64 ((min (pw n k) (n - pw n k) : Nat) : Int))), (44, .sl 1 0 (pw n k)), (43, .v (.int .i64 ((pw n k : Nat) : Int))), (42, .sl 1 0 n), (41, .sl 1 (0 + (pw n k) * 1) (n - (pw n k))), (40, .v (.int .i64 ((pw n k : Nat) : Int))), (39, .sl 1 0 n), (38, .v (.int .i64 ((pw n k : Nat) : Int)))] mixed (by kernel_rfl) ?_ ?_
        · refine ⟨?_, ?_, ?_, ?_, ?_, ?_, ?_, ?_, trivial⟩
          · exact sx_both (by decide) (⟨38, rfl, blt_lt rfl, fun st hob hE => aop_move (av := .v (.int .i64 ((pw n k : Nat) : Int))) (.inl rfl) rfl rfl (hE 8 rfl) (by rw [hob]; rfl)⟩) (⟨38, rfl, blt_lt rfl, fun st hob hE => aop_move (av := .v (.int .i64 ((pw n k : Nat) : Int))) (.inl rfl) rfl rfl (hE 8 rfl) (by rw [hob]; rfl)⟩)
          · exact sx_both (by decide) (⟨39, rfl, blt_lt rfl, fun st hob hE => aop_move (av := .sl 1 0 n) (.inl rfl) rfl rfl (hE 7 rfl) (by rw [hob]; rfl)⟩) (⟨39, rfl, blt_lt rfl, fun st hob hE => aop_move (av := .sl 1 0 n) (.inl rfl) rfl rfl (hE 7 rfl) (by rw [hob]; rfl)⟩)
          · exact sx_both (by decide) (⟨40, rfl, blt_lt rfl, fun st hob hE => aop_move (av := .v (.int .i64 ((pw n k : Nat) : Int))) (.inl rfl) rfl rfl (hE 8 rfl) (by rw [hob]; rfl)⟩) (⟨40, rfl, blt_lt rfl, fun st hob hE => aop_move (av := .v (.int .i64 ((pw n k : Nat) : Int))) (.inl rfl) rfl rfl (hE 8 rfl) (by rw [hob]; rfl)⟩)
          · exact sx_both (by decide) (⟨41, rfl, blt_lt rfl, fun st hob hE => aop_sliceFrom (l := pw n k)  rfl rfl rfl ut47 sz3 (hE 39 rfl) (by rw [hob]; rfl) (by rfl) ⟨_, (hE 40 rfl)⟩ (by first | omega | (simp; done) | decide | (simp; omega) | (simp at *; omega)) (by rw [hob]; rfl)⟩) (⟨41, rfl, blt_lt rfl, fun st hob hE => aop_sliceFrom (l := pw n k)  rfl rfl rfl ut47 sz3 (hE 39 rfl) (by rw [hob]; rfl) (by rfl) ⟨_, (hE 40 rfl)⟩ (by first | omega | (simp; done) | decide | (simp; omega) | (simp at *; omega)) (by rw [hob]; rfl)⟩)
          · exact sx_both (by decide) (⟨42, rfl, blt_lt rfl, fun st hob hE => aop_move (av := .sl 1 0 n) (.inl rfl) rfl rfl (hE 7 rfl) (by rw [hob]; rfl)⟩) (⟨42, rfl, blt_lt rfl, fun st hob hE => aop_move (av := .sl 1 0 n) (.inl rfl) rfl rfl (hE 7 rfl) (by rw [hob]; rfl)⟩)
          · exact sx_both (by decide) (⟨43, rfl, blt_lt rfl, fun st hob hE => aop_move (av := .v (.int .i64 ((pw n k : Nat) : Int))) (.inl rfl) rfl rfl (hE 8 rfl) (by rw [hob]; rfl)⟩) (⟨43, rfl, blt_lt rfl, fun st hob hE => aop_move (av := .v (.int .i64 ((pw n k : Nat) : Int))) (.inl rfl) rfl rfl (hE 8 rfl) (by rw [hob]; rfl)⟩)
          · exact sx_both (by decide) (⟨44, rfl, blt_lt rfl, fun st hob hE => aop_sliceOwn (hgh := pw n k) rfl rfl rfl ut47 sz3 (hE 42 rfl) ⟨_, (hE 43 rfl)⟩ (by first | omega | (simp; done) | decide | (simp; omega) | (simp at *; omega)) (by rw [hob]; rfl)⟩) (⟨44, rfl, blt_lt rfl, fun st hob hE => aop_sliceOwn (hgh := pw n k) rfl rfl rfl ut47 sz3 (hE 42 rfl) ⟨_, (hE 43 rfl)⟩ (by first | omega | (simp; done) | decide | (simp; omega) | (simp at *; omega)) (by rw [hob]; rfl)⟩)
          · exact sx_fx (by decide) ⟨rfl, 45, rfl, blt_lt rfl, fun st hob hE => by obtain ⟨en_, ob_⟩ := st; have hob_ : ob_ = _ := hob; subst hob_; exact aop_copy (k := min (pw n k) (n - pw n k)) (cs := (enc eI (List.replicate (min (pw n k) (n - pw n k)) (-1)))) (cells' := enc eI (repK n (pw n (k + 1)))) rfl rfl rfl rfl ut47 sz3 (hE 41 rfl) rfl (src_sl (min (pw n k) (n - pw n k) * 1) rfl (hE 44 rfl) rfl (repK_take (by omega)) (by first | omega | (simp; done) | decide | (simp; omega) | (simp at *; omega))) rfl (by rw [enc_length (s := 1) (fun _ => rfl), List.length_replicate]) (by first | omega | (simp; done) | decide | (simp; omega) | (simp at *; omega)) (by rw [enc_length (f := eI) (s := 1) (fun _ => rfl), repK_len (by omega)]; omega) (by rw [Nat.zero_add]; exact repK_spl (by omega)) rfl⟩
        refine opG rfl (aop_binI (u := (.int .i64 (((pw n k : Nat) : Int) + ((min (pw n k) (n - pw n k) : Nat) : Int)))) rfl rfl rfl rfl rfl trivial (addI (by omega)) ?_)
        refine opG rfl (aop_move (av := .v (.int .i64 (((pw n k : Nat) : Int) + ((min (pw n k) (n - pw n k) : Nat) : Int)))) (.inr rfl) rfl rfl rfl ?_)
        refine op0 ?_
        show _ ∧ _
        refine ⟨by omega, trivial, ?_⟩
        exact imp_ler [(1, 1)] (ler1 1 1 _ _ rfl (by exact congrArg (fun l_ => LObj.mk (enc eI l_) 3 1) rfl) (NoIL.out (l := (enc eI (repK n (pw n (k + 1)))))) (sr_same 8 (.v (.int .i64 ((pw n (k + 1) : Nat) : Int))) (by exact congrArg (fun n_ : Int => AV.v (.int .i64 n_)) (by show (pw n k : Int) + _ = ((pw n k + _ : Nat) : Int); omega)) NoI.out (sr_map 7 (.sl 1 0 n) (by first | exact Ok.sl _ _ _ (by first | decide | simp) | exact Ok.pt _ _ (by first | decide | simp)) rfl (sr_same 4 (.v (.slice none 0 0)) rfl NoI.out sr_none)))) (keep_of rfl)
      · skip
        have hf10 := of_decide_eq_false hc2
        refine awp_exit ?_
        show AWP _ _ _ _ _
        refine seqR ?_
        refine opG rfl (aop_move (av := .sl 1 0 n) (.inl rfl) rfl rfl rfl ?_)
        refine opG rfl (aop_move (av := .sl 1 0 n) (.inr rfl) rfl rfl rfl ?_)
        refine op0 ?_
        show AWP _ _ _ _ _
        refine awp_imp _ (imp_frozen rfl (fun _ h => h) (lee_lend 4 (.ro n (enc eI (repK n (pw n k)))) (lend_s (id := 1) (n := n) (o := ⟨(enc eI (repK n (pw n k))), 3, 1⟩) rfl (enc_len (fun _ => rfl) (repK_len (by omega)).symm)) lee_lend0)) ?_
        refine awp_ret ?_
        exact fret (av := .ro n (enc eI (repK n (pw n k)))) rfl rfl (by rw [show pw n k = n by omega, repK_all, List.length_replicate])

set_option maxRecDepth 10000 in
set_option maxHeartbeats 16000000 in
theorem o_Start (n : Nat) (hn : 1 ≤ n ∧ n ≤ 8) : Fn Tryd.prog 24 [.v (.int .i64 (n : Int))] (.ro ((List.replicate n (-1 : Int)).length) (enc eI (List.replicate n (-1)))) := by
  refine fnE_of_body (N := 7) Tryd.func24 rfl rfl (resOf1 rfl) (by simp) (fun w0 X hL_ => ?_)
  refine seqR ?_
  refine opG rfl (aop_move (av := .v (.slice none 0 0)) (.inr rfl) rfl rfl rfl ?_)
  refine op0 ?_
  show AWP _ _ _ _ _
  refine seqR ?_
  refine opG rfl (aop_lit rfl rfl rfl ut47 iz3 (by decide) (by decide) rfl rfl ?_)
  refine opG rfl (aop_move (av := .v (.int .i64 (n : Int))) (.inl rfl) rfl rfl rfl ?_)
  refine opG rfl (aop_max (r := (n : Int)) rfl rfl rfl rfl rfl rfl (maxI (by split <;> omega)) ?_)
  refine opG rfl (call_ (sl_Repeat n (by first | omega | (simp; done) | decide | (simp; omega) | (simp at *; omega))) rfl rfl rfl rfl rfl bd34 rfl ?_)
  refine opG rfl (aop_move (av := .ro ((List.replicate n (-1 : Int)).length) (enc eI (List.replicate n (-1)))) (.inr rfl) rfl rfl rfl ?_)
  refine op0 ?_
  show AWP _ _ _ _ _
  refine awp_imp ⟨(upd none_ 2 (.ro ((List.replicate n (-1 : Int)).length) (enc eI (List.replicate n (-1))))), noOb⟩ (imp_le ⟨(lee_upd 2 _ rfl (lee_none _)), fun _ => .inl rfl⟩) ?_
  refine awp_ret ?_
  exact fret (av := .ro ((List.replicate n (-1 : Int)).length) (enc eI (List.replicate n (-1)))) rfl rfl rfl

set_option maxRecDepth 10000 in
set_option maxHeartbeats 16000000 in
theorem s_Of (secs : List Sec) (parts : List (List Int)) (owners : List Int) (views : List View) (hs : secs.length ≤ 65536) (hp : parts.length ≤ 65536) (hpl : ∀ x, x ∈ parts → x.length ≤ 65536) (ho : parts.length ≤ owners.length) (hn : views.length ≤ 65536) (hv : ∀ v, v ∈ views → v.span.length ≤ 65536) : Fn Tryd.prog 16 [.agg [.one, .ro secs.length (enc eSec secs), .ro parts.length (enc eIL parts), .one, .one, .one, .one, .one, .one, .one], .ro owners.length (enc eI owners), .ro views.length (enc eV views)] (.ro ((ofK parts owners views secs.length).length) (enc eU8 (ofK parts owners views secs.length))) := by
  refine fnE_of_body (N := 38) Tryd.func16 rfl rfl (resOf1 rfl) (by simp) (fun w0 X hL_ => ?_)
  refine seqR ?_
  refine opG rfl (aop_box 51 rfl rfl rfl rfl rfl rfl rfl ?_)
  refine opG rfl (aop_move (av := .v (.slice none 0 0)) (.inr rfl) rfl rfl rfl ?_)
  refine op0 ?_
  show AWP _ _ _ _ _
  refine seqR ?_
  refine opG rfl (aop_ldB (cells' := [.one, .ro secs.length (enc eSec secs), .ro parts.length (enc eIL parts), .one, .one, .one, .one, .one, .one, .one]) rfl rfl rfl ag39 sz39 rfl rfl rfl rfl ?_)
  refine opG rfl (callW_ (g_New parts) rfl rfl rfl rfl rfl bd31 (lends_cons (lend_agg (lends_cons (lend_n (av := .one)) (lends_cons (.one _ rfl) (lends_cons (lend_n (av := .ro parts.length (enc eIL parts))) (lends_cons (lend_n (av := .one)) (lends_cons (lend_n (av := .one)) (lends_cons (lend_n (av := .one)) (lends_cons (lend_n (av := .one)) (lends_cons (lend_n (av := .one)) (lends_cons (lend_n (av := .one)) (lends_cons (lend_n (av := .one)) lends_nil))))))))))) lends_nil) ?_)
  refine opG rfl (aop_move (av := .rp [.one, .one, .ro parts.length (enc eIL parts), .one, .one, .one, .one, .one, .one, .one]) (.inr rfl) rfl rfl rfl ?_)
  refine op0 ?_
  show AWP _ _ _ _ _
  refine awp_imp ⟨(upd (upd (upd (upd (upd none_ 1 (.ro owners.length (enc eI owners))) 2 (.ro views.length (enc eV views))) 3 (.pt 51 0)) 6 (.v (.slice none 0 0))) 7 (.rp [.one, .one, .ro parts.length (enc eIL parts), .one, .one, .one, .one, .one, .one, .one])), (updO noOb 51 (.live ⟨[.one, .ro secs.length (enc eSec secs), .ro parts.length (enc eIL parts), .one, .one, .one, .one, .one, .one, .one], 39, 1⟩))⟩ (imp_le ⟨(lee_upd 7 _ rfl (lee_upd 6 _ rfl (lee_upd 3 _ rfl (lee_upd 2 _ rfl (lee_upd 1 _ rfl (lee_none _)))))), fun _ => .inl rfl⟩) ?_
  refine seqR ?_
  refine opG rfl (aop_move (av := .v (.slice none 0 0)) (.inr rfl) rfl rfl rfl ?_)
  refine op0 ?_
  show AWP _ _ _ _ _
  refine awp_seq ?_
  refine seqR ?_
  refine opG rfl (aop_fieldAddr (av := .pt 51 0) (av' := .pt 51 1) rfl rfl rfl ft39_1 sz35 rfl rfl rfl ?_)
  refine opG rfl (aop_ld (av := .ro secs.length (enc eSec secs)) rfl rfl rfl ag35 rfl rfl ?_)
  refine opG rfl (aop_len rfl rfl rfl rfl ut35 (len_ro rfl) ?_)
  refine opG rfl (aop_move (av := .v (.int .i64 0)) (.inl rfl) rfl rfl rfl ?_)
  refine op0 ?_
  show AWP _ _ _ _ _
  refine awp_imp ⟨(upd (upd (upd (upd (upd (upd (upd none_ 1 (.ro owners.length (enc eI owners))) 2 (.ro views.length (enc eV views))) 6 (.v (.slice none 0 0))) 7 (.rp [.one, .one, .ro parts.length (enc eIL parts), .one, .one, .one, .one, .one, .one, .one])) 8 (.v (.slice none 0 0))) 16 (.v (.int .i64 (secs.length : Int)))) 17 (.v (.int .i64 0))), (updO noOb 51 (.live ⟨[.one, .ro secs.length (enc eSec secs), .ro parts.length (enc eIL parts), .one, .one, .one, .one, .one, .one, .one], 39, 1⟩))⟩ (imp_le ⟨(lee_upd 17 _ rfl (lee_upd 16 _ rfl (lee_upd 8 _ rfl (lee_upd 7 _ rfl (lee_upd 6 _ rfl (lee_upd 2 _ rfl (lee_upd 1 _ rfl (lee_none _)))))))), fun _ => .inl rfl⟩) ?_
  refine awp_block ?_
  refine awp_countI (fun k => ⟨(upd (upd (upd (upd (upd (upd (upd none_ 1 (.ro owners.length (enc eI owners))) 2 (.ro views.length (enc eV views))) 6 (.v (.slice none 0 0))) 7 (.rp [.one, .one, .ro parts.length (enc eIL parts), .one, .one, .one, .one, .one, .one, .one])) 8 (.sl 1 0 ((ofK parts owners views k).length))) 16 (.v (.int .i64 (secs.length : Int)))) 17 (.v (.int .i64 (k : Int)))), (updO noOb 1 (.live ⟨(enc eU8 (ofK parts owners views k)), 5, 1⟩))⟩) (fun k => True) (secs.length) ?_ trivial (fun k hk_k hinv => ?_)
  · skip
    refine (imp_adopt 8 52 5 1 rfl rfl).trans ?_
    exact imp_ler [(52, 1)] (ler1 52 1 _ _ rfl rfl (NoIL.out (l := [])) (sr_same 17 (.v (.int .i64 (0 : Int))) rfl NoI.out (sr_same 16 (.v (.int .i64 (secs.length : Int))) rfl NoI.out (sr_map 8 (.sl 1 0 ((ofK parts owners views 0).length)) (by first | exact Ok.sl _ _ _ (by first | decide | simp) | exact Ok.pt _ _ (by first | decide | simp)) rfl (sr_same 7 (.rp [.one, .one, .ro parts.length (enc eIL parts), .one, .one, .one, .one, .one, .one, .one]) rfl NoI.out (sr_same 6 (.v (.slice none 0 0)) rfl NoI.out (sr_same 2 (.ro views.length (enc eV views)) rfl NoI.out (sr_same 1 (.ro owners.length (enc eI owners)) rfl NoI.out sr_none)))))))) (keep_of rfl)
  have hpr := partI_range parts (k : Int)
  have hol := ofK_len parts owners views k
  refine seqR ?_
  refine opG rfl (aop_binI (u := (.bool (decide ((k : Int) < (secs.length : Int))))) rfl rfl rfl rfl rfl trivial rfl ?_)
  refine op0 ?_
  show AWP _ _ _ _ _
  refine awp_seq ?_
  refine awp_cond (decide ((k : Int) < (secs.length : Int))) rfl rfl (fun hc0 => ?_) (fun hc0 => ?_)
  · skip
    have hf1 := of_decide_eq_true hc0
    refine awp_skip ?_
    show AWP _ _ _ _ _
    refine awp_seq ?_
    refine awp_block ?_
    refine seqR ?_
    refine opG rfl (aop_move (av := .v (.int .i64 (k : Int))) (.inl rfl) rfl rfl rfl ?_)
    refine opG rfl (aop_move (av := .v (.int .i64 (k : Int))) (.inr rfl) rfl rfl rfl ?_)
    refine op0 ?_
    show AWP _ _ _ _ _
    refine seqR ?_
    refine opG rfl (aop_move (av := .v (.int .i64 (-1))) (.inr rfl) rfl rfl rfl ?_)
    refine op0 ?_
    show AWP _ _ _ _ _
    refine awp_imp ⟨(upd (upd (upd (upd (upd (upd (upd (upd (upd none_ 1 (.ro owners.length (enc eI owners))) 2 (.ro views.length (enc eV views))) 6 (.v (.slice none 0 0))) 7 (.rp [.one, .one, .ro parts.length (enc eIL parts), .one, .one, .one, .one, .one, .one, .one])) 8 (.sl 1 0 ((ofK parts owners views k).length))) 9 (.v (.int .i64 (k : Int)))) 10 (.v (.int .i64 (-1)))) 16 (.v (.int .i64 (secs.length : Int)))) 17 (.v (.int .i64 (k : Int)))), (updO noOb 1 (.live ⟨(enc eU8 (ofK parts owners views k)), 5, 1⟩))⟩ (imp_le ⟨(lee_upd 17 _ rfl (lee_upd 16 _ rfl (lee_upd 10 _ rfl (lee_upd 9 _ rfl (lee_upd 8 _ rfl (lee_upd 7 _ rfl (lee_upd 6 _ rfl (lee_upd 2 _ rfl (lee_upd 1 _ rfl (lee_none _)))))))))), fun _ => .inl rfl⟩) ?_
    refine awp_seq ?_
    refine seqR ?_
    refine opG rfl (aop_move (av := .rp [.one, .one, .ro parts.length (enc eIL parts), .one, .one, .one, .one, .one, .one, .one]) (.inl rfl) rfl rfl rfl ?_)
    refine opG rfl (aop_move (av := .v (.int .i64 (k : Int))) (.inl rfl) rfl rfl rfl ?_)
    refine opG rfl (call_ (g_Part parts (k : Int) hp hpl) rfl rfl rfl rfl rfl bd32 rfl ?_)
    refine opG rfl (aop_move (av := .v (.int .i64 (partI parts (k : Int)))) (.inr rfl) rfl rfl rfl ?_)
    refine op0 ?_
    show AWP _ _ _ _ _
    refine awp_imp ⟨(upd (upd (upd (upd (upd (upd (upd (upd (upd (upd none_ 1 (.ro owners.length (enc eI owners))) 2 (.ro views.length (enc eV views))) 6 (.v (.slice none 0 0))) 7 (.rp [.one, .one, .ro parts.length (enc eIL parts), .one, .one, .one, .one, .one, .one, .one])) 8 (.sl 1 0 ((ofK parts owners views k).length))) 9 (.v (.int .i64 (k : Int)))) 10 (.v (.int .i64 (-1)))) 11 (.v (.int .i64 (partI parts (k : Int))))) 16 (.v (.int .i64 (secs.length : Int)))) 17 (.v (.int .i64 (k : Int)))), (updO noOb 1 (.live ⟨(enc eU8 (ofK parts owners views k)), 5, 1⟩))⟩ (imp_le ⟨(lee_upd 17 _ rfl (lee_upd 16 _ rfl (lee_upd 11 _ rfl (lee_upd 10 _ rfl (lee_upd 9 _ rfl (lee_upd 8 _ rfl (lee_upd 7 _ rfl (lee_upd 6 _ rfl (lee_upd 2 _ rfl (lee_upd 1 _ rfl (lee_none _))))))))))), fun _ => .inl rfl⟩) ?_
    refine seqR ?_
    refine opG rfl (aop_move (av := .v (.int .i64 (partI parts (k : Int)))) (.inl rfl) rfl rfl rfl ?_)
    refine opG rfl (aop_binI (u := (.bool (decide ((partI parts (k : Int)) ≥ 0)))) rfl rfl rfl rfl rfl trivial rfl ?_)
    refine op0 ?_
    show AWP _ _ _ _ _
    refine cutG ⟨(upd (upd (upd (upd (upd (upd (upd (upd (upd (upd (upd (upd none_ 1 (.ro owners.length (enc eI owners))) 2 (.ro views.length (enc eV views))) 6 (.v (.slice none 0 0))) 7 (.rp [.one, .one, .ro parts.length (enc eIL parts), .one, .one, .one, .one, .one, .one, .one])) 8 (.sl 1 0 ((ofK parts owners views k).length))) 9 (.v (.int .i64 (k : Int)))) 10 (.v (.int .i64 (whoI parts owners (k : Int))))) 11 (.v (.int .i64 (partI parts (k : Int))))) 16 (.v (.int .i64 (secs.length : Int)))) 17 (.v (.int .i64 (k : Int)))) 23 (.v (.int .i64 (partI parts (k : Int))))) 24 (.v (.bool (decide ((partI parts (k : Int)) ≥ 0))))), (updO noOb 1 (.live ⟨(enc eU8 (ofK parts owners views k)), 5, 1⟩))⟩ (fun s h => h) ?_ ?_
    · skip
      refine awp_cond (decide ((partI parts (k : Int)) ≥ 0)) rfl rfl (fun hc1 => ?_) (fun hc1 => ?_)
      · skip
        have hf2 := of_decide_eq_true hc1
        have hpk : partI parts (k : Int) ≥ 0 := of_decide_eq_true hc1
        refine regR ?_
        refine opG rfl (aop_move (av := .ro owners.length (enc eI owners)) (.inl rfl) rfl rfl rfl ?_)
        refine opG rfl (aop_move (av := .v (.int .i64 (partI parts (k : Int)))) (.inl rfl) rfl rfl rfl ?_)
        refine opG rfl (aop_ixI 0 rfl rfl rfl ut47 sz3 rfl rfl (fun _ => rfl) rfl (by omega) (by first | omega | (simp; done) | decide | (simp; omega) | (simp at *; omega)) ?_)
        refine opG rfl (aop_ld (av := .v (.int .i64 (owners.getD (partI parts (k : Int)).toNat 0))) rfl rfl rfl ag3 rfl rfl ?_)
        refine opG rfl (aop_move (av := .v (.int .i64 (owners.getD (partI parts (k : Int)).toNat 0))) (.inr rfl) rfl rfl rfl ?_)
        refine op0 ?_
        show Imp _ _ _
        exact imp_ler [(1, 1)] (ler1 1 1 _ _ rfl rfl (NoIL.out (l := (enc eU8 (ofK parts owners views k)))) (sr_same 24 (.v (.bool (decide ((partI parts (k : Int)) ≥ 0)))) rfl NoI.out (sr_same 23 (.v (.int .i64 (partI parts (k : Int)))) rfl NoI.out (sr_same 17 (.v (.int .i64 (k : Int))) rfl NoI.out (sr_same 16 (.v (.int .i64 (secs.length : Int))) rfl NoI.out (sr_same 11 (.v (.int .i64 (partI parts (k : Int)))) rfl NoI.out (sr_same 10 (.v (.int .i64 (whoI parts owners (k : Int)))) (by exact congrArg (fun n_ : Int => AV.v (.int .i64 n_)) (by first | exact whoI_t hpk | exact whoI_f hpk)) NoI.out (sr_same 9 (.v (.int .i64 (k : Int))) rfl NoI.out (sr_map 8 (.sl 1 0 ((ofK parts owners views k).length)) (by first | exact Ok.sl _ _ _ (by first | decide | simp) | exact Ok.pt _ _ (by first | decide | simp)) rfl (sr_same 7 (.rp [.one, .one, .ro parts.length (enc eIL parts), .one, .one, .one, .one, .one, .one, .one]) rfl NoI.out (sr_same 6 (.v (.slice none 0 0)) rfl NoI.out (sr_same 2 (.ro views.length (enc eV views)) rfl NoI.out (sr_same 1 (.ro owners.length (enc eI owners)) rfl NoI.out sr_none))))))))))))) (keep_of rfl)
      · skip
        have hf3 := of_decide_eq_false hc1
        have hpk : ¬ partI parts (k : Int) ≥ 0 := of_decide_eq_false hc1
        refine awp_skip ?_
        show Imp _ _ _
        exact imp_ler [(1, 1)] (ler1 1 1 _ _ rfl rfl (NoIL.out (l := (enc eU8 (ofK parts owners views k)))) (sr_same 24 (.v (.bool (decide ((partI parts (k : Int)) ≥ 0)))) rfl NoI.out (sr_same 23 (.v (.int .i64 (partI parts (k : Int)))) rfl NoI.out (sr_same 17 (.v (.int .i64 (k : Int))) rfl NoI.out (sr_same 16 (.v (.int .i64 (secs.length : Int))) rfl NoI.out (sr_same 11 (.v (.int .i64 (partI parts (k : Int)))) rfl NoI.out (sr_same 10 (.v (.int .i64 (whoI parts owners (k : Int)))) (by exact congrArg (fun n_ : Int => AV.v (.int .i64 n_)) (by first | exact whoI_t hpk | exact whoI_f hpk)) NoI.out (sr_same 9 (.v (.int .i64 (k : Int))) rfl NoI.out (sr_map 8 (.sl 1 0 ((ofK parts owners views k).length)) (by first | exact Ok.sl _ _ _ (by first | decide | simp) | exact Ok.pt _ _ (by first | decide | simp)) rfl (sr_same 7 (.rp [.one, .one, .ro parts.length (enc eIL parts), .one, .one, .one, .one, .one, .one, .one]) rfl NoI.out (sr_same 6 (.v (.slice none 0 0)) rfl NoI.out (sr_same 2 (.ro views.length (enc eV views)) rfl NoI.out (sr_same 1 (.ro owners.length (enc eI owners)) rfl NoI.out sr_none))))))))))))) (keep_of rfl)
    show AWP _ _ _ _ _
    refine regR ?_
    refine opG rfl (aop_move (av := .sl 1 0 ((ofK parts owners views k).length)) (.inl rfl) rfl rfl rfl ?_)
    refine opG rfl (aop_move (av := .v (.int .i64 (k : Int))) (.inl rfl) rfl rfl rfl ?_)
    refine opG rfl (aop_move (av := .v (.int .i64 (whoI parts owners (k : Int)))) (.inl rfl) rfl rfl rfl ?_)
    refine opG rfl (aop_move (av := .ro views.length (enc eV views)) (.inl rfl) rfl rfl rfl ?_)
    refine opG rfl (call_ (s_one (k : Int) (whoI parts owners (k : Int)) views hn hv) rfl rfl rfl rfl rfl bd33 rfl ?_)
    refine opG rfl (aop_lit rfl rfl rfl ut26 iz5 (by decide) (by decide) rfl rfl ?_)
    refine opG rfl (aop_app1 (f := eU8) (l := ofK parts owners views k) 53 (oneS (k : Int) (whoI parts owners (k : Int)) views : Int) rfl rfl rfl rfl ut26 in5 rfl (by decide) rfl rfl rfl rfl rfl rfl (fun _ => rfl) rfl rfl (by first | omega | (simp; done) | decide | (simp; omega) | (simp at *; omega)) (by first | omega | (simp; done) | decide | (simp; omega) | (simp at *; omega)) rfl ?_)
    refine opG rfl (aop_move (av := .sl 53 0 (((ofK parts owners views k) ++ [(oneS (k : Int) (whoI parts owners (k : Int)) views : Int)]).length)) (.inr rfl) rfl rfl rfl ?_)
    refine op0 ?_
    show AWP _ _ _ _ _
    refine awp_imp ⟨(upd (upd (upd (upd (upd (upd (upd (upd (upd (upd none_ 1 (.ro owners.length (enc eI owners))) 2 (.ro views.length (enc eV views))) 6 (.v (.slice none 0 0))) 7 (.rp [.one, .one, .ro parts.length (enc eIL parts), .one, .one, .one, .one, .one, .one, .one])) 8 (.sl 53 0 (((ofK parts owners views k) ++ [(oneS (k : Int) (whoI parts owners (k : Int)) views : Int)]).length))) 9 (.v (.int .i64 (k : Int)))) 10 (.v (.int .i64 (whoI parts owners (k : Int))))) 11 (.v (.int .i64 (partI parts (k : Int))))) 16 (.v (.int .i64 (secs.length : Int)))) 17 (.v (.int .i64 (k : Int)))), (updO (updO (updO noOb 1 (.live ⟨(enc eU8 (ofK parts owners views k)), 5, 1⟩)) 1 .dead) 53 (.live ⟨(enc eU8 ((ofK parts owners views k) ++ [(oneS (k : Int) (whoI parts owners (k : Int)) views : Int)])), 5, 1⟩))⟩ (imp_le ⟨(lee_upd 17 _ rfl (lee_upd 16 _ rfl (lee_upd 11 _ rfl (lee_upd 10 _ rfl (lee_upd 9 _ rfl (lee_upd 8 _ rfl (lee_upd 7 _ rfl (lee_upd 6 _ rfl (lee_upd 2 _ rfl (lee_upd 1 _ rfl (lee_none _))))))))))), fun _ => .inl rfl⟩) ?_
    refine regR ?_
    refine opG rfl (aop_binI (u := (.int .i64 ((k + 1 : Nat) : Int))) rfl rfl rfl rfl rfl trivial (addN (by omega)) ?_)
    refine opG rfl (aop_move (av := .v (.int .i64 ((k + 1 : Nat) : Int))) (.inl rfl) rfl rfl rfl ?_)
    refine op0 ?_
    show _ ∧ _
    refine ⟨by omega, trivial, ?_⟩
    exact imp_ler [(53, 1)] (ler1 53 1 _ _ rfl (by exact congrArg (fun l_ => LObj.mk (enc eU8 l_) 5 1) rfl) (NoIL.out (l := (enc eU8 ((ofK parts owners views k) ++ [(oneS (k : Int) (whoI parts owners (k : Int)) views : Int)])))) (sr_same 17 (.v (.int .i64 ((k + 1) : Int))) rfl NoI.out (sr_same 16 (.v (.int .i64 (secs.length : Int))) rfl NoI.out (sr_map 8 (.sl 1 0 ((ofK parts owners views (k + 1)).length)) (by first | exact Ok.sl _ _ _ (by first | decide | simp) | exact Ok.pt _ _ (by first | decide | simp)) rfl (sr_same 7 (.rp [.one, .one, .ro parts.length (enc eIL parts), .one, .one, .one, .one, .one, .one, .one]) rfl NoI.out (sr_same 6 (.v (.slice none 0 0)) rfl NoI.out (sr_same 2 (.ro views.length (enc eV views)) rfl NoI.out (sr_same 1 (.ro owners.length (enc eI owners)) rfl NoI.out sr_none)))))))) (keep_of rfl)
  · skip
    have hf4 := of_decide_eq_false hc0
    refine awp_exit ?_
    show AWP _ _ _ _ _
    refine seqR ?_
    refine opG rfl (aop_move (av := .sl 1 0 ((ofK parts owners views k).length)) (.inl rfl) rfl rfl rfl ?_)
    refine opG rfl (aop_move (av := .sl 1 0 ((ofK parts owners views k).length)) (.inr rfl) rfl rfl rfl ?_)
    refine op0 ?_
    show AWP _ _ _ _ _
    refine awp_imp _ (imp_frozen rfl (fun _ h => h) (lee_lend 6 (.ro ((ofK parts owners views k).length) (enc eU8 (ofK parts owners views k))) (lend_s (id := 1) (n := (ofK parts owners views k).length) (o := ⟨(enc eU8 (ofK parts owners views k)), 5, 1⟩) rfl (enc_len (fun _ => rfl) (by first | rfl | (simp; done)))) lee_lend0)) ?_
    refine awp_ret ?_
    exact fret (av := .ro ((ofK parts owners views k).length) (enc eU8 (ofK parts owners views k))) rfl rfl (by rw [show k = secs.length by omega])

set_option maxRecDepth 10000 in
set_option maxHeartbeats 16000000 in
theorem s_Changes (was is : List Int) (hw : was.length ≤ 65536) (hi : is.length ≤ 65536) (hwb : ∀ x, x ∈ was → 0 ≤ x ∧ x ≤ 255) (hib : ∀ x, x ∈ is → 0 ≤ x ∧ x ≤ 255) : Fn Tryd.prog 27 [.ro was.length (enc eU8 was), .ro is.length (enc eU8 is)] (.ro ((chgL was is).length) (enc eCh (chgL was is))) := by
  refine fnE_of_body (N := 35) Tryd.func27 rfl rfl (resOf1 rfl) (by simp) (fun w0 X hL_ => ?_)
  refine seqR ?_
  refine opG rfl (aop_move (av := .v (.slice none 0 0)) (.inr rfl) rfl rfl rfl ?_)
  refine op0 ?_
  show AWP _ _ _ _ _
  refine seqR ?_
  refine opG rfl (aop_move (av := .v (.slice none 0 0)) (.inr rfl) rfl rfl rfl ?_)
  refine op0 ?_
  show AWP _ _ _ _ _
  refine awp_seq ?_
  refine seqR ?_
  refine opG rfl (aop_move (av := .ro was.length (enc eU8 was)) (.inl rfl) rfl rfl rfl ?_)
  refine opG rfl (aop_len rfl rfl rfl rfl ut26 (len_ro rfl) ?_)
  refine opG rfl (aop_move (av := .ro is.length (enc eU8 is)) (.inl rfl) rfl rfl rfl ?_)
  refine opG rfl (aop_len rfl rfl rfl rfl ut26 (len_ro rfl) ?_)
  refine opG rfl (aop_min (r := ((min was.length is.length : Nat) : Int)) rfl rfl rfl rfl rfl rfl (minI (by split <;> omega)) ?_)
  refine opG rfl (aop_move (av := .v (.int .i64 0)) (.inl rfl) rfl rfl rfl ?_)
  refine op0 ?_
  show AWP _ _ _ _ _
  refine awp_imp ⟨(upd (upd (upd (upd (upd (upd none_ 0 (.ro was.length (enc eU8 was))) 1 (.ro is.length (enc eU8 is))) 4 (.v (.slice none 0 0))) 5 (.v (.slice none 0 0))) 12 (.v (.int .i64 ((min was.length is.length : Nat) : Int)))) 13 (.v (.int .i64 0))), noOb⟩ (imp_le ⟨(lee_upd 13 _ rfl (lee_upd 12 _ rfl (lee_upd 5 _ rfl (lee_upd 4 _ rfl (lee_upd 1 _ rfl (lee_upd 0 _ rfl (lee_none _))))))), fun _ => .inl rfl⟩) ?_
  refine awp_block ?_
  refine awp_countI (fun k => ⟨(upd (upd (upd (upd (upd (upd none_ 0 (.ro was.length (enc eU8 was))) 1 (.ro is.length (enc eU8 is))) 4 (.v (.slice none 0 0))) 5 (.sl 1 0 ((chgK was is k).length))) 12 (.v (.int .i64 ((min was.length is.length : Nat) : Int)))) 13 (.v (.int .i64 (k : Int)))), (updO noOb 1 (.live ⟨(enc eCh (chgK was is k)), 68, 2⟩))⟩) (fun k => True) ((min was.length is.length)) ?_ trivial (fun k hk_k hinv => ?_)
  · skip
    refine (imp_adopt 5 51 68 2 rfl rfl).trans ?_
    exact imp_ler [(51, 1)] (ler1 51 1 _ _ rfl rfl (NoIL.out (l := [])) (sr_same 13 (.v (.int .i64 (0 : Int))) rfl NoI.out (sr_same 12 (.v (.int .i64 ((min was.length is.length : Nat) : Int))) rfl NoI.out (sr_map 5 (.sl 1 0 ((chgK was is 0).length)) (by first | exact Ok.sl _ _ _ (by first | decide | simp) | exact Ok.pt _ _ (by first | decide | simp)) rfl (sr_same 4 (.v (.slice none 0 0)) rfl NoI.out (sr_same 1 (.ro is.length (enc eU8 is)) rfl NoI.out (sr_same 0 (.ro was.length (enc eU8 was)) rfl NoI.out sr_none))))))) (keep_of rfl)
  have hcl := chgK_len was is k
  refine seqR ?_
  refine opG rfl (aop_binI (u := (.bool (decide ((k : Int) < ((min was.length is.length : Nat) : Int))))) rfl rfl rfl rfl rfl trivial rfl ?_)
  refine op0 ?_
  show AWP _ _ _ _ _
  refine awp_seq ?_
  refine awp_cond (decide ((k : Int) < ((min was.length is.length : Nat) : Int))) rfl rfl (fun hc0 => ?_) (fun hc0 => ?_)
  · skip
    have hf1 := of_decide_eq_true hc0
    have hkw : k < was.length := by omega
    have hki : k < is.length := by omega
    have hwk := hwb _ (getD_mem (l := was) (k := k) 0 (by omega))
    have hik := hib _ (getD_mem (l := is) (k := k) 0 (by omega))
    refine awp_skip ?_
    show AWP _ _ _ _ _
    refine awp_seq ?_
    refine awp_block ?_
    refine seqR ?_
    refine opG rfl (aop_move (av := .v (.int .i64 (k : Int))) (.inl rfl) rfl rfl rfl ?_)
    refine opG rfl (aop_move (av := .v (.int .i64 (k : Int))) (.inr rfl) rfl rfl rfl ?_)
    refine op0 ?_
    show AWP _ _ _ _ _
    refine awp_seq ?_
    refine awp_draw (m := 9) [(24, .v (.int .u8 (kindI (was.getD k 0) (is.getD k 0)))), (23, .v (.int .u8 (is.getD k 0))), (22, .rp (([.v (.int .u8 (is.getD k 0))] : List AV) ++ ((enc eU8 is).drop ((k + 1) * 1)))), (21, .v (.int .i64 (k : Int))), (20, .ro is.length (enc eU8 is)), (19, .v (.int .u8 (was.getD k 0))), (18, .rp (([.v (.int .u8 (was.getD k 0))] : List AV) ++ ((enc eU8 was).drop ((k + 1) * 1)))), (17, .v (.int .i64 (k : Int))), (16, .ro was.length (enc eU8 was))] mixed (by kernel_rfl) ?_ ?_
    · refine ⟨?_, ?_, ?_, ?_, ?_, ?_, ?_, ?_, ?_, trivial⟩
      · exact ⟨16, rfl, blt_lt rfl, fun st hob hE => aop_move (av := .ro was.length (enc eU8 was)) (.inl rfl) rfl rfl (hE 0 rfl) (by rw [hob]; rfl)⟩
      · exact ⟨17, rfl, blt_lt rfl, fun st hob hE => aop_move (av := .v (.int .i64 (k : Int))) (.inl rfl) rfl rfl (hE 6 rfl) (by rw [hob]; rfl)⟩
      · exact ⟨18, rfl, blt_lt rfl, fun st hob hE => aop_ixE 0 rfl rfl rfl ut26 sz5 (hE 16 rfl) (hE 17 rfl) (fun _ => rfl) rfl (by first | omega | (simp; done) | decide | (simp; omega) | (simp at *; omega)) (by rw [hob]; rfl)⟩
      · exact ⟨19, rfl, blt_lt rfl, fun st hob hE => aop_ld (av := .v (.int .u8 (was.getD k 0))) rfl rfl rfl ag5 (hE 18 rfl) rfl (by rw [hob]; rfl)⟩
      · exact ⟨20, rfl, blt_lt rfl, fun st hob hE => aop_move (av := .ro is.length (enc eU8 is)) (.inl rfl) rfl rfl (hE 1 rfl) (by rw [hob]; rfl)⟩
      · exact ⟨21, rfl, blt_lt rfl, fun st hob hE => aop_move (av := .v (.int .i64 (k : Int))) (.inl rfl) rfl rfl (hE 6 rfl) (by rw [hob]; rfl)⟩
      · exact ⟨22, rfl, blt_lt rfl, fun st hob hE => aop_ixE 0 rfl rfl rfl ut26 sz5 (hE 20 rfl) (hE 21 rfl) (fun _ => rfl) rfl (by first | omega | (simp; done) | decide | (simp; omega) | (simp at *; omega)) (by rw [hob]; rfl)⟩
      · exact ⟨23, rfl, blt_lt rfl, fun st hob hE => aop_ld (av := .v (.int .u8 (is.getD k 0))) rfl rfl rfl ag5 (hE 22 rfl) rfl (by rw [hob]; rfl)⟩
      · exact ⟨24, rfl, blt_lt rfl, fun st hob hE => call_ (s_Kind (was.getD k 0) (is.getD k 0) hwk hik) rfl rfl rfl rfl rfl bd22 (by show [st.env 19, st.env 23] ++ _ = _; rw [hE 19 rfl, hE 23 rfl]; rfl) (by rw [hob]; rfl)⟩
    refine opG rfl (aop_move (av := .v (.int .u8 (kindI (was.getD k 0) (is.getD k 0)))) (.inr rfl) rfl rfl rfl ?_)
    refine op0 ?_
    show AWP _ _ _ _ _
    refine awp_imp ⟨(upd (upd (upd (upd (upd (upd (upd (upd none_ 0 (.ro was.length (enc eU8 was))) 1 (.ro is.length (enc eU8 is))) 4 (.v (.slice none 0 0))) 5 (.sl 1 0 ((chgK was is k).length))) 6 (.v (.int .i64 (k : Int)))) 7 (.v (.int .u8 (kindI (was.getD k 0) (is.getD k 0))))) 12 (.v (.int .i64 ((min was.length is.length : Nat) : Int)))) 13 (.v (.int .i64 (k : Int)))), (updO noOb 1 (.live ⟨(enc eCh (chgK was is k)), 68, 2⟩))⟩ (imp_le ⟨(lee_upd 13 _ rfl (lee_upd 12 _ rfl (lee_upd 7 _ rfl (lee_upd 6 _ rfl (lee_upd 5 _ rfl (lee_upd 4 _ rfl (lee_upd 1 _ rfl (lee_upd 0 _ rfl (lee_none _))))))))), fun _ => .inl rfl⟩) ?_
    refine seqR ?_
    refine opG rfl (aop_move (av := .v (.int .u8 (kindI (was.getD k 0) (is.getD k 0)))) (.inl rfl) rfl rfl rfl ?_)
    refine opG rfl (aop_binI (u := (.bool (decide ((kindI (was.getD k 0) (is.getD k 0)) > 0)))) rfl rfl rfl rfl rfl trivial rfl ?_)
    refine op0 ?_
    show AWP _ _ _ _ _
    refine awp_cond (decide ((kindI (was.getD k 0) (is.getD k 0)) > 0)) rfl rfl (fun hc1 => ?_) (fun hc1 => ?_)
    · skip
      have hf2 := of_decide_eq_true hc1
      refine regR ?_
      refine opG rfl (aop_move (av := .sl 1 0 ((chgK was is k).length)) (.inl rfl) rfl rfl rfl ?_)
      refine opG rfl (aop_move (av := .v (.int .i64 (k : Int))) (.inl rfl) rfl rfl rfl ?_)
      refine opG rfl (aop_move (av := .v (.int .u8 (kindI (was.getD k 0) (is.getD k 0)))) (.inl rfl) rfl rfl rfl ?_)
      refine opG rfl (aop_build rfl rfl rfl pl68 rfl ?_)
      refine opG rfl (aop_lit rfl rfl rfl ut64 iz68 (by decide) (by decide) rfl rfl ?_)
      refine opG rfl (aop_app1 (f := eCh) (l := chgK was is k) 52 (⟨(k : Int), kindI (was.getD k 0) (is.getD k 0)⟩ : Chg) rfl rfl rfl rfl ut64 in68 rfl (by decide) rfl rfl rfl rfl rfl rfl (fun _ => rfl) rfl rfl (by first | omega | (simp; done) | decide | (simp; omega) | (simp at *; omega)) (by first | omega | (simp; done) | decide | (simp; omega) | (simp at *; omega)) rfl ?_)
      refine opG rfl (aop_move (av := .sl 52 0 (((chgK was is k) ++ [(⟨(k : Int), kindI (was.getD k 0) (is.getD k 0)⟩ : Chg)]).length)) (.inr rfl) rfl rfl rfl ?_)
      refine op0 ?_
      show AWP _ _ _ _ _
      refine awp_imp ⟨(upd (upd (upd (upd (upd (upd (upd (upd none_ 0 (.ro was.length (enc eU8 was))) 1 (.ro is.length (enc eU8 is))) 4 (.v (.slice none 0 0))) 5 (.sl 52 0 (((chgK was is k) ++ [(⟨(k : Int), kindI (was.getD k 0) (is.getD k 0)⟩ : Chg)]).length))) 6 (.v (.int .i64 (k : Int)))) 7 (.v (.int .u8 (kindI (was.getD k 0) (is.getD k 0))))) 12 (.v (.int .i64 ((min was.length is.length : Nat) : Int)))) 13 (.v (.int .i64 (k : Int)))), (updO (updO (updO noOb 1 (.live ⟨(enc eCh (chgK was is k)), 68, 2⟩)) 1 .dead) 52 (.live ⟨(enc eCh ((chgK was is k) ++ [(⟨(k : Int), kindI (was.getD k 0) (is.getD k 0)⟩ : Chg)])), 68, 2⟩))⟩ (imp_le ⟨(lee_upd 13 _ rfl (lee_upd 12 _ rfl (lee_upd 7 _ rfl (lee_upd 6 _ rfl (lee_upd 5 _ rfl (lee_upd 4 _ rfl (lee_upd 1 _ rfl (lee_upd 0 _ rfl (lee_none _))))))))), fun _ => .inl rfl⟩) ?_
      refine regR ?_
      refine opG rfl (aop_binI (u := (.int .i64 ((k + 1 : Nat) : Int))) rfl rfl rfl rfl rfl trivial (addN (by omega)) ?_)
      refine opG rfl (aop_move (av := .v (.int .i64 ((k + 1 : Nat) : Int))) (.inl rfl) rfl rfl rfl ?_)
      refine op0 ?_
      show _ ∧ _
      have hs_ := chgK_on (was := was) (is := is) (k := k) (of_decide_eq_true hc1)
      refine ⟨by omega, trivial, ?_⟩
      exact imp_ler [(52, 1)] (ler1 52 1 _ _ rfl (by exact congrArg (fun l_ => LObj.mk (enc eCh l_) 68 2) hs_) (NoIL.out (l := (enc eCh ((chgK was is k) ++ [(⟨(k : Int), kindI (was.getD k 0) (is.getD k 0)⟩ : Chg)])))) (sr_same 13 (.v (.int .i64 ((k + 1) : Int))) rfl NoI.out (sr_same 12 (.v (.int .i64 ((min was.length is.length : Nat) : Int))) rfl NoI.out (sr_map 5 (.sl 1 0 ((chgK was is (k + 1)).length)) (by first | exact Ok.sl _ _ _ (by first | decide | simp) | exact Ok.pt _ _ (by first | decide | simp)) (by exact congrArg (AV.sl 1 0) (congrArg List.length hs_.symm)) (sr_same 4 (.v (.slice none 0 0)) rfl NoI.out (sr_same 1 (.ro is.length (enc eU8 is)) rfl NoI.out (sr_same 0 (.ro was.length (enc eU8 was)) rfl NoI.out sr_none))))))) (keep_of rfl)
    · skip
      have hf3 := of_decide_eq_false hc1
      refine awp_skip ?_
      show AWP _ _ _ _ _
      refine regR ?_
      refine opG rfl (aop_binI (u := (.int .i64 ((k + 1 : Nat) : Int))) rfl rfl rfl rfl rfl trivial (addN (by omega)) ?_)
      refine opG rfl (aop_move (av := .v (.int .i64 ((k + 1 : Nat) : Int))) (.inl rfl) rfl rfl rfl ?_)
      refine op0 ?_
      show _ ∧ _
      have hs_ := chgK_off (was := was) (is := is) (k := k) (of_decide_eq_false hc1)
      refine ⟨by omega, trivial, ?_⟩
      exact imp_ler [(1, 1)] (ler1 1 1 _ _ rfl (by exact congrArg (fun l_ => LObj.mk (enc eCh l_) 68 2) hs_) (NoIL.out (l := (enc eCh (chgK was is k)))) (sr_same 13 (.v (.int .i64 ((k + 1) : Int))) rfl NoI.out (sr_same 12 (.v (.int .i64 ((min was.length is.length : Nat) : Int))) rfl NoI.out (sr_map 5 (.sl 1 0 ((chgK was is (k + 1)).length)) (by first | exact Ok.sl _ _ _ (by first | decide | simp) | exact Ok.pt _ _ (by first | decide | simp)) (by exact congrArg (AV.sl 1 0) (congrArg List.length hs_.symm)) (sr_same 4 (.v (.slice none 0 0)) rfl NoI.out (sr_same 1 (.ro is.length (enc eU8 is)) rfl NoI.out (sr_same 0 (.ro was.length (enc eU8 was)) rfl NoI.out sr_none))))))) (keep_of rfl)
  · skip
    have hf4 := of_decide_eq_false hc0
    refine awp_exit ?_
    show AWP _ _ _ _ _
    refine seqR ?_
    refine opG rfl (aop_move (av := .sl 1 0 ((chgK was is k).length)) (.inl rfl) rfl rfl rfl ?_)
    refine opG rfl (aop_move (av := .sl 1 0 ((chgK was is k).length)) (.inr rfl) rfl rfl rfl ?_)
    refine op0 ?_
    show AWP _ _ _ _ _
    have he : chgK was is k = chgL was is := by unfold chgL; congr 1; omega
    refine awp_imp _ (imp_frozen rfl (fun _ h => h) (lee_lend 4 (.ro ((chgK was is k).length) (enc eCh (chgK was is k))) (lend_s (id := 1) (n := (chgK was is k).length) (o := ⟨(enc eCh (chgK was is k)), 68, 2⟩) rfl (enc_len (fun _ => rfl) (by first | rfl | (simp; done)))) lee_lend0)) ?_
    refine awp_ret ?_
    exact fret (av := .ro ((chgK was is k).length) (enc eCh (chgK was is k))) rfl rfl (by rw [he])

set_option maxRecDepth 10000 in
set_option maxHeartbeats 16000000 in
theorem r13_Changes (was is : List Int) (hw : was.length ≤ 65536) (hi : is.length ≤ 65536) (hwb : ∀ x, x ∈ was → 0 ≤ x ∧ x ≤ 255) (hib : ∀ x, x ∈ is → 0 ≤ x ∧ x ≤ 255) : Fn Tryd.prog 28 [.ro was.length (enc eU8 was), .ro is.length (enc eU8 is)] (.ro ((chgL was is).length) (enc eCh (chgL was is))) := by
  refine fnE_of_body (N := 44) Tryd.func28 rfl rfl (resOf1 rfl) (by simp) (fun w0 X hL_ => ?_)
  refine seqR ?_
  refine opG rfl (aop_move (av := .v (.slice none 0 0)) (.inr rfl) rfl rfl rfl ?_)
  refine op0 ?_
  show AWP _ _ _ _ _
  refine seqR ?_
  refine opG rfl (aop_move (av := .v (.slice none 0 0)) (.inr rfl) rfl rfl rfl ?_)
  refine op0 ?_
  show AWP _ _ _ _ _
  refine awp_seq ?_
  refine seqR ?_
  refine opG rfl (aop_move (av := .v (.int .i64 0)) (.inr rfl) rfl rfl rfl ?_)
  refine op0 ?_
  show AWP _ _ _ _ _
  refine awp_block ?_
  refine awp_countI (fun k => ⟨(upd (upd (upd (upd (upd none_ 0 (.ro was.length (enc eU8 was))) 1 (.ro is.length (enc eU8 is))) 4 (.v (.slice none 0 0))) 5 (.sl 1 0 ((chgK was is k).length))) 6 (.v (.int .i64 (k : Int)))), (updO noOb 1 (.live ⟨(enc eCh (chgK was is k)), 68, 2⟩))⟩) (fun k => True) ((min was.length is.length)) ?_ trivial (fun k hk_k hinv => ?_)
  · skip
    refine (imp_adopt 5 51 68 2 rfl rfl).trans ?_
    exact imp_ler [(51, 1)] (ler1 51 1 _ _ rfl rfl (NoIL.out (l := [])) (sr_same 6 (.v (.int .i64 (0 : Int))) rfl NoI.out (sr_map 5 (.sl 1 0 ((chgK was is 0).length)) (by first | exact Ok.sl _ _ _ (by first | decide | simp) | exact Ok.pt _ _ (by first | decide | simp)) rfl (sr_same 4 (.v (.slice none 0 0)) rfl NoI.out (sr_same 1 (.ro is.length (enc eU8 is)) rfl NoI.out (sr_same 0 (.ro was.length (enc eU8 was)) rfl NoI.out sr_none)))))) (keep_of rfl)
  have hcl := chgK_len was is k
  refine awp_seq ?_
  refine seqR ?_
  refine opG rfl (aop_move (av := .v (.int .i64 (k : Int))) (.inl rfl) rfl rfl rfl ?_)
  refine opG rfl (aop_move (av := .ro was.length (enc eU8 was)) (.inl rfl) rfl rfl rfl ?_)
  refine opG rfl (aop_len rfl rfl rfl rfl ut26 (len_ro rfl) ?_)
  refine opG rfl (aop_binI (u := (.bool (decide ((k : Int) < (was.length : Int))))) rfl rfl rfl rfl rfl trivial rfl ?_)
  refine opG rfl (aop_move (av := .v (.bool (decide ((k : Int) < (was.length : Int))))) (.inl rfl) rfl rfl rfl ?_)
  refine aops_grp 5 16 (.v (.bool ((decide ((k : Int) < (was.length : Int))) && (decide ((k : Int) < (is.length : Int)))))) ?_ ?_
  · rcases Bool.eq_false_or_eq_true (decide ((k : Int) < (was.length : Int))) with hg1 | hg1
    · skip
      have hf2 := of_decide_eq_true hg1
      refine opY rfl rfl rfl (by show AV.v (.bool (decide ((k : Int) < (was.length : Int)))) = _; rw [hg1]) (aop_move (av := .v (.int .i64 (k : Int))) (.inl rfl) rfl rfl rfl ?_)
      refine opY rfl rfl rfl (by show AV.v (.bool (decide ((k : Int) < (was.length : Int)))) = _; rw [hg1]) (aop_move (av := .ro is.length (enc eU8 is)) (.inl rfl) rfl rfl rfl ?_)
      refine opY rfl rfl rfl (by show AV.v (.bool (decide ((k : Int) < (was.length : Int)))) = _; rw [hg1]) (aop_len rfl rfl rfl rfl ut26 (len_ro rfl) ?_)
      refine opY rfl rfl rfl (by show AV.v (.bool (decide ((k : Int) < (was.length : Int)))) = _; rw [hg1]) (aop_binI (u := (.bool (decide ((k : Int) < (is.length : Int))))) rfl rfl rfl rfl rfl trivial rfl ?_)
      refine opG rfl (aop_pick (b := (decide ((k : Int) < (was.length : Int)))) rfl rfl rfl rfl (by rw [hg1] <;> rfl) ?_)
      refine op0 ?_
      exact imp_env (lee_both 16 _ _ (by rw [hg1] <;> rfl) (lee_out 15 _ rfl (lee_out 14 _ rfl (lee_out 13 _ rfl (lee_out 12 _ rfl (lee_same _))))))
    · skip
      have hf3 := of_decide_eq_false hg1
      refine opN rfl rfl rfl rfl (by show yv (.bool (decide ((k : Int) < (was.length : Int)))) ≠ _; rw [hg1]; intro h; cases h) rfl rfl ?_
      refine opN rfl rfl rfl rfl (by show yv (.bool (decide ((k : Int) < (was.length : Int)))) ≠ _; rw [hg1]; intro h; cases h) rfl rfl ?_
      refine opN rfl rfl rfl rfl (by show yv (.bool (decide ((k : Int) < (was.length : Int)))) ≠ _; rw [hg1]; intro h; cases h) rfl rfl ?_
      refine opN rfl rfl rfl rfl (by show yv (.bool (decide ((k : Int) < (was.length : Int)))) ≠ _; rw [hg1]; intro h; cases h) rfl rfl ?_
      refine opG rfl (aop_pick (b := (decide ((k : Int) < (was.length : Int)))) rfl rfl rfl rfl (by rw [hg1] <;> rfl) ?_)
      refine op0 ?_
      exact imp_env (lee_both 16 _ _ (by rw [hg1] <;> rfl) (lee_out 15 _ rfl (lee_out 14 _ rfl (lee_out 13 _ rfl (lee_out 12 _ rfl (lee_same _))))))
  refine op0 ?_
  show AWP _ _ _ _ _
  refine awp_imp ⟨(upd (upd (upd (upd (upd (upd none_ 0 (.ro was.length (enc eU8 was))) 1 (.ro is.length (enc eU8 is))) 4 (.v (.slice none 0 0))) 5 (.sl 1 0 ((chgK was is k).length))) 6 (.v (.int .i64 (k : Int)))) 16 (.v (.bool ((decide ((k : Int) < (was.length : Int))) && (decide ((k : Int) < (is.length : Int))))))), (updO noOb 1 (.live ⟨(enc eCh (chgK was is k)), 68, 2⟩))⟩ (imp_le ⟨(lee_upd 16 _ rfl (lee_upd 6 _ rfl (lee_upd 5 _ rfl (lee_upd 4 _ rfl (lee_upd 1 _ rfl (lee_upd 0 _ rfl (lee_none _))))))), fun _ => .inl rfl⟩) ?_
  refine awp_cond ((decide ((k : Int) < (was.length : Int))) && (decide ((k : Int) < (is.length : Int)))) rfl rfl (fun hc0 => ?_) (fun hc0 => ?_)
  · skip
    obtain ⟨hf4a, hf4b⟩ := and_t hc0
    have hf5 := of_decide_eq_true hf4a
    have hf6 := of_decide_eq_true hf4b
    have hkk : k < was.length ∧ k < is.length := by simp at hc0; omega
    have hkw : k < was.length := by omega
    have hki : k < is.length := by omega
    have hwk := hwb _ (getD_mem (l := was) (k := k) 0 (by omega))
    have hik := hib _ (getD_mem (l := is) (k := k) 0 (by omega))
    refine awp_skip ?_
    show AWP _ _ _ _ _
    refine awp_seq ?_
    refine awp_block ?_
    refine awp_seq ?_
    refine awp_draw (m := 10) [(28, .v (.bool (decide ((kindI (was.getD k 0) (is.getD k 0)) > 0)))), (27, .v (.int .u8 (kindI (was.getD k 0) (is.getD k 0)))), (26, .v (.int .u8 (is.getD k 0))), (25, .rp (([.v (.int .u8 (is.getD k 0))] : List AV) ++ ((enc eU8 is).drop ((k + 1) * 1)))), (24, .v (.int .i64 (k : Int))), (23, .ro is.length (enc eU8 is)), (22, .v (.int .u8 (was.getD k 0))), (21, .rp (([.v (.int .u8 (was.getD k 0))] : List AV) ++ ((enc eU8 was).drop ((k + 1) * 1)))), (20, .v (.int .i64 (k : Int))), (19, .ro was.length (enc eU8 was))] mixed (by kernel_rfl) ?_ ?_
    · refine ⟨?_, ?_, ?_, ?_, ?_, ?_, ?_, ?_, ?_, ?_, trivial⟩
      · exact ⟨19, rfl, blt_lt rfl, fun st hob hE => aop_move (av := .ro was.length (enc eU8 was)) (.inl rfl) rfl rfl (hE 0 rfl) (by rw [hob]; rfl)⟩
      · exact ⟨20, rfl, blt_lt rfl, fun st hob hE => aop_move (av := .v (.int .i64 (k : Int))) (.inl rfl) rfl rfl (hE 6 rfl) (by rw [hob]; rfl)⟩
      · exact ⟨21, rfl, blt_lt rfl, fun st hob hE => aop_ixE 0 rfl rfl rfl ut26 sz5 (hE 19 rfl) (hE 20 rfl) (fun _ => rfl) rfl (by first | omega | (simp; done) | decide | (simp; omega) | (simp at *; omega)) (by rw [hob]; rfl)⟩
      · exact ⟨22, rfl, blt_lt rfl, fun st hob hE => aop_ld (av := .v (.int .u8 (was.getD k 0))) rfl rfl rfl ag5 (hE 21 rfl) rfl (by rw [hob]; rfl)⟩
      · exact ⟨23, rfl, blt_lt rfl, fun st hob hE => aop_move (av := .ro is.length (enc eU8 is)) (.inl rfl) rfl rfl (hE 1 rfl) (by rw [hob]; rfl)⟩
      · exact ⟨24, rfl, blt_lt rfl, fun st hob hE => aop_move (av := .v (.int .i64 (k : Int))) (.inl rfl) rfl rfl (hE 6 rfl) (by rw [hob]; rfl)⟩
      · exact ⟨25, rfl, blt_lt rfl, fun st hob hE => aop_ixE 0 rfl rfl rfl ut26 sz5 (hE 23 rfl) (hE 24 rfl) (fun _ => rfl) rfl (by first | omega | (simp; done) | decide | (simp; omega) | (simp at *; omega)) (by rw [hob]; rfl)⟩
      · exact ⟨26, rfl, blt_lt rfl, fun st hob hE => aop_ld (av := .v (.int .u8 (is.getD k 0))) rfl rfl rfl ag5 (hE 25 rfl) rfl (by rw [hob]; rfl)⟩
      · exact ⟨27, rfl, blt_lt rfl, fun st hob hE => call_ (r13_Kind (was.getD k 0) (is.getD k 0) hwk hik) rfl rfl rfl rfl rfl bd23 (by show [st.env 22, st.env 26] ++ _ = _; rw [hE 22 rfl, hE 26 rfl]; rfl) (by rw [hob]; rfl)⟩
      · exact ⟨28, rfl, blt_lt rfl, fun st hob hE => aop_binI (u := (.bool (decide ((kindI (was.getD k 0) (is.getD k 0)) > 0)))) rfl rfl rfl (hE 27 rfl) rfl trivial rfl (by rw [hob]; rfl)⟩
    refine op0 ?_
    show AWP _ _ _ _ _
    refine awp_cond (decide ((kindI (was.getD k 0) (is.getD k 0)) > 0)) rfl rfl (fun hc1 => ?_) (fun hc1 => ?_)
    · skip
      have hf7 := of_decide_eq_true hc1
      refine awp_draw (m := 13) [(41, .ro 1 [.v (.int .i64 (k : Int)), .v (.int .u8 (kindI (was.getD k 0) (is.getD k 0)))]), (40, .agg [.v (.int .i64 (k : Int)), .v (.int .u8 (kindI (was.getD k 0) (is.getD k 0)))]), (39, .v (.int .u8 (kindI (was.getD k 0) (is.getD k 0)))), (38, .v (.int .u8 (is.getD k 0))), (37, .rp (([.v (.int .u8 (is.getD k 0))] : List AV) ++ ((enc eU8 is).drop ((k + 1) * 1)))), (36, .v (.int .i64 (k : Int))), (35, .ro is.length (enc eU8 is)), (34, .v (.int .u8 (was.getD k 0))), (33, .rp (([.v (.int .u8 (was.getD k 0))] : List AV) ++ ((enc eU8 was).drop ((k + 1) * 1)))), (32, .v (.int .i64 (k : Int))), (31, .ro was.length (enc eU8 was)), (30, .v (.int .i64 (k : Int))), (29, .sl 1 0 ((chgK was is k).length))] mixed (by kernel_rfl) ?_ ?_
      · refine ⟨?_, ?_, ?_, ?_, ?_, ?_, ?_, ?_, ?_, ?_, ?_, ?_, ?_, trivial⟩
        · exact ⟨29, rfl, blt_lt rfl, fun st hob hE => aop_move (av := .sl 1 0 ((chgK was is k).length)) (.inl rfl) rfl rfl (hE 5 rfl) (by rw [hob]; rfl)⟩
        · exact ⟨30, rfl, blt_lt rfl, fun st hob hE => aop_move (av := .v (.int .i64 (k : Int))) (.inl rfl) rfl rfl (hE 6 rfl) (by rw [hob]; rfl)⟩
        · exact ⟨31, rfl, blt_lt rfl, fun st hob hE => aop_move (av := .ro was.length (enc eU8 was)) (.inl rfl) rfl rfl (hE 0 rfl) (by rw [hob]; rfl)⟩
        · exact ⟨32, rfl, blt_lt rfl, fun st hob hE => aop_move (av := .v (.int .i64 (k : Int))) (.inl rfl) rfl rfl (hE 6 rfl) (by rw [hob]; rfl)⟩
        · exact ⟨33, rfl, blt_lt rfl, fun st hob hE => aop_ixE 0 rfl rfl rfl ut26 sz5 (hE 31 rfl) (hE 32 rfl) (fun _ => rfl) rfl (by first | omega | (simp; done) | decide | (simp; omega) | (simp at *; omega)) (by rw [hob]; rfl)⟩
        · exact ⟨34, rfl, blt_lt rfl, fun st hob hE => aop_ld (av := .v (.int .u8 (was.getD k 0))) rfl rfl rfl ag5 (hE 33 rfl) rfl (by rw [hob]; rfl)⟩
        · exact ⟨35, rfl, blt_lt rfl, fun st hob hE => aop_move (av := .ro is.length (enc eU8 is)) (.inl rfl) rfl rfl (hE 1 rfl) (by rw [hob]; rfl)⟩
        · exact ⟨36, rfl, blt_lt rfl, fun st hob hE => aop_move (av := .v (.int .i64 (k : Int))) (.inl rfl) rfl rfl (hE 6 rfl) (by rw [hob]; rfl)⟩
        · exact ⟨37, rfl, blt_lt rfl, fun st hob hE => aop_ixE 0 rfl rfl rfl ut26 sz5 (hE 35 rfl) (hE 36 rfl) (fun _ => rfl) rfl (by first | omega | (simp; done) | decide | (simp; omega) | (simp at *; omega)) (by rw [hob]; rfl)⟩
        · exact ⟨38, rfl, blt_lt rfl, fun st hob hE => aop_ld (av := .v (.int .u8 (is.getD k 0))) rfl rfl rfl ag5 (hE 37 rfl) rfl (by rw [hob]; rfl)⟩
        · exact ⟨39, rfl, blt_lt rfl, fun st hob hE => call_ (r13_Kind (was.getD k 0) (is.getD k 0) hwk hik) rfl rfl rfl rfl rfl bd23 (by show [st.env 34, st.env 38] ++ _ = _; rw [hE 34 rfl, hE 38 rfl]; rfl) (by rw [hob]; rfl)⟩
        · exact ⟨40, rfl, blt_lt rfl, fun st hob hE => aop_build rfl rfl rfl pl68 (by simp only [partsA, List.map, evA, hE 30 rfl, hE 39 rfl]; rfl) (by rw [hob]; rfl)⟩
        · exact ⟨41, rfl, blt_lt rfl, fun st hob hE => aop_lit rfl rfl rfl ut64 iz68 (by decide) (by decide) (by simp only [partsA, List.map, evA, hE 40 rfl]; rfl) rfl (by rw [hob]; rfl)⟩
      refine opG rfl (aop_app1 (f := eCh) (l := chgK was is k) 52 (⟨(k : Int), kindI (was.getD k 0) (is.getD k 0)⟩ : Chg) rfl rfl rfl rfl ut64 in68 rfl (by decide) rfl rfl rfl rfl rfl rfl (fun _ => rfl) rfl rfl (by first | omega | (simp; done) | decide | (simp; omega) | (simp at *; omega)) (by first | omega | (simp; done) | decide | (simp; omega) | (simp at *; omega)) rfl ?_)
      refine opG rfl (aop_move (av := .sl 52 0 (((chgK was is k) ++ [(⟨(k : Int), kindI (was.getD k 0) (is.getD k 0)⟩ : Chg)]).length)) (.inr rfl) rfl rfl rfl ?_)
      refine op0 ?_
      show AWP _ _ _ _ _
      refine regR ?_
      refine opG rfl (aop_move (av := .v (.int .i64 (k : Int))) (.inl rfl) rfl rfl rfl ?_)
      refine opG rfl (aop_binI (u := (.int .i64 ((k + 1 : Nat) : Int))) rfl rfl rfl rfl rfl trivial (addN (by omega)) ?_)
      refine opG rfl (aop_move (av := .v (.int .i64 ((k + 1 : Nat) : Int))) (.inr rfl) rfl rfl rfl ?_)
      refine op0 ?_
      show _ ∧ _
      have hs_ := chgK_on (was := was) (is := is) (k := k) (of_decide_eq_true hc1)
      refine ⟨by omega, trivial, ?_⟩
      exact imp_ler [(52, 1)] (ler1 52 1 _ _ rfl (by exact congrArg (fun l_ => LObj.mk (enc eCh l_) 68 2) hs_) (NoIL.out (l := (enc eCh ((chgK was is k) ++ [(⟨(k : Int), kindI (was.getD k 0) (is.getD k 0)⟩ : Chg)])))) (sr_same 6 (.v (.int .i64 ((k + 1) : Int))) rfl NoI.out (sr_map 5 (.sl 1 0 ((chgK was is (k + 1)).length)) (by first | exact Ok.sl _ _ _ (by first | decide | simp) | exact Ok.pt _ _ (by first | decide | simp)) (by exact congrArg (AV.sl 1 0) (congrArg List.length hs_.symm)) (sr_same 4 (.v (.slice none 0 0)) rfl NoI.out (sr_same 1 (.ro is.length (enc eU8 is)) rfl NoI.out (sr_same 0 (.ro was.length (enc eU8 was)) rfl NoI.out sr_none)))))) (keep_of rfl)
    · skip
      have hf8 := of_decide_eq_false hc1
      refine awp_skip ?_
      show AWP _ _ _ _ _
      refine regR ?_
      refine opG rfl (aop_move (av := .v (.int .i64 (k : Int))) (.inl rfl) rfl rfl rfl ?_)
      refine opG rfl (aop_binI (u := (.int .i64 ((k + 1 : Nat) : Int))) rfl rfl rfl rfl rfl trivial (addN (by omega)) ?_)
      refine opG rfl (aop_move (av := .v (.int .i64 ((k + 1 : Nat) : Int))) (.inr rfl) rfl rfl rfl ?_)
      refine op0 ?_
      show _ ∧ _
      have hs_ := chgK_off (was := was) (is := is) (k := k) (of_decide_eq_false hc1)
      refine ⟨by omega, trivial, ?_⟩
      exact imp_ler [(1, 1)] (ler1 1 1 _ _ rfl (by exact congrArg (fun l_ => LObj.mk (enc eCh l_) 68 2) hs_) (NoIL.out (l := (enc eCh (chgK was is k)))) (sr_same 6 (.v (.int .i64 ((k + 1) : Int))) rfl NoI.out (sr_map 5 (.sl 1 0 ((chgK was is (k + 1)).length)) (by first | exact Ok.sl _ _ _ (by first | decide | simp) | exact Ok.pt _ _ (by first | decide | simp)) (by exact congrArg (AV.sl 1 0) (congrArg List.length hs_.symm)) (sr_same 4 (.v (.slice none 0 0)) rfl NoI.out (sr_same 1 (.ro is.length (enc eU8 is)) rfl NoI.out (sr_same 0 (.ro was.length (enc eU8 was)) rfl NoI.out sr_none)))))) (keep_of rfl)
  · skip
    have hkk : ¬ (k < was.length ∧ k < is.length) := fun h => by simp [h.1, h.2] at hc0
    refine awp_exit ?_
    show AWP _ _ _ _ _
    refine seqR ?_
    refine opG rfl (aop_move (av := .sl 1 0 ((chgK was is k).length)) (.inl rfl) rfl rfl rfl ?_)
    refine opG rfl (aop_move (av := .sl 1 0 ((chgK was is k).length)) (.inr rfl) rfl rfl rfl ?_)
    refine op0 ?_
    show AWP _ _ _ _ _
    have he : chgK was is k = chgL was is := by unfold chgL; congr 1; omega
    refine awp_imp _ (imp_frozen rfl (fun _ h => h) (lee_lend 4 (.ro ((chgK was is k).length) (enc eCh (chgK was is k))) (lend_s (id := 1) (n := (chgK was is k).length) (o := ⟨(enc eCh (chgK was is k)), 68, 2⟩) rfl (enc_len (fun _ => rfl) (by first | rfl | (simp; done)))) lee_lend0)) ?_
    refine awp_ret ?_
    exact fret (av := .ro ((chgK was is k).length) (enc eCh (chgK was is k))) rfl rfl (by rw [he])

set_option maxRecDepth 10000 in
set_option maxHeartbeats 16000000 in
theorem r13_Same (a b : List Chg) (hl : a.length ≤ 4294967296) : Fn Tryd.prog 26 [.ro a.length (enc eCh a), .ro b.length (enc eCh b)] (.v (.bool (decide (a = b)))) := by
  refine fnE_of_body (N := 26) Tryd.func26 rfl rfl (resOf1 rfl) (by simp) (fun w0 X hL_ => ?_)
  refine seqR ?_
  refine opG rfl (aop_move (av := .v (.bool false)) (.inr rfl) rfl rfl rfl ?_)
  refine op0 ?_
  show AWP _ _ _ _ _
  refine awp_seq ?_
  refine seqR ?_
  refine opG rfl (aop_move (av := .ro a.length (enc eCh a)) (.inl rfl) rfl rfl rfl ?_)
  refine opG rfl (aop_len rfl rfl rfl rfl ut64 (len_ro rfl) ?_)
  refine opG rfl (aop_move (av := .ro b.length (enc eCh b)) (.inl rfl) rfl rfl rfl ?_)
  refine opG rfl (aop_len rfl rfl rfl rfl ut64 (len_ro rfl) ?_)
  refine opG rfl (aop_binI (u := (.bool ((a.length : Int) != (b.length : Int)))) rfl rfl rfl rfl rfl trivial rfl ?_)
  refine op0 ?_
  show AWP _ _ _ _ _
  refine awp_imp ⟨(upd (upd (upd (upd none_ 0 (.ro a.length (enc eCh a))) 1 (.ro b.length (enc eCh b))) 4 (.v (.bool false))) 10 (.v (.bool ((a.length : Int) != (b.length : Int))))), noOb⟩ (imp_le ⟨(lee_upd 10 _ rfl (lee_upd 4 _ rfl (lee_upd 1 _ rfl (lee_upd 0 _ rfl (lee_none _))))), fun _ => .inl rfl⟩) ?_
  refine awp_cond ((a.length : Int) != (b.length : Int)) rfl rfl (fun hc0 => ?_) (fun hc0 => ?_)
  · skip
    have hf1 := (bne_iff_ne).1 hc0
    refine seqR ?_
    refine opG rfl (aop_move (av := .v (.bool false)) (.inr rfl) rfl rfl rfl ?_)
    refine op0 ?_
    show AWP _ _ _ _ _
    refine awp_ret ?_
    exact fret (av := .v (.bool false)) rfl rfl (by rw [alike_off (by omega)] <;> rfl)
  · skip
    have hf2 := (bne_eq_false_iff_eq).1 hc0
    refine awp_skip ?_
    show AWP _ _ _ _ _
    refine awp_seq ?_
    refine seqR ?_
    refine opG rfl (aop_move (av := .v (.int .i64 0)) (.inr rfl) rfl rfl rfl ?_)
    refine op0 ?_
    show AWP _ _ _ _ _
    refine awp_block ?_
    refine awp_countI (fun k => ⟨(upd (upd (upd (upd none_ 0 (.ro a.length (enc eCh a))) 1 (.ro b.length (enc eCh b))) 4 (.v (.bool false))) 5 (.v (.int .i64 (k : Int)))), noOb⟩) (fun k => a.take k = b.take k) (a.length) ?_ (by simp) (fun k hk_k hinv => ?_)
    · skip
      exact imp_ler [] (ler0 (sr_same 5 (.v (.int .i64 (0 : Int))) rfl NoI.out (sr_same 4 (.v (.bool false)) rfl NoI.out (sr_same 1 (.ro b.length (enc eCh b)) rfl NoI.out (sr_same 0 (.ro a.length (enc eCh a)) rfl NoI.out sr_none))))) (keep_of rfl)
    refine awp_seq ?_
    refine seqR ?_
    refine opG rfl (aop_move (av := .v (.int .i64 (k : Int))) (.inl rfl) rfl rfl rfl ?_)
    refine opG rfl (aop_move (av := .ro a.length (enc eCh a)) (.inl rfl) rfl rfl rfl ?_)
    refine opG rfl (aop_len rfl rfl rfl rfl ut64 (len_ro rfl) ?_)
    refine opG rfl (aop_binI (u := (.bool (decide ((k : Int) < (a.length : Int))))) rfl rfl rfl rfl rfl trivial rfl ?_)
    refine op0 ?_
    show AWP _ _ _ _ _
    refine awp_imp ⟨(upd (upd (upd (upd (upd none_ 0 (.ro a.length (enc eCh a))) 1 (.ro b.length (enc eCh b))) 4 (.v (.bool false))) 5 (.v (.int .i64 (k : Int)))) 14 (.v (.bool (decide ((k : Int) < (a.length : Int)))))), noOb⟩ (imp_le ⟨(lee_upd 14 _ rfl (lee_upd 5 _ rfl (lee_upd 4 _ rfl (lee_upd 1 _ rfl (lee_upd 0 _ rfl (lee_none _)))))), fun _ => .inl rfl⟩) ?_
    refine awp_cond (decide ((k : Int) < (a.length : Int))) rfl rfl (fun hc1 => ?_) (fun hc1 => ?_)
    · skip
      have hf3 := of_decide_eq_true hc1
      refine awp_skip ?_
      show AWP _ _ _ _ _
      refine awp_seq ?_
      refine awp_block ?_
      refine awp_seq ?_
      refine awp_draw (m := 9) [(25, .v (.bool (!(decide (((a.getD k dC).sec) = ((b.getD k dC).sec) ∧ ((a.getD k dC).kind) = ((b.getD k dC).kind)))))), (24, .agg [.v (.int .i64 ((b.getD k dC).sec)), .v (.int .u8 ((b.getD k dC).kind))]), (23, .rp (([.v (.int .i64 ((b.getD k dC).sec)), .v (.int .u8 ((b.getD k dC).kind))] : List AV) ++ ((enc eCh b).drop ((k + 1) * 2)))), (22, .v (.int .i64 (k : Int))), (21, .ro b.length (enc eCh b)), (20, .agg [.v (.int .i64 ((a.getD k dC).sec)), .v (.int .u8 ((a.getD k dC).kind))]), (19, .rp (([.v (.int .i64 ((a.getD k dC).sec)), .v (.int .u8 ((a.getD k dC).kind))] : List AV) ++ ((enc eCh a).drop ((k + 1) * 2)))), (18, .v (.int .i64 (k : Int))), (17, .ro a.length (enc eCh a))] mixed (by kernel_rfl) ?_ ?_
      · refine ⟨?_, ?_, ?_, ?_, ?_, ?_, ?_, ?_, ?_, trivial⟩
        · exact ⟨17, rfl, blt_lt rfl, fun st hob hE => aop_move (av := .ro a.length (enc eCh a)) (.inl rfl) rfl rfl (hE 0 rfl) (by rw [hob]; rfl)⟩
        · exact ⟨18, rfl, blt_lt rfl, fun st hob hE => aop_move (av := .v (.int .i64 (k : Int))) (.inl rfl) rfl rfl (hE 5 rfl) (by rw [hob]; rfl)⟩
        · exact ⟨19, rfl, blt_lt rfl, fun st hob hE => aop_ixE dC rfl rfl rfl ut64 sz68 (hE 17 rfl) (hE 18 rfl) (fun _ => rfl) rfl (by first | omega | (simp; done) | decide | (simp; omega) | (simp at *; omega)) (by rw [hob]; rfl)⟩
        · exact ⟨20, rfl, blt_lt rfl, fun st hob hE => aop_ldB (cells' := [.v (.int .i64 ((a.getD k dC).sec)), .v (.int .u8 ((a.getD k dC).kind))]) rfl rfl rfl ag68 sz68 (hE 19 rfl) rfl rfl rfl (by rw [hob]; rfl)⟩
        · exact ⟨21, rfl, blt_lt rfl, fun st hob hE => aop_move (av := .ro b.length (enc eCh b)) (.inl rfl) rfl rfl (hE 1 rfl) (by rw [hob]; rfl)⟩
        · exact ⟨22, rfl, blt_lt rfl, fun st hob hE => aop_move (av := .v (.int .i64 (k : Int))) (.inl rfl) rfl rfl (hE 5 rfl) (by rw [hob]; rfl)⟩
        · exact ⟨23, rfl, blt_lt rfl, fun st hob hE => aop_ixE dC rfl rfl rfl ut64 sz68 (hE 21 rfl) (hE 22 rfl) (fun _ => rfl) rfl (by first | omega | (simp; done) | decide | (simp; omega) | (simp at *; omega)) (by rw [hob]; rfl)⟩
        · exact ⟨24, rfl, blt_lt rfl, fun st hob hE => aop_ldB (cells' := [.v (.int .i64 ((b.getD k dC).sec)), .v (.int .u8 ((b.getD k dC).kind))]) rfl rfl rfl ag68 sz68 (hE 23 rfl) rfl rfl rfl (by rw [hob]; rfl)⟩
        · exact ⟨25, rfl, blt_lt rfl, fun st hob hE => aop_eqS2 (r := (!(decide (((a.getD k dC).sec) = ((b.getD k dC).sec) ∧ ((a.getD k dC).kind) = ((b.getD k dC).kind))))) rfl rfl rfl (hE 20 rfl) (hE 24 rfl) es68 ut3 ut5 ag3 ag5 (.inr ⟨rfl, rfl⟩) (by rw [hob]; rfl)⟩
      refine op0 ?_
      show AWP _ _ _ _ _
      refine awp_cond (!(decide (((a.getD k dC).sec) = ((b.getD k dC).sec) ∧ ((a.getD k dC).kind) = ((b.getD k dC).kind)))) rfl rfl (fun hc2 => ?_) (fun hc2 => ?_)
      · skip
        have hne := chg_ne hc2
        refine seqR ?_
        refine opG rfl (aop_move (av := .v (.bool false)) (.inr rfl) rfl rfl rfl ?_)
        refine op0 ?_
        show AWP _ _ _ _ _
        refine awp_ret ?_
        exact fret (av := .v (.bool false)) rfl rfl (by rw [alike_stop hne] <;> rfl)
      · skip
        have hne := chg_eq hc2
        refine awp_skip ?_
        show AWP _ _ _ _ _
        refine regR ?_
        refine opG rfl (aop_move (av := .v (.int .i64 (k : Int))) (.inl rfl) rfl rfl rfl ?_)
        refine opG rfl (aop_binI (u := (.int .i64 ((k + 1 : Nat) : Int))) rfl rfl rfl rfl rfl trivial (addN (by omega)) ?_)
        refine opG rfl (aop_move (av := .v (.int .i64 ((k + 1 : Nat) : Int))) (.inr rfl) rfl rfl rfl ?_)
        refine op0 ?_
        show _ ∧ _
        refine ⟨by omega, (alike_step (d := dC) (by omega) (by omega) hinv hne), ?_⟩
        exact imp_ler [] (ler0 (sr_same 5 (.v (.int .i64 ((k + 1) : Int))) rfl NoI.out (sr_same 4 (.v (.bool false)) rfl NoI.out (sr_same 1 (.ro b.length (enc eCh b)) rfl NoI.out (sr_same 0 (.ro a.length (enc eCh a)) rfl NoI.out sr_none))))) (keep_of rfl)
    · skip
      have hf4 := of_decide_eq_false hc1
      refine awp_exit ?_
      show AWP _ _ _ _ _
      refine seqR ?_
      refine opG rfl (aop_move (av := .v (.bool true)) (.inr rfl) rfl rfl rfl ?_)
      refine op0 ?_
      show AWP _ _ _ _ _
      refine awp_ret ?_
      exact fret (av := .v (.bool true)) rfl rfl (by rw [alike_end (by omega) (by omega) hinv] <;> rfl)

set_option maxRecDepth 10000 in
set_option maxHeartbeats 16000000 in
theorem l13_second   : Fn Tryd.prog 10 [] (.v (.bool true)) := by
  have hp3 : (mkParts 0 0).length = 3 := by decide
  have hs3 : (mkSecs 0 0).length = 3 := by decide
  refine fnE_of_body (N := 18) Tryd.func10 rfl rfl (resOf1 rfl) (by simp) (fun w0 X hL_ => ?_)
  refine seqR ?_
  refine opG rfl (aop_move (av := .v (.bool false)) (.inr rfl) rfl rfl rfl ?_)
  refine op0 ?_
  show AWP _ _ _ _ _
  refine seqR ?_
  refine opG rfl (aop_build rfl rfl rfl pl25 rfl ?_)
  refine opG rfl (callW_ (r04_Make 0 0 0 0 0 0 0 0 (by decide) (by decide) (by decide) (by decide) (by decide) (by decide) (by decide) (by decide)) rfl rfl rfl rfl rfl bd29 (lends_cons (lend_agg (lends_cons (lend_n (av := .v (.int .u8 0))) (lends_cons (lend_n (av := .v (.int .u8 0))) (lends_cons (lend_n (av := .v (.int .u8 0))) (lends_cons (lend_n (av := .v (.int .u16 0))) (lends_cons (lend_n (av := .v (.int .u16 0))) (lends_cons (lend_n (av := .v (.int .u8 0))) (lends_cons (lend_n (av := .v (.int .u8 0))) (lends_cons (lend_n (av := .v (.int .u8 0))) (lends_cons (.one _ rfl) lends_nil)))))))))) lends_nil) ?_)
  refine opG rfl (aop_alloc 51 rfl rfl rfl rfl ze39 rfl ?_)
  refine opG rfl (aop_store rfl rfl rfl sz39 rfl rfl rfl rfl rfl (Nat.le_of_ble_eq_true rfl) rfl rfl ?_)
  refine op0 ?_
  show AWP _ _ _ _ _
  refine awp_imp ⟨(upd (upd none_ 0 (.v (.bool false))) 1 (.pt 51 0)), (updO (updO noOb 51 (.live ⟨[.v (.slice none 0 0), .v (.slice none 0 0), .v (.slice none 0 0), .v (.slice none 0 0), .v (.slice none 0 0), .v (.int .i64 0), .v (.int .i64 0), .v (.int .i64 0), .v (.int .i64 0), .v (.int .i64 0)], 39, 1⟩)) 51 (.live ⟨[.one, .ro ((mkSecs 0 0).length) (enc eSec (mkSecs 0 0)), .ro ((mkParts 0 0).length) (enc eIL (mkParts 0 0)), .ro ((mkPts 0).length) (enc ePnt (mkPts 0)), .v (.slice none 0 0), .v (.int .i64 (1 + 0 % (2 * (10 * (1 + 0 % 20))))), .v (.int .i64 (1 + 0 % 1000)), .v (.int .i64 (1 + 0 % 1000)), .v (.int .i64 (1 + 0)), .v (.int .i64 (0 % 4))], 39, 1⟩))⟩ (imp_le ⟨(lee_upd 1 _ rfl (lee_upd 0 _ rfl (lee_none _))), fun _ => .inl rfl⟩) ?_
  refine awp_seq ?_
  refine awp_draw (m := 6) [(10, .ro ((ofK (mkParts 0 0) (List.replicate ((mkParts 0 0).length) (-1)) ([] : List View) (mkSecs 0 0).length).length) (enc eU8 (ofK (mkParts 0 0) (List.replicate ((mkParts 0 0).length) (-1)) ([] : List View) (mkSecs 0 0).length))), (9, .ro ((List.replicate ((mkParts 0 0).length) (-1 : Int)).length) (enc eI (List.replicate ((mkParts 0 0).length) (-1)))), (8, .v (.int .i64 ((mkParts 0 0).length : Int))), (7, .ro ((mkParts 0 0).length) (enc eIL (mkParts 0 0))), (6, .pt 51 2), (5, .agg [.one, .ro ((mkSecs 0 0).length) (enc eSec (mkSecs 0 0)), .ro ((mkParts 0 0).length) (enc eIL (mkParts 0 0)), .ro ((mkPts 0).length) (enc ePnt (mkPts 0)), .v (.slice none 0 0), .v (.int .i64 (1 + 0 % (2 * (10 * (1 + 0 % 20))))), .v (.int .i64 (1 + 0 % 1000)), .v (.int .i64 (1 + 0 % 1000)), .v (.int .i64 (1 + 0)), .v (.int .i64 (0 % 4))])] mixed (by kernel_rfl) ?_ ?_
  · refine ⟨?_, ?_, ?_, ?_, ?_, ?_, trivial⟩
    · exact ⟨5, rfl, blt_lt rfl, fun st hob hE => aop_ldB (cells' := [.one, .ro ((mkSecs 0 0).length) (enc eSec (mkSecs 0 0)), .ro ((mkParts 0 0).length) (enc eIL (mkParts 0 0)), .ro ((mkPts 0).length) (enc ePnt (mkPts 0)), .v (.slice none 0 0), .v (.int .i64 (1 + 0 % (2 * (10 * (1 + 0 % 20))))), .v (.int .i64 (1 + 0 % 1000)), .v (.int .i64 (1 + 0 % 1000)), .v (.int .i64 (1 + 0)), .v (.int .i64 (0 % 4))]) rfl rfl rfl ag39 sz39 (hE 1 rfl) (by rw [hob]; rfl) rfl rfl (by rw [hob]; rfl)⟩
    · exact ⟨6, rfl, blt_lt rfl, fun st hob hE => aop_fieldAddr (av := .pt 51 0) (av' := .pt 51 2) rfl rfl rfl ft39_2 sz36 (hE 1 rfl) rfl rfl (by rw [hob]; rfl)⟩
    · exact ⟨7, rfl, blt_lt rfl, fun st hob hE => aop_ld (av := .ro ((mkParts 0 0).length) (enc eIL (mkParts 0 0))) rfl rfl rfl ag36 (hE 6 rfl) (by rw [hob]; rfl) (by rw [hob]; rfl)⟩
    · exact ⟨8, rfl, blt_lt rfl, fun st hob hE => aop_len rfl rfl rfl rfl ut36 (len_ro (hE 7 rfl)) (by rw [hob]; rfl)⟩
    · exact ⟨9, rfl, blt_lt rfl, fun st hob hE => call_ (o_Start (mkParts 0 0).length (by omega)) rfl rfl rfl rfl rfl bd24 (by show [st.env 8] ++ _ = _; rw [hE 8 rfl]; rfl) (by rw [hob]; rfl)⟩
    · exact ⟨10, rfl, blt_lt rfl, fun st hob hE => callW_ (s_Of (mkSecs 0 0) (mkParts 0 0) (List.replicate (mkParts 0 0).length (-1 : Int)) [] (by omega) (by omega) (by decide) (by rw [List.length_replicate]; omega) (by decide) (fun v h => by cases h)) rfl rfl rfl rfl rfl bd16 (by show Lends _ ([st.env 5, st.env 9, evA st.env (.const (.slice none 0 0))] ++ _) _; rw [hE 5 rfl, hE 9 rfl]; exact (lends_cons (lend_agg (lends_cons (lend_n (av := .one)) (lends_cons (lend_n (av := .ro ((mkSecs 0 0).length) (enc eSec (mkSecs 0 0)))) (lends_cons (lend_n (av := .ro ((mkParts 0 0).length) (enc eIL (mkParts 0 0)))) (lends_cons (.one _ rfl) (lends_cons (.one _ rfl) (lends_cons (.one _ rfl) (lends_cons (.one _ rfl) (lends_cons (.one _ rfl) (lends_cons (.one _ rfl) (lends_cons (.one _ rfl) lends_nil))))))))))) (lends_cons (lend_n (av := .ro ((List.replicate ((mkParts 0 0).length) (-1 : Int)).length) (enc eI (List.replicate ((mkParts 0 0).length) (-1))))) (lends_cons .nil lends_nil)))) (by rw [hob]; rfl)⟩
  refine opG rfl (aop_move (av := .ro ((ofK (mkParts 0 0) (List.replicate ((mkParts 0 0).length) (-1)) ([] : List View) (mkSecs 0 0).length).length) (enc eU8 (ofK (mkParts 0 0) (List.replicate ((mkParts 0 0).length) (-1)) ([] : List View) (mkSecs 0 0).length))) (.inr rfl) rfl rfl rfl ?_)
  refine op0 ?_
  show AWP _ _ _ _ _
  refine seqR ?_
  refine opG rfl (call_ (show Fn Tryd.prog 22 [.v (.int .u8 0), .v (.int .u8 1)] (.v (.int .u8 2)) from (by have h_ := s_Kind 0 1 (by decide) (by decide); rw [show kindI 0 1 = 2 by decide] at h_; exact h_)) rfl rfl rfl rfl rfl bd22 rfl ?_)
  refine opG rfl (aop_binI (u := (.bool ((2 : Int) == 2))) rfl rfl rfl rfl rfl trivial rfl ?_)
  refine opG rfl (aop_move (av := .v (.bool ((2 : Int) == 2))) (.inl rfl) rfl rfl rfl ?_)
  refine aops_grp 4 17 (.v (.bool (((2 : Int) == 2) && (decide ((ofK (mkParts 0 0) (List.replicate ((mkParts 0 0).length) (-1)) ([] : List View) (mkSecs 0 0).length) = [(3 : Int), (3 : Int), (3 : Int)]))))) ?_ ?_
  · rcases Bool.eq_false_or_eq_true ((2 : Int) == 2) with hg1 | hg1
    · skip
      have hf2 := (beq_iff_eq).1 hg1
      refine opY rfl rfl rfl (by show AV.v (.bool ((2 : Int) == 2)) = _; rw [hg1]) (aop_move (av := .ro ((ofK (mkParts 0 0) (List.replicate ((mkParts 0 0).length) (-1)) ([] : List View) (mkSecs 0 0).length).length) (enc eU8 (ofK (mkParts 0 0) (List.replicate ((mkParts 0 0).length) (-1)) ([] : List View) (mkSecs 0 0).length))) (.inl rfl) rfl rfl rfl ?_)
      refine opY rfl rfl rfl (by show AV.v (.bool ((2 : Int) == 2)) = _; rw [hg1]) (aop_lit rfl rfl rfl ut26 iz5 (by decide) (by decide) rfl rfl ?_)
      refine opY rfl rfl rfl (by show AV.v (.bool ((2 : Int) == 2)) = _; rw [hg1]) (call_ (r01_Bytes (ofK (mkParts 0 0) (List.replicate ((mkParts 0 0).length) (-1)) ([] : List View) (mkSecs 0 0).length) [(3 : Int), (3 : Int), (3 : Int)] (by first | omega | (simp; done) | decide | (simp; omega) | (simp at *; omega))) rfl rfl rfl rfl rfl bd15 rfl ?_)
      refine opG rfl (aop_pick (b := ((2 : Int) == 2)) rfl rfl rfl rfl (by rw [hg1] <;> rfl) ?_)
      refine op0 ?_
      exact imp_env (lee_both 17 _ _ (by rw [hg1] <;> rfl) (lee_out 16 _ rfl (lee_out 15 _ rfl (lee_out 14 _ rfl (lee_same _)))))
    · skip
      have hf3 := (beq_eq_false_iff_ne).1 hg1
      refine opN rfl rfl rfl rfl (by show yv (.bool ((2 : Int) == 2)) ≠ _; rw [hg1]; intro h; cases h) rfl rfl ?_
      refine opN rfl rfl rfl rfl (by show yv (.bool ((2 : Int) == 2)) ≠ _; rw [hg1]; intro h; cases h) rfl rfl ?_
      refine opN rfl rfl rfl rfl (by show yv (.bool ((2 : Int) == 2)) ≠ _; rw [hg1]; intro h; cases h) rfl rfl ?_
      refine opG rfl (aop_pick (b := ((2 : Int) == 2)) rfl rfl rfl rfl (by rw [hg1] <;> rfl) ?_)
      refine op0 ?_
      exact imp_env (lee_both 17 _ _ (by rw [hg1] <;> rfl) (lee_out 16 _ rfl (lee_out 15 _ rfl (lee_out 14 _ rfl (lee_same _)))))
  refine opG rfl (aop_move (av := .v (.bool (((2 : Int) == 2) && (decide ((ofK (mkParts 0 0) (List.replicate ((mkParts 0 0).length) (-1)) ([] : List View) (mkSecs 0 0).length) = [(3 : Int), (3 : Int), (3 : Int)]))))) (.inr rfl) rfl rfl rfl ?_)
  refine op0 ?_
  show AWP _ _ _ _ _
  refine awp_imp ⟨(upd none_ 0 (.v (.bool (((2 : Int) == 2) && (decide ((ofK (mkParts 0 0) (List.replicate ((mkParts 0 0).length) (-1)) ([] : List View) (mkSecs 0 0).length) = [(3 : Int), (3 : Int), (3 : Int)])))))), (updO (updO noOb 51 (.live ⟨[.v (.slice none 0 0), .v (.slice none 0 0), .v (.slice none 0 0), .v (.slice none 0 0), .v (.slice none 0 0), .v (.int .i64 0), .v (.int .i64 0), .v (.int .i64 0), .v (.int .i64 0), .v (.int .i64 0)], 39, 1⟩)) 51 (.live ⟨[.one, .ro ((mkSecs 0 0).length) (enc eSec (mkSecs 0 0)), .ro ((mkParts 0 0).length) (enc eIL (mkParts 0 0)), .ro ((mkPts 0).length) (enc ePnt (mkPts 0)), .v (.slice none 0 0), .v (.int .i64 (1 + 0 % (2 * (10 * (1 + 0 % 20))))), .v (.int .i64 (1 + 0 % 1000)), .v (.int .i64 (1 + 0 % 1000)), .v (.int .i64 (1 + 0)), .v (.int .i64 (0 % 4))], 39, 1⟩))⟩ (imp_le ⟨(lee_upd 0 _ rfl (lee_none _)), fun _ => .inl rfl⟩) ?_
  refine awp_ret ?_
  exact fret (av := .v (.bool (((2 : Int) == 2) && (decide ((ofK (mkParts 0 0) (List.replicate ((mkParts 0 0).length) (-1)) ([] : List View) (mkSecs 0 0).length) = [(3 : Int), (3 : Int), (3 : Int)]))))) rfl rfl (congrArg (fun b => AV.v (.bool b)) (by decide))

set_option maxRecDepth 10000 in
set_option maxHeartbeats 16000000 in
theorem r01_Join (a b : List Int) (ha : a.length ≤ 65536) (hb : b.length ≤ 65536) : FnO Tryd.prog 25 [.ro a.length (enc eU8 a), .ro b.length (enc eU8 b)] (.sl 0 0 ((a ++ b).length)) [⟨(enc eU8 (a ++ b)), 5, 1⟩] := by
  refine fnE_of_body (N := 12) Tryd.func25 rfl rfl (resOf1 rfl) (by simp) (fun w0 X hL_ => ?_)
  refine seqR ?_
  refine opG rfl (aop_move (av := .v (.slice none 0 0)) (.inr rfl) rfl rfl rfl ?_)
  refine op0 ?_
  show AWP _ _ _ _ _
  refine seqR ?_
  refine opG rfl (aop_move (av := .v (.slice none 0 0)) (.inr rfl) rfl rfl rfl ?_)
  refine op0 ?_
  show AWP _ _ _ _ _
  refine seqR ?_
  refine opG rfl (aop_move (av := .v (.slice none 0 0)) (.inl rfl) rfl rfl rfl ?_)
  refine opG rfl (aop_move (av := .ro a.length (enc eU8 a)) (.inl rfl) rfl rfl rfl ?_)
  refine opG rfl (aop_adopt 6 51 5 1 rfl rfl (aop_appE (f := eU8) (l := ([] : List Int)) (l2 := a) 52 rfl rfl rfl rfl ut26 in5 rfl (by decide) rfl rfl rfl rfl rfl rfl (fun _ => rfl) rfl rfl rfl (by first | omega | (simp; done) | decide | (simp; omega) | (simp at *; omega)) (by first | omega | (simp; done) | decide | (simp; omega) | (simp at *; omega)) rfl ?_))
  refine opG rfl (aop_move (av := .sl 52 0 ((([] : List Int) ++ a).length)) (.inr rfl) rfl rfl rfl ?_)
  refine op0 ?_
  show AWP _ _ _ _ _
  refine awp_imp ⟨(upd (upd (upd none_ 1 (.ro b.length (enc eU8 b))) 4 (.v (.slice none 0 0))) 5 (.sl 52 0 ((([] : List Int) ++ a).length))), (updO (updO (updO noOb 51 (.live ⟨[], 5, 1⟩)) 51 .dead) 52 (.live ⟨(enc eU8 (([] : List Int) ++ a)), 5, 1⟩))⟩ (imp_le ⟨(lee_upd 5 _ rfl (lee_upd 4 _ rfl (lee_upd 1 _ rfl (lee_none _)))), fun _ => .inl rfl⟩) ?_
  refine seqR ?_
  refine opG rfl (aop_move (av := .sl 52 0 ((([] : List Int) ++ a).length)) (.inl rfl) rfl rfl rfl ?_)
  refine opG rfl (aop_move (av := .ro b.length (enc eU8 b)) (.inl rfl) rfl rfl rfl ?_)
  refine opG rfl (aop_appE (f := eU8) (l := ([] : List Int) ++ a) (l2 := b) 53 rfl rfl rfl rfl ut26 in5 rfl (by decide) rfl rfl rfl rfl rfl rfl (fun _ => rfl) rfl rfl rfl (by first | omega | (simp; done) | decide | (simp; omega) | (simp at *; omega)) (by first | omega | (simp; done) | decide | (simp; omega) | (simp at *; omega)) rfl ?_)
  refine opG rfl (aop_move (av := .sl 53 0 (((([] : List Int) ++ a) ++ b).length)) (.inr rfl) rfl rfl rfl ?_)
  refine op0 ?_
  show AWP _ _ _ _ _
  refine awp_imp ⟨(upd none_ 4 (.sl 53 0 (((([] : List Int) ++ a) ++ b).length))), (updO (updO (updO (updO (updO noOb 51 (.live ⟨[], 5, 1⟩)) 51 .dead) 52 (.live ⟨(enc eU8 (([] : List Int) ++ a)), 5, 1⟩)) 52 .dead) 53 (.live ⟨(enc eU8 ((([] : List Int) ++ a) ++ b)), 5, 1⟩))⟩ (imp_le ⟨(lee_upd 4 _ rfl (lee_none _)), fun _ => .inl rfl⟩) ?_
  refine awp_ret ?_
  exact fretO 53 rfl rfl rfl rfl rfl
end Go.Lo
