/- Walks of Go functions in the logic of values. -/
import Derived.Test.YtpgbplgljfjhnaaFnNTy
import Derived.Test.YtpgbplgljfjhnaaDef
import Derived.Test.YtpgbplgljfjhnaaLay
import Derived.Test.YtpgbplgljfjhnaaGr
import Derived.Test.YtpgbplgljfjhnaaCh
import Derived.Test.YtpgbplgljfjhnaaIns
import Derived.Test.YtpgbplgljfjhnaaDr
import Derived.Test.YtpgbplgljfjhnaaSp
import Derived.Test.YtpgbplgljfjhnaaFnA
import Derived.Test.YtpgbplgljfjhnaaFnC
import Derived.Test.YtpgbplgljfjhnaaFnM
import Derived.Test.YtpgbplgljfjhnaaFnF
import Derived.Test.YtpgbplgljfjhnaaFnG
import Derived.Test.YtpgbplgljfjhnaaFnH
import Derived.Test.YtpgbplgljfjhnaaFnI
set_option linter.unusedVariables false
set_option linter.unusedSimpArgs false
namespace Go.Lo
open Go.Proofs
set_option maxRecDepth 10000 in
set_option maxHeartbeats 16000000 in
theorem r01_Rise (l : List Int) (hl : l.length ≤ 65536) : Fn Try.prog 15 [.ro l.length (enc eI l)] (.ro ((riseL l).length) (enc eI (riseL l))) := by
  refine fnE_of_body (N := 54) Try.func15 rfl rfl (resOf1 rfl) (by simp) (fun w0 X hL_ => ?_)
  refine seqR ?_
  refine opG rfl (aop_move (av := .v (.slice none 0 0)) (.inr rfl) rfl rfl rfl ?_)
  refine op0 ?_
  show AWP _ _ _ _ _
  refine seqR ?_
  refine opG rfl (aop_move (av := .v (.slice none 0 0)) (.inr rfl) rfl rfl rfl ?_)
  refine op0 ?_
  show AWP _ _ _ _ _
  refine awp_block ?_
  refine awp_countI (fun k => ⟨(upd (upd (upd none_ 0 (.q eI l)) 2 (.v (.slice none 0 0))) 3 (.sl 1 0 ((riseK l k).length))), (updO noOb 1 (.live ⟨(enc eI (riseK l k)), 3, 1⟩))⟩) (fun k => (riseK l k).length = k ∧ k ≤ l.length) (l.length + 1) ?_ ⟨rfl, Nat.zero_le _⟩ (fun k hk_k hinv => ?_)
  · skip
    refine (imp_adopt 3 51 3 1 rfl rfl).trans ?_
    exact imp_ler [(51, 1)] (lerI 51 1 (o := ⟨[], 3, 1⟩) rfl rfl (sM rfl (sS rfl (sS rfl sr_none)))) (keep_of rfl)
  have hk1 := hinv.1
  have hk2 := hinv.2
  refine awp_block ?_
  refine seqR ?_
  refine opG rfl (aop_move (av := .i (-1)) (.inr rfl) rfl rfl rfl ?_)
  refine op0 ?_
  show AWP _ _ _ _ _
  refine awp_seq ?_
  refine seqR ?_
  refine opG rfl (aop_move (av := .i 0) (.inr rfl) rfl rfl rfl ?_)
  refine op0 ?_
  show AWP _ _ _ _ _
  refine awp_block ?_
  refine awp_countI (fun i => ⟨(upd (upd (upd (upd (upd none_ 0 (.q eI l)) 2 (.v (.slice none 0 0))) 3 (.sl 1 0 ((riseK l k).length))) 4 (.i (bestK l (riseK l k) i))) 5 (.i (i : Int))), (updO noOb 1 (.live ⟨(enc eI (riseK l k)), 3, 1⟩))⟩) (fun i => True) (l.length) ?_ trivial (fun i hk_i hinv => ?_)
  · skip
    exact imp_ler [(1, 1)] (lerI 1 1 rfl rfl (sS rfl (sS rfl (sM rfl (sS rfl (sS rfl sr_none)))))) (keep_of rfl)
  have hix : (((riseK l k).length : Int) - 1).toNat = (riseK l k).length - 1 := by omega
  have hbr := bestK_range l (riseK l k) i
  refine awp_seq ?_
  refine seqR ?_
  refine opG rfl (aop_move (av := .i (i : Int)) (.inl rfl) rfl rfl rfl ?_)
  refine opG rfl (aop_move (av := .q eI l) (.inl rfl) rfl rfl rfl ?_)
  refine opG rfl (aop_len rfl rfl rfl rfl ut38 (len_ro rfl) ?_)
  refine opG rfl (aop_binI (u := (.bool (decide ((i : Int) < (l.length : Int))))) rfl rfl rfl rfl rfl trivial rfl ?_)
  refine op0 ?_
  show AWP _ _ _ _ _
  refine rs_ (upd (upd (upd (upd (upd (upd none_ 0 (.q eI l)) 2 (.v (.slice none 0 0))) 3 (.sl 1 0 ((riseK l k).length))) 4 (.i (bestK l (riseK l k) i))) 5 (.i (i : Int))) 9 (.b (decide ((i : Int) < (l.length : Int))))) (updO noOb 1 (.live ⟨(enc eI (riseK l k)), 3, 1⟩)) (lu rfl (lu rfl (lu rfl (lu rfl (lu rfl (lu rfl ln)))))) rfl ?_
  refine awp_cond (decide ((i : Int) < (l.length : Int))) rfl rfl (fun hc0 => ?_) (fun hc0 => ?_)
  · skip
    have hf1 := of_decide_eq_true hc0
    refine awp_skip ?_
    show AWP _ _ _ _ _
    refine awp_seq ?_
    refine awp_block ?_
    refine awp_seq ?_
    refine (Bool.eq_false_or_eq_true (((riseK l k).length : Int) == 0)).elim (fun hg2 => ?_) (fun hg2 => ?_)
    · skip
      have hf3 := (beq_iff_eq).1 hg2
      refine (Bool.eq_false_or_eq_true (decide ((bestK l (riseK l k) i) < 0))).elim (fun hg4 => ?_) (fun hg4 => ?_)
      · skip
        have hf5 := of_decide_eq_true hg4
        refine awp_draw (m := 31) [(42, .b true), (41, .b true), (40, .v undef), (39, .v undef), (38, .v undef), (37, .v undef), (36, .v undef), (35, .v undef), (34, .v undef), (33, .v undef), (32, .v undef), (31, .b (decide ((bestK l (riseK l k) i) < 0))), (30, .b (decide ((bestK l (riseK l k) i) < 0))), (29, .i (bestK l (riseK l k) i)), (28, .b true), (27, .b true), (26, .v undef), (25, .v undef), (24, .v undef), (23, .v undef), (22, .v undef), (21, .v undef), (20, .v undef), (19, .v undef), (18, .v undef), (17, .v undef), (16, .v undef), (15, .b (((riseK l k).length : Int) == 0)), (14, .b (((riseK l k).length : Int) == 0)), (13, .i ((riseK l k).length : Int)), (12, .sl 1 0 ((riseK l k).length))] mixed (by kernel_rfl) ?_ ?_
        · refine ⟨?_, ?_, ?_, ?_, ?_, ?_, ?_, ?_, ?_, ?_, ?_, ?_, ?_, ?_, ?_, ?_, ?_, ?_, ?_, ?_, ?_, ?_, ?_, ?_, ?_, ?_, ?_, ?_, ?_, ?_, ?_, trivial⟩
          · exact ⟨12, rfl, blt_lt rfl, fun st hob hE => aop_move (av := .sl 1 0 ((riseK l k).length)) (.inl rfl) rfl rfl (hE 3 rfl) (by rw [hob]; rfl)⟩
          · exact ⟨13, rfl, blt_lt rfl, fun st hob hE => aop_len rfl rfl rfl rfl ut38 (len_sl (hE 12 rfl)) (by rw [hob]; rfl)⟩
          · exact ⟨14, rfl, blt_lt rfl, fun st hob hE => aop_binI (u := (.bool (((riseK l k).length : Int) == 0))) rfl rfl rfl (hE 13 rfl) rfl trivial rfl (by rw [hob]; rfl)⟩
          · exact ⟨15, rfl, blt_lt rfl, fun st hob hE => aop_move (av := .b (((riseK l k).length : Int) == 0)) (.inl rfl) rfl rfl (hE 14 rfl) (by rw [hob]; rfl)⟩
          · exact ⟨15, .bool (((riseK l k).length : Int) == 0), rfl, blt_lt rfl, rfl, (fun h => absurd h (by show yv (.bool (((riseK l k).length : Int) == 0)) ≠ _; rw [hg2]; intro h; cases h)), (fun _ => ⟨16, rfl, blt_lt rfl, .inr rfl⟩)⟩
          · exact ⟨15, .bool (((riseK l k).length : Int) == 0), rfl, blt_lt rfl, rfl, (fun h => absurd h (by show yv (.bool (((riseK l k).length : Int) == 0)) ≠ _; rw [hg2]; intro h; cases h)), (fun _ => ⟨17, rfl, blt_lt rfl, .inr rfl⟩)⟩
          · exact ⟨15, .bool (((riseK l k).length : Int) == 0), rfl, blt_lt rfl, rfl, (fun h => absurd h (by show yv (.bool (((riseK l k).length : Int) == 0)) ≠ _; rw [hg2]; intro h; cases h)), (fun _ => ⟨18, rfl, blt_lt rfl, .inr rfl⟩)⟩
          · exact ⟨15, .bool (((riseK l k).length : Int) == 0), rfl, blt_lt rfl, rfl, (fun h => absurd h (by show yv (.bool (((riseK l k).length : Int) == 0)) ≠ _; rw [hg2]; intro h; cases h)), (fun _ => ⟨19, rfl, blt_lt rfl, .inr rfl⟩)⟩
          · exact ⟨15, .bool (((riseK l k).length : Int) == 0), rfl, blt_lt rfl, rfl, (fun h => absurd h (by show yv (.bool (((riseK l k).length : Int) == 0)) ≠ _; rw [hg2]; intro h; cases h)), (fun _ => ⟨20, rfl, blt_lt rfl, .inr rfl⟩)⟩
          · exact ⟨15, .bool (((riseK l k).length : Int) == 0), rfl, blt_lt rfl, rfl, (fun h => absurd h (by show yv (.bool (((riseK l k).length : Int) == 0)) ≠ _; rw [hg2]; intro h; cases h)), (fun _ => ⟨21, rfl, blt_lt rfl, .inr rfl⟩)⟩
          · exact ⟨15, .bool (((riseK l k).length : Int) == 0), rfl, blt_lt rfl, rfl, (fun h => absurd h (by show yv (.bool (((riseK l k).length : Int) == 0)) ≠ _; rw [hg2]; intro h; cases h)), (fun _ => ⟨22, rfl, blt_lt rfl, .inr rfl⟩)⟩
          · exact ⟨15, .bool (((riseK l k).length : Int) == 0), rfl, blt_lt rfl, rfl, (fun h => absurd h (by show yv (.bool (((riseK l k).length : Int) == 0)) ≠ _; rw [hg2]; intro h; cases h)), (fun _ => ⟨23, rfl, blt_lt rfl, .inr rfl⟩)⟩
          · exact ⟨15, .bool (((riseK l k).length : Int) == 0), rfl, blt_lt rfl, rfl, (fun h => absurd h (by show yv (.bool (((riseK l k).length : Int) == 0)) ≠ _; rw [hg2]; intro h; cases h)), (fun _ => ⟨24, rfl, blt_lt rfl, .inr rfl⟩)⟩
          · exact ⟨15, .bool (((riseK l k).length : Int) == 0), rfl, blt_lt rfl, rfl, (fun h => absurd h (by show yv (.bool (((riseK l k).length : Int) == 0)) ≠ _; rw [hg2]; intro h; cases h)), (fun _ => ⟨25, rfl, blt_lt rfl, .inr rfl⟩)⟩
          · exact ⟨15, .bool (((riseK l k).length : Int) == 0), rfl, blt_lt rfl, rfl, (fun h => absurd h (by show yv (.bool (((riseK l k).length : Int) == 0)) ≠ _; rw [hg2]; intro h; cases h)), (fun _ => ⟨26, rfl, blt_lt rfl, .inr rfl⟩)⟩
          · exact ⟨27, rfl, blt_lt rfl, fun st hob hE => aop_pick (b := (((riseK l k).length : Int) == 0)) (av := .b true) rfl rfl rfl (hE 15 rfl) (by rw [hg2]; rfl) (by rw [hob]; rfl)⟩
          · exact ⟨28, rfl, blt_lt rfl, fun st hob hE => aop_move (av := .b true) (.inl rfl) rfl rfl (hE 27 rfl) (by rw [hob]; rfl)⟩
          · exact ⟨28, .bool true, rfl, blt_lt rfl, rfl, (fun _ => ⟨29, rfl, blt_lt rfl, fun st hob hE => aop_move (av := .i (bestK l (riseK l k) i)) (.inl rfl) rfl rfl (hE 4 rfl) (by rw [hob]; rfl)⟩), (fun h => absurd rfl h)⟩
          · exact ⟨28, .bool true, rfl, blt_lt rfl, rfl, (fun _ => ⟨30, rfl, blt_lt rfl, fun st hob hE => aop_binI (u := (.bool (decide ((bestK l (riseK l k) i) < 0)))) rfl rfl rfl (hE 29 rfl) rfl trivial rfl (by rw [hob]; rfl)⟩), (fun h => absurd rfl h)⟩
          · exact ⟨28, .bool true, rfl, blt_lt rfl, rfl, (fun _ => ⟨31, rfl, blt_lt rfl, fun st hob hE => aop_move (av := .b (decide ((bestK l (riseK l k) i) < 0))) (.inl rfl) rfl rfl (hE 30 rfl) (by rw [hob]; rfl)⟩), (fun h => absurd rfl h)⟩
          · exact ⟨31, .bool (decide ((bestK l (riseK l k) i) < 0)), rfl, blt_lt rfl, rfl, (fun h => absurd h (by show yv (.bool (decide ((bestK l (riseK l k) i) < 0))) ≠ _; rw [hg4]; intro h; cases h)), (fun _ => ⟨32, rfl, blt_lt rfl, .inr rfl⟩)⟩
          · exact ⟨31, .bool (decide ((bestK l (riseK l k) i) < 0)), rfl, blt_lt rfl, rfl, (fun h => absurd h (by show yv (.bool (decide ((bestK l (riseK l k) i) < 0))) ≠ _; rw [hg4]; intro h; cases h)), (fun _ => ⟨33, rfl, blt_lt rfl, .inr rfl⟩)⟩
          · exact ⟨31, .bool (decide ((bestK l (riseK l k) i) < 0)), rfl, blt_lt rfl, rfl, (fun h => absurd h (by show yv (.bool (decide ((bestK l (riseK l k) i) < 0))) ≠ _; rw [hg4]; intro h; cases h)), (fun _ => ⟨34, rfl, blt_lt rfl, .inr rfl⟩)⟩
          · exact ⟨31, .bool (decide ((bestK l (riseK l k) i) < 0)), rfl, blt_lt rfl, rfl, (fun h => absurd h (by show yv (.bool (decide ((bestK l (riseK l k) i) < 0))) ≠ _; rw [hg4]; intro h; cases h)), (fun _ => ⟨35, rfl, blt_lt rfl, .inr rfl⟩)⟩
          · exact ⟨31, .bool (decide ((bestK l (riseK l k) i) < 0)), rfl, blt_lt rfl, rfl, (fun h => absurd h (by show yv (.bool (decide ((bestK l (riseK l k) i) < 0))) ≠ _; rw [hg4]; intro h; cases h)), (fun _ => ⟨36, rfl, blt_lt rfl, .inr rfl⟩)⟩
          · exact ⟨31, .bool (decide ((bestK l (riseK l k) i) < 0)), rfl, blt_lt rfl, rfl, (fun h => absurd h (by show yv (.bool (decide ((bestK l (riseK l k) i) < 0))) ≠ _; rw [hg4]; intro h; cases h)), (fun _ => ⟨37, rfl, blt_lt rfl, .inr rfl⟩)⟩
          · exact ⟨31, .bool (decide ((bestK l (riseK l k) i) < 0)), rfl, blt_lt rfl, rfl, (fun h => absurd h (by show yv (.bool (decide ((bestK l (riseK l k) i) < 0))) ≠ _; rw [hg4]; intro h; cases h)), (fun _ => ⟨38, rfl, blt_lt rfl, .inr rfl⟩)⟩
          · exact ⟨31, .bool (decide ((bestK l (riseK l k) i) < 0)), rfl, blt_lt rfl, rfl, (fun h => absurd h (by show yv (.bool (decide ((bestK l (riseK l k) i) < 0))) ≠ _; rw [hg4]; intro h; cases h)), (fun _ => ⟨39, rfl, blt_lt rfl, .inr rfl⟩)⟩
          · exact ⟨31, .bool (decide ((bestK l (riseK l k) i) < 0)), rfl, blt_lt rfl, rfl, (fun h => absurd h (by show yv (.bool (decide ((bestK l (riseK l k) i) < 0))) ≠ _; rw [hg4]; intro h; cases h)), (fun _ => ⟨40, rfl, blt_lt rfl, .inr rfl⟩)⟩
          · exact ⟨28, .bool true, rfl, blt_lt rfl, rfl, (fun _ => ⟨41, rfl, blt_lt rfl, fun st hob hE => aop_pick (b := (decide ((bestK l (riseK l k) i) < 0))) (av := .b true) rfl rfl rfl (hE 31 rfl) (by rw [hg4]; rfl) (by rw [hob]; rfl)⟩), (fun h => absurd rfl h)⟩
          · exact ⟨42, rfl, blt_lt rfl, fun st hob hE => aop_pick (b := true) (av := .b true) rfl rfl rfl (hE 28 rfl) (hE 41 rfl) (by rw [hob]; rfl)⟩
        refine op0 ?_
        show AWP _ _ _ _ _
        refine awp_cond true rfl rfl (fun _ => ?_) (fun h => by cases h)
        refine regR ?_
        refine opG rfl (aop_move (av := .i (i : Int)) (.inl rfl) rfl rfl rfl ?_)
        refine opG rfl (aop_move (av := .i (i : Int)) (.inr rfl) rfl rfl rfl ?_)
        refine op0 ?_
        show AWP _ _ _ _ _
        refine regR ?_
        refine opG rfl (aop_move (av := .i (i : Int)) (.inl rfl) rfl rfl rfl ?_)
        refine opG rfl (aop_binI (u := (.int .i64 ((i + 1 : Nat) : Int))) rfl rfl rfl rfl rfl trivial (addN (by omega)) ?_)
        refine opG rfl (aop_move (av := .i ((i + 1 : Nat) : Int)) (.inr rfl) rfl rfl rfl ?_)
        refine op0 ?_
        show _ ∧ _
        refine ⟨by omega, trivial, ?_⟩
        exact imp_ler [(1, 1)] (lerI 1 1 rfl rfl (sS rfl (sS (by exact congrArg (fun n_ : Int => AV.v (.int .i64 n_)) (by first | exact (bestK_on (by simp only [riseC, Bool.and_eq_true, Bool.or_eq_true, Bool.and_eq_false_iff, Bool.or_eq_false_iff, decide_eq_true_eq, decide_eq_false_iff_not]; rw [← hix]; omega)).symm | exact (bestK_off (by simp only [riseC, Bool.and_eq_true, Bool.or_eq_true, Bool.and_eq_false_iff, Bool.or_eq_false_iff, decide_eq_true_eq, decide_eq_false_iff_not]; rw [← hix]; omega)).symm)) (sM rfl (sS rfl (sS rfl sr_none)))))) (keep_of rfl)
      · skip
        have hf6 := of_decide_eq_false hg4
        refine awp_draw (m := 31) [(42, .b (decide ((l.getD i 0) < (l.getD (bestK l (riseK l k) i).toNat 0)))), (41, .b (decide ((l.getD i 0) < (l.getD (bestK l (riseK l k) i).toNat 0)))), (40, .b (decide ((l.getD i 0) < (l.getD (bestK l (riseK l k) i).toNat 0)))), (39, .i (l.getD (bestK l (riseK l k) i).toNat 0)), (38, .rp (([.i (l.getD (bestK l (riseK l k) i).toNat 0)] : List AV) ++ ((enc eI l).drop (((bestK l (riseK l k) i).toNat + 1) * 1)))), (37, .i (bestK l (riseK l k) i)), (36, .q eI l), (35, .i (l.getD i 0)), (34, .rp (([.i (l.getD i 0)] : List AV) ++ ((enc eI l).drop ((i + 1) * 1)))), (33, .i (i : Int)), (32, .q eI l), (31, .b (decide ((bestK l (riseK l k) i) < 0))), (30, .b (decide ((bestK l (riseK l k) i) < 0))), (29, .i (bestK l (riseK l k) i)), (28, .b true), (27, .b true), (26, .v undef), (25, .v undef), (24, .v undef), (23, .v undef), (22, .v undef), (21, .v undef), (20, .v undef), (19, .v undef), (18, .v undef), (17, .v undef), (16, .v undef), (15, .b (((riseK l k).length : Int) == 0)), (14, .b (((riseK l k).length : Int) == 0)), (13, .i ((riseK l k).length : Int)), (12, .sl 1 0 ((riseK l k).length))] mixed (by kernel_rfl) ?_ ?_
        · refine ⟨?_, ?_, ?_, ?_, ?_, ?_, ?_, ?_, ?_, ?_, ?_, ?_, ?_, ?_, ?_, ?_, ?_, ?_, ?_, ?_, ?_, ?_, ?_, ?_, ?_, ?_, ?_, ?_, ?_, ?_, ?_, trivial⟩
          · exact ⟨12, rfl, blt_lt rfl, fun st hob hE => aop_move (av := .sl 1 0 ((riseK l k).length)) (.inl rfl) rfl rfl (hE 3 rfl) (by rw [hob]; rfl)⟩
          · exact ⟨13, rfl, blt_lt rfl, fun st hob hE => aop_len rfl rfl rfl rfl ut38 (len_sl (hE 12 rfl)) (by rw [hob]; rfl)⟩
          · exact ⟨14, rfl, blt_lt rfl, fun st hob hE => aop_binI (u := (.bool (((riseK l k).length : Int) == 0))) rfl rfl rfl (hE 13 rfl) rfl trivial rfl (by rw [hob]; rfl)⟩
          · exact ⟨15, rfl, blt_lt rfl, fun st hob hE => aop_move (av := .b (((riseK l k).length : Int) == 0)) (.inl rfl) rfl rfl (hE 14 rfl) (by rw [hob]; rfl)⟩
          · exact ⟨15, .bool (((riseK l k).length : Int) == 0), rfl, blt_lt rfl, rfl, (fun h => absurd h (by show yv (.bool (((riseK l k).length : Int) == 0)) ≠ _; rw [hg2]; intro h; cases h)), (fun _ => ⟨16, rfl, blt_lt rfl, .inr rfl⟩)⟩
          · exact ⟨15, .bool (((riseK l k).length : Int) == 0), rfl, blt_lt rfl, rfl, (fun h => absurd h (by show yv (.bool (((riseK l k).length : Int) == 0)) ≠ _; rw [hg2]; intro h; cases h)), (fun _ => ⟨17, rfl, blt_lt rfl, .inr rfl⟩)⟩
          · exact ⟨15, .bool (((riseK l k).length : Int) == 0), rfl, blt_lt rfl, rfl, (fun h => absurd h (by show yv (.bool (((riseK l k).length : Int) == 0)) ≠ _; rw [hg2]; intro h; cases h)), (fun _ => ⟨18, rfl, blt_lt rfl, .inr rfl⟩)⟩
          · exact ⟨15, .bool (((riseK l k).length : Int) == 0), rfl, blt_lt rfl, rfl, (fun h => absurd h (by show yv (.bool (((riseK l k).length : Int) == 0)) ≠ _; rw [hg2]; intro h; cases h)), (fun _ => ⟨19, rfl, blt_lt rfl, .inr rfl⟩)⟩
          · exact ⟨15, .bool (((riseK l k).length : Int) == 0), rfl, blt_lt rfl, rfl, (fun h => absurd h (by show yv (.bool (((riseK l k).length : Int) == 0)) ≠ _; rw [hg2]; intro h; cases h)), (fun _ => ⟨20, rfl, blt_lt rfl, .inr rfl⟩)⟩
          · exact ⟨15, .bool (((riseK l k).length : Int) == 0), rfl, blt_lt rfl, rfl, (fun h => absurd h (by show yv (.bool (((riseK l k).length : Int) == 0)) ≠ _; rw [hg2]; intro h; cases h)), (fun _ => ⟨21, rfl, blt_lt rfl, .inr rfl⟩)⟩
          · exact ⟨15, .bool (((riseK l k).length : Int) == 0), rfl, blt_lt rfl, rfl, (fun h => absurd h (by show yv (.bool (((riseK l k).length : Int) == 0)) ≠ _; rw [hg2]; intro h; cases h)), (fun _ => ⟨22, rfl, blt_lt rfl, .inr rfl⟩)⟩
          · exact ⟨15, .bool (((riseK l k).length : Int) == 0), rfl, blt_lt rfl, rfl, (fun h => absurd h (by show yv (.bool (((riseK l k).length : Int) == 0)) ≠ _; rw [hg2]; intro h; cases h)), (fun _ => ⟨23, rfl, blt_lt rfl, .inr rfl⟩)⟩
          · exact ⟨15, .bool (((riseK l k).length : Int) == 0), rfl, blt_lt rfl, rfl, (fun h => absurd h (by show yv (.bool (((riseK l k).length : Int) == 0)) ≠ _; rw [hg2]; intro h; cases h)), (fun _ => ⟨24, rfl, blt_lt rfl, .inr rfl⟩)⟩
          · exact ⟨15, .bool (((riseK l k).length : Int) == 0), rfl, blt_lt rfl, rfl, (fun h => absurd h (by show yv (.bool (((riseK l k).length : Int) == 0)) ≠ _; rw [hg2]; intro h; cases h)), (fun _ => ⟨25, rfl, blt_lt rfl, .inr rfl⟩)⟩
          · exact ⟨15, .bool (((riseK l k).length : Int) == 0), rfl, blt_lt rfl, rfl, (fun h => absurd h (by show yv (.bool (((riseK l k).length : Int) == 0)) ≠ _; rw [hg2]; intro h; cases h)), (fun _ => ⟨26, rfl, blt_lt rfl, .inr rfl⟩)⟩
          · exact ⟨27, rfl, blt_lt rfl, fun st hob hE => aop_pick (b := (((riseK l k).length : Int) == 0)) (av := .b true) rfl rfl rfl (hE 15 rfl) (by rw [hg2]; rfl) (by rw [hob]; rfl)⟩
          · exact ⟨28, rfl, blt_lt rfl, fun st hob hE => aop_move (av := .b true) (.inl rfl) rfl rfl (hE 27 rfl) (by rw [hob]; rfl)⟩
          · exact ⟨28, .bool true, rfl, blt_lt rfl, rfl, (fun _ => ⟨29, rfl, blt_lt rfl, fun st hob hE => aop_move (av := .i (bestK l (riseK l k) i)) (.inl rfl) rfl rfl (hE 4 rfl) (by rw [hob]; rfl)⟩), (fun h => absurd rfl h)⟩
          · exact ⟨28, .bool true, rfl, blt_lt rfl, rfl, (fun _ => ⟨30, rfl, blt_lt rfl, fun st hob hE => aop_binI (u := (.bool (decide ((bestK l (riseK l k) i) < 0)))) rfl rfl rfl (hE 29 rfl) rfl trivial rfl (by rw [hob]; rfl)⟩), (fun h => absurd rfl h)⟩
          · exact ⟨28, .bool true, rfl, blt_lt rfl, rfl, (fun _ => ⟨31, rfl, blt_lt rfl, fun st hob hE => aop_move (av := .b (decide ((bestK l (riseK l k) i) < 0))) (.inl rfl) rfl rfl (hE 30 rfl) (by rw [hob]; rfl)⟩), (fun h => absurd rfl h)⟩
          · exact ⟨31, .bool (decide ((bestK l (riseK l k) i) < 0)), rfl, blt_lt rfl, rfl, (fun _ => ⟨32, rfl, blt_lt rfl, fun st hob hE => aop_move (av := .q eI l) (.inl rfl) rfl rfl (hE 0 rfl) (by rw [hob]; rfl)⟩), (fun h => absurd (show yv (.bool (decide ((bestK l (riseK l k) i) < 0))) = _ by rw [hg4]; rfl) h)⟩
          · exact ⟨31, .bool (decide ((bestK l (riseK l k) i) < 0)), rfl, blt_lt rfl, rfl, (fun _ => ⟨33, rfl, blt_lt rfl, fun st hob hE => aop_move (av := .i (i : Int)) (.inl rfl) rfl rfl (hE 5 rfl) (by rw [hob]; rfl)⟩), (fun h => absurd (show yv (.bool (decide ((bestK l (riseK l k) i) < 0))) = _ by rw [hg4]; rfl) h)⟩
          · exact ⟨31, .bool (decide ((bestK l (riseK l k) i) < 0)), rfl, blt_lt rfl, rfl, (fun _ => ⟨34, rfl, blt_lt rfl, fun st hob hE => aop_ixE 0 rfl rfl rfl ut38 sz3 (hE 32 rfl) (hE 33 rfl) (fun _ => rfl) rfl (by first | omega | (simp; done) | decide | (simp; omega) | (simp at *; omega)) (by rw [hob]; rfl)⟩), (fun h => absurd (show yv (.bool (decide ((bestK l (riseK l k) i) < 0))) = _ by rw [hg4]; rfl) h)⟩
          · exact ⟨31, .bool (decide ((bestK l (riseK l k) i) < 0)), rfl, blt_lt rfl, rfl, (fun _ => ⟨35, rfl, blt_lt rfl, fun st hob hE => aop_ld (av := .i (l.getD i 0)) rfl rfl rfl ag3 (hE 34 rfl) rfl (by rw [hob]; rfl)⟩), (fun h => absurd (show yv (.bool (decide ((bestK l (riseK l k) i) < 0))) = _ by rw [hg4]; rfl) h)⟩
          · exact ⟨31, .bool (decide ((bestK l (riseK l k) i) < 0)), rfl, blt_lt rfl, rfl, (fun _ => ⟨36, rfl, blt_lt rfl, fun st hob hE => aop_move (av := .q eI l) (.inl rfl) rfl rfl (hE 0 rfl) (by rw [hob]; rfl)⟩), (fun h => absurd (show yv (.bool (decide ((bestK l (riseK l k) i) < 0))) = _ by rw [hg4]; rfl) h)⟩
          · exact ⟨31, .bool (decide ((bestK l (riseK l k) i) < 0)), rfl, blt_lt rfl, rfl, (fun _ => ⟨37, rfl, blt_lt rfl, fun st hob hE => aop_move (av := .i (bestK l (riseK l k) i)) (.inl rfl) rfl rfl (hE 4 rfl) (by rw [hob]; rfl)⟩), (fun h => absurd (show yv (.bool (decide ((bestK l (riseK l k) i) < 0))) = _ by rw [hg4]; rfl) h)⟩
          · exact ⟨31, .bool (decide ((bestK l (riseK l k) i) < 0)), rfl, blt_lt rfl, rfl, (fun _ => ⟨38, rfl, blt_lt rfl, fun st hob hE => aop_ixI 0 rfl rfl rfl ut38 sz3 (hE 36 rfl) (hE 37 rfl) (fun _ => rfl) rfl (by omega) (by first | omega | (simp; done) | decide | (simp; omega) | (simp at *; omega)) (by rw [hob]; rfl)⟩), (fun h => absurd (show yv (.bool (decide ((bestK l (riseK l k) i) < 0))) = _ by rw [hg4]; rfl) h)⟩
          · exact ⟨31, .bool (decide ((bestK l (riseK l k) i) < 0)), rfl, blt_lt rfl, rfl, (fun _ => ⟨39, rfl, blt_lt rfl, fun st hob hE => aop_ld (av := .i (l.getD (bestK l (riseK l k) i).toNat 0)) rfl rfl rfl ag3 (hE 38 rfl) rfl (by rw [hob]; rfl)⟩), (fun h => absurd (show yv (.bool (decide ((bestK l (riseK l k) i) < 0))) = _ by rw [hg4]; rfl) h)⟩
          · exact ⟨31, .bool (decide ((bestK l (riseK l k) i) < 0)), rfl, blt_lt rfl, rfl, (fun _ => ⟨40, rfl, blt_lt rfl, fun st hob hE => aop_binI (u := (.bool (decide ((l.getD i 0) < (l.getD (bestK l (riseK l k) i).toNat 0))))) rfl rfl rfl (hE 35 rfl) (hE 39 rfl) trivial rfl (by rw [hob]; rfl)⟩), (fun h => absurd (show yv (.bool (decide ((bestK l (riseK l k) i) < 0))) = _ by rw [hg4]; rfl) h)⟩
          · exact ⟨28, .bool true, rfl, blt_lt rfl, rfl, (fun _ => ⟨41, rfl, blt_lt rfl, fun st hob hE => aop_pick (b := (decide ((bestK l (riseK l k) i) < 0))) (av := .b (decide ((l.getD i 0) < (l.getD (bestK l (riseK l k) i).toNat 0)))) rfl rfl rfl (hE 31 rfl) (by rw [hg4]; exact hE 40 rfl) (by rw [hob]; rfl)⟩), (fun h => absurd rfl h)⟩
          · exact ⟨42, rfl, blt_lt rfl, fun st hob hE => aop_pick (b := true) (av := .b (decide ((l.getD i 0) < (l.getD (bestK l (riseK l k) i).toNat 0)))) rfl rfl rfl (hE 28 rfl) (hE 41 rfl) (by rw [hob]; rfl)⟩
        refine op0 ?_
        show AWP _ _ _ _ _
        refine awp_cond (decide ((l.getD i 0) < (l.getD (bestK l (riseK l k) i).toNat 0))) rfl rfl (fun hc1 => ?_) (fun hc1 => ?_)
        · skip
          have hf7 := of_decide_eq_true hc1
          refine regR ?_
          refine opG rfl (aop_move (av := .i (i : Int)) (.inl rfl) rfl rfl rfl ?_)
          refine opG rfl (aop_move (av := .i (i : Int)) (.inr rfl) rfl rfl rfl ?_)
          refine op0 ?_
          show AWP _ _ _ _ _
          refine regR ?_
          refine opG rfl (aop_move (av := .i (i : Int)) (.inl rfl) rfl rfl rfl ?_)
          refine opG rfl (aop_binI (u := (.int .i64 ((i + 1 : Nat) : Int))) rfl rfl rfl rfl rfl trivial (addN (by omega)) ?_)
          refine opG rfl (aop_move (av := .i ((i + 1 : Nat) : Int)) (.inr rfl) rfl rfl rfl ?_)
          refine op0 ?_
          show _ ∧ _
          refine ⟨by omega, trivial, ?_⟩
          exact imp_ler [(1, 1)] (lerI 1 1 rfl rfl (sS rfl (sS (by exact congrArg (fun n_ : Int => AV.v (.int .i64 n_)) (by first | exact (bestK_on (by simp only [riseC, Bool.and_eq_true, Bool.or_eq_true, Bool.and_eq_false_iff, Bool.or_eq_false_iff, decide_eq_true_eq, decide_eq_false_iff_not]; rw [← hix]; omega)).symm | exact (bestK_off (by simp only [riseC, Bool.and_eq_true, Bool.or_eq_true, Bool.and_eq_false_iff, Bool.or_eq_false_iff, decide_eq_true_eq, decide_eq_false_iff_not]; rw [← hix]; omega)).symm)) (sM rfl (sS rfl (sS rfl sr_none)))))) (keep_of rfl)
        · skip
          have hf8 := of_decide_eq_false hc1
          refine awp_skip ?_
          show AWP _ _ _ _ _
          refine regR ?_
          refine opG rfl (aop_move (av := .i (i : Int)) (.inl rfl) rfl rfl rfl ?_)
          refine opG rfl (aop_binI (u := (.int .i64 ((i + 1 : Nat) : Int))) rfl rfl rfl rfl rfl trivial (addN (by omega)) ?_)
          refine opG rfl (aop_move (av := .i ((i + 1 : Nat) : Int)) (.inr rfl) rfl rfl rfl ?_)
          refine op0 ?_
          show _ ∧ _
          refine ⟨by omega, trivial, ?_⟩
          exact imp_ler [(1, 1)] (lerI 1 1 rfl rfl (sS rfl (sS (by exact congrArg (fun n_ : Int => AV.v (.int .i64 n_)) (by first | exact (bestK_on (by simp only [riseC, Bool.and_eq_true, Bool.or_eq_true, Bool.and_eq_false_iff, Bool.or_eq_false_iff, decide_eq_true_eq, decide_eq_false_iff_not]; rw [← hix]; omega)).symm | exact (bestK_off (by simp only [riseC, Bool.and_eq_true, Bool.or_eq_true, Bool.and_eq_false_iff, Bool.or_eq_false_iff, decide_eq_true_eq, decide_eq_false_iff_not]; rw [← hix]; omega)).symm)) (sM rfl (sS rfl (sS rfl sr_none)))))) (keep_of rfl)
    · skip
      have hf9 := (beq_eq_false_iff_ne).1 hg2
      refine (Bool.eq_false_or_eq_true (decide ((l.getD i 0) > ((riseK l k).getD ((((riseK l k).length : Int) - 1).toNat) 0)))).elim (fun hg10 => ?_) (fun hg10 => ?_)
      · skip
        have hf11 := of_decide_eq_true hg10
        refine (Bool.eq_false_or_eq_true (decide ((bestK l (riseK l k) i) < 0))).elim (fun hg12 => ?_) (fun hg12 => ?_)
        · skip
          have hf13 := of_decide_eq_true hg12
          refine awp_draw (m := 31) [(42, .b true), (41, .b true), (40, .v undef), (39, .v undef), (38, .v undef), (37, .v undef), (36, .v undef), (35, .v undef), (34, .v undef), (33, .v undef), (32, .v undef), (31, .b (decide ((bestK l (riseK l k) i) < 0))), (30, .b (decide ((bestK l (riseK l k) i) < 0))), (29, .i (bestK l (riseK l k) i)), (28, .b (decide ((l.getD i 0) > ((riseK l k).getD ((((riseK l k).length : Int) - 1).toNat) 0)))), (27, .b (decide ((l.getD i 0) > ((riseK l k).getD ((((riseK l k).length : Int) - 1).toNat) 0)))), (26, .b (decide ((l.getD i 0) > ((riseK l k).getD ((((riseK l k).length : Int) - 1).toNat) 0)))), (25, .i ((riseK l k).getD ((((riseK l k).length : Int) - 1).toNat) 0)), (24, .pt 1 ((((riseK l k).length : Int) - 1).toNat * 1)), (23, .i (((riseK l k).length : Int) - 1)), (22, .i ((riseK l k).length : Int)), (21, .sl 1 0 ((riseK l k).length)), (20, .sl 1 0 ((riseK l k).length)), (19, .i (l.getD i 0)), (18, .rp (([.i (l.getD i 0)] : List AV) ++ ((enc eI l).drop ((i + 1) * 1)))), (17, .i (i : Int)), (16, .q eI l), (15, .b (((riseK l k).length : Int) == 0)), (14, .b (((riseK l k).length : Int) == 0)), (13, .i ((riseK l k).length : Int)), (12, .sl 1 0 ((riseK l k).length))] mixed (by kernel_rfl) ?_ ?_
          · refine ⟨?_, ?_, ?_, ?_, ?_, ?_, ?_, ?_, ?_, ?_, ?_, ?_, ?_, ?_, ?_, ?_, ?_, ?_, ?_, ?_, ?_, ?_, ?_, ?_, ?_, ?_, ?_, ?_, ?_, ?_, ?_, trivial⟩
            · exact ⟨12, rfl, blt_lt rfl, fun st hob hE => aop_move (av := .sl 1 0 ((riseK l k).length)) (.inl rfl) rfl rfl (hE 3 rfl) (by rw [hob]; rfl)⟩
            · exact ⟨13, rfl, blt_lt rfl, fun st hob hE => aop_len rfl rfl rfl rfl ut38 (len_sl (hE 12 rfl)) (by rw [hob]; rfl)⟩
            · exact ⟨14, rfl, blt_lt rfl, fun st hob hE => aop_binI (u := (.bool (((riseK l k).length : Int) == 0))) rfl rfl rfl (hE 13 rfl) rfl trivial rfl (by rw [hob]; rfl)⟩
            · exact ⟨15, rfl, blt_lt rfl, fun st hob hE => aop_move (av := .b (((riseK l k).length : Int) == 0)) (.inl rfl) rfl rfl (hE 14 rfl) (by rw [hob]; rfl)⟩
            · exact ⟨15, .bool (((riseK l k).length : Int) == 0), rfl, blt_lt rfl, rfl, (fun _ => ⟨16, rfl, blt_lt rfl, fun st hob hE => aop_move (av := .q eI l) (.inl rfl) rfl rfl (hE 0 rfl) (by rw [hob]; rfl)⟩), (fun h => absurd (show yv (.bool (((riseK l k).length : Int) == 0)) = _ by rw [hg2]; rfl) h)⟩
            · exact ⟨15, .bool (((riseK l k).length : Int) == 0), rfl, blt_lt rfl, rfl, (fun _ => ⟨17, rfl, blt_lt rfl, fun st hob hE => aop_move (av := .i (i : Int)) (.inl rfl) rfl rfl (hE 5 rfl) (by rw [hob]; rfl)⟩), (fun h => absurd (show yv (.bool (((riseK l k).length : Int) == 0)) = _ by rw [hg2]; rfl) h)⟩
            · exact ⟨15, .bool (((riseK l k).length : Int) == 0), rfl, blt_lt rfl, rfl, (fun _ => ⟨18, rfl, blt_lt rfl, fun st hob hE => aop_ixE 0 rfl rfl rfl ut38 sz3 (hE 16 rfl) (hE 17 rfl) (fun _ => rfl) rfl (by first | omega | (simp; done) | decide | (simp; omega) | (simp at *; omega)) (by rw [hob]; rfl)⟩), (fun h => absurd (show yv (.bool (((riseK l k).length : Int) == 0)) = _ by rw [hg2]; rfl) h)⟩
            · exact ⟨15, .bool (((riseK l k).length : Int) == 0), rfl, blt_lt rfl, rfl, (fun _ => ⟨19, rfl, blt_lt rfl, fun st hob hE => aop_ld (av := .i (l.getD i 0)) rfl rfl rfl ag3 (hE 18 rfl) rfl (by rw [hob]; rfl)⟩), (fun h => absurd (show yv (.bool (((riseK l k).length : Int) == 0)) = _ by rw [hg2]; rfl) h)⟩
            · exact ⟨15, .bool (((riseK l k).length : Int) == 0), rfl, blt_lt rfl, rfl, (fun _ => ⟨20, rfl, blt_lt rfl, fun st hob hE => aop_move (av := .sl 1 0 ((riseK l k).length)) (.inl rfl) rfl rfl (hE 3 rfl) (by rw [hob]; rfl)⟩), (fun h => absurd (show yv (.bool (((riseK l k).length : Int) == 0)) = _ by rw [hg2]; rfl) h)⟩
            · exact ⟨15, .bool (((riseK l k).length : Int) == 0), rfl, blt_lt rfl, rfl, (fun _ => ⟨21, rfl, blt_lt rfl, fun st hob hE => aop_move (av := .sl 1 0 ((riseK l k).length)) (.inl rfl) rfl rfl (hE 3 rfl) (by rw [hob]; rfl)⟩), (fun h => absurd (show yv (.bool (((riseK l k).length : Int) == 0)) = _ by rw [hg2]; rfl) h)⟩
            · exact ⟨15, .bool (((riseK l k).length : Int) == 0), rfl, blt_lt rfl, rfl, (fun _ => ⟨22, rfl, blt_lt rfl, fun st hob hE => aop_len rfl rfl rfl rfl ut38 (len_sl (hE 21 rfl)) (by rw [hob]; rfl)⟩), (fun h => absurd (show yv (.bool (((riseK l k).length : Int) == 0)) = _ by rw [hg2]; rfl) h)⟩
            · exact ⟨15, .bool (((riseK l k).length : Int) == 0), rfl, blt_lt rfl, rfl, (fun _ => ⟨23, rfl, blt_lt rfl, fun st hob hE => aop_binI (u := (.int .i64 (((riseK l k).length : Int) - 1))) rfl rfl rfl (hE 22 rfl) rfl trivial (subI (by omega)) (by rw [hob]; rfl)⟩), (fun h => absurd (show yv (.bool (((riseK l k).length : Int) == 0)) = _ by rw [hg2]; rfl) h)⟩
            · exact ⟨15, .bool (((riseK l k).length : Int) == 0), rfl, blt_lt rfl, rfl, (fun _ => ⟨24, rfl, blt_lt rfl, fun st hob hE => aop_ixOI rfl rfl rfl ut38 sz3 (hE 20 rfl) (hE 23 rfl) (by omega) (by first | omega | (simp; done) | decide | (simp; omega) | (simp at *; omega)) (by rw [hob]; rfl)⟩), (fun h => absurd (show yv (.bool (((riseK l k).length : Int) == 0)) = _ by rw [hg2]; rfl) h)⟩
            · exact ⟨15, .bool (((riseK l k).length : Int) == 0), rfl, blt_lt rfl, rfl, (fun _ => ⟨25, rfl, blt_lt rfl, fun st hob hE => aop_ldO (f := eI) (l := riseK l k) 0 rfl rfl rfl ag3 (hE 24 rfl) (by rw [hob]; rfl) rfl (fun _ => rfl) (by first | omega | (simp; done) | decide | (simp; omega) | (simp at *; omega)) rfl (by rw [hob]; rfl)⟩), (fun h => absurd (show yv (.bool (((riseK l k).length : Int) == 0)) = _ by rw [hg2]; rfl) h)⟩
            · exact ⟨15, .bool (((riseK l k).length : Int) == 0), rfl, blt_lt rfl, rfl, (fun _ => ⟨26, rfl, blt_lt rfl, fun st hob hE => aop_binI (u := (.bool (decide ((l.getD i 0) > ((riseK l k).getD ((((riseK l k).length : Int) - 1).toNat) 0))))) rfl rfl rfl (hE 19 rfl) (hE 25 rfl) trivial rfl (by rw [hob]; rfl)⟩), (fun h => absurd (show yv (.bool (((riseK l k).length : Int) == 0)) = _ by rw [hg2]; rfl) h)⟩
            · exact ⟨27, rfl, blt_lt rfl, fun st hob hE => aop_pick (b := (((riseK l k).length : Int) == 0)) (av := .b (decide ((l.getD i 0) > ((riseK l k).getD ((((riseK l k).length : Int) - 1).toNat) 0)))) rfl rfl rfl (hE 15 rfl) (by rw [hg2]; exact hE 26 rfl) (by rw [hob]; rfl)⟩
            · exact ⟨28, rfl, blt_lt rfl, fun st hob hE => aop_move (av := .b (decide ((l.getD i 0) > ((riseK l k).getD ((((riseK l k).length : Int) - 1).toNat) 0)))) (.inl rfl) rfl rfl (hE 27 rfl) (by rw [hob]; rfl)⟩
            · exact ⟨28, .bool (decide ((l.getD i 0) > ((riseK l k).getD ((((riseK l k).length : Int) - 1).toNat) 0))), rfl, blt_lt rfl, rfl, (fun _ => ⟨29, rfl, blt_lt rfl, fun st hob hE => aop_move (av := .i (bestK l (riseK l k) i)) (.inl rfl) rfl rfl (hE 4 rfl) (by rw [hob]; rfl)⟩), (fun h => absurd (show yv (.bool (decide ((l.getD i 0) > ((riseK l k).getD ((((riseK l k).length : Int) - 1).toNat) 0)))) = _ by rw [hg10]; rfl) h)⟩
            · exact ⟨28, .bool (decide ((l.getD i 0) > ((riseK l k).getD ((((riseK l k).length : Int) - 1).toNat) 0))), rfl, blt_lt rfl, rfl, (fun _ => ⟨30, rfl, blt_lt rfl, fun st hob hE => aop_binI (u := (.bool (decide ((bestK l (riseK l k) i) < 0)))) rfl rfl rfl (hE 29 rfl) rfl trivial rfl (by rw [hob]; rfl)⟩), (fun h => absurd (show yv (.bool (decide ((l.getD i 0) > ((riseK l k).getD ((((riseK l k).length : Int) - 1).toNat) 0)))) = _ by rw [hg10]; rfl) h)⟩
            · exact ⟨28, .bool (decide ((l.getD i 0) > ((riseK l k).getD ((((riseK l k).length : Int) - 1).toNat) 0))), rfl, blt_lt rfl, rfl, (fun _ => ⟨31, rfl, blt_lt rfl, fun st hob hE => aop_move (av := .b (decide ((bestK l (riseK l k) i) < 0))) (.inl rfl) rfl rfl (hE 30 rfl) (by rw [hob]; rfl)⟩), (fun h => absurd (show yv (.bool (decide ((l.getD i 0) > ((riseK l k).getD ((((riseK l k).length : Int) - 1).toNat) 0)))) = _ by rw [hg10]; rfl) h)⟩
            · exact ⟨31, .bool (decide ((bestK l (riseK l k) i) < 0)), rfl, blt_lt rfl, rfl, (fun h => absurd h (by show yv (.bool (decide ((bestK l (riseK l k) i) < 0))) ≠ _; rw [hg12]; intro h; cases h)), (fun _ => ⟨32, rfl, blt_lt rfl, .inr rfl⟩)⟩
            · exact ⟨31, .bool (decide ((bestK l (riseK l k) i) < 0)), rfl, blt_lt rfl, rfl, (fun h => absurd h (by show yv (.bool (decide ((bestK l (riseK l k) i) < 0))) ≠ _; rw [hg12]; intro h; cases h)), (fun _ => ⟨33, rfl, blt_lt rfl, .inr rfl⟩)⟩
            · exact ⟨31, .bool (decide ((bestK l (riseK l k) i) < 0)), rfl, blt_lt rfl, rfl, (fun h => absurd h (by show yv (.bool (decide ((bestK l (riseK l k) i) < 0))) ≠ _; rw [hg12]; intro h; cases h)), (fun _ => ⟨34, rfl, blt_lt rfl, .inr rfl⟩)⟩
            · exact ⟨31, .bool (decide ((bestK l (riseK l k) i) < 0)), rfl, blt_lt rfl, rfl, (fun h => absurd h (by show yv (.bool (decide ((bestK l (riseK l k) i) < 0))) ≠ _; rw [hg12]; intro h; cases h)), (fun _ => ⟨35, rfl, blt_lt rfl, .inr rfl⟩)⟩
            · exact ⟨31, .bool (decide ((bestK l (riseK l k) i) < 0)), rfl, blt_lt rfl, rfl, (fun h => absurd h (by show yv (.bool (decide ((bestK l (riseK l k) i) < 0))) ≠ _; rw [hg12]; intro h; cases h)), (fun _ => ⟨36, rfl, blt_lt rfl, .inr rfl⟩)⟩
            · exact ⟨31, .bool (decide ((bestK l (riseK l k) i) < 0)), rfl, blt_lt rfl, rfl, (fun h => absurd h (by show yv (.bool (decide ((bestK l (riseK l k) i) < 0))) ≠ _; rw [hg12]; intro h; cases h)), (fun _ => ⟨37, rfl, blt_lt rfl, .inr rfl⟩)⟩
            · exact ⟨31, .bool (decide ((bestK l (riseK l k) i) < 0)), rfl, blt_lt rfl, rfl, (fun h => absurd h (by show yv (.bool (decide ((bestK l (riseK l k) i) < 0))) ≠ _; rw [hg12]; intro h; cases h)), (fun _ => ⟨38, rfl, blt_lt rfl, .inr rfl⟩)⟩
            · exact ⟨31, .bool (decide ((bestK l (riseK l k) i) < 0)), rfl, blt_lt rfl, rfl, (fun h => absurd h (by show yv (.bool (decide ((bestK l (riseK l k) i) < 0))) ≠ _; rw [hg12]; intro h; cases h)), (fun _ => ⟨39, rfl, blt_lt rfl, .inr rfl⟩)⟩
            · exact ⟨31, .bool (decide ((bestK l (riseK l k) i) < 0)), rfl, blt_lt rfl, rfl, (fun h => absurd h (by show yv (.bool (decide ((bestK l (riseK l k) i) < 0))) ≠ _; rw [hg12]; intro h; cases h)), (fun _ => ⟨40, rfl, blt_lt rfl, .inr rfl⟩)⟩
            · exact ⟨28, .bool (decide ((l.getD i 0) > ((riseK l k).getD ((((riseK l k).length : Int) - 1).toNat) 0))), rfl, blt_lt rfl, rfl, (fun _ => ⟨41, rfl, blt_lt rfl, fun st hob hE => aop_pick (b := (decide ((bestK l (riseK l k) i) < 0))) (av := .b true) rfl rfl rfl (hE 31 rfl) (by rw [hg12]; rfl) (by rw [hob]; rfl)⟩), (fun h => absurd (show yv (.bool (decide ((l.getD i 0) > ((riseK l k).getD ((((riseK l k).length : Int) - 1).toNat) 0)))) = _ by rw [hg10]; rfl) h)⟩
            · exact ⟨42, rfl, blt_lt rfl, fun st hob hE => aop_pick (b := (decide ((l.getD i 0) > ((riseK l k).getD ((((riseK l k).length : Int) - 1).toNat) 0)))) (av := .b true) rfl rfl rfl (hE 28 rfl) (by rw [hg10]; exact hE 41 rfl) (by rw [hob]; rfl)⟩
          refine op0 ?_
          show AWP _ _ _ _ _
          refine awp_cond true rfl rfl (fun _ => ?_) (fun h => by cases h)
          refine regR ?_
          refine opG rfl (aop_move (av := .i (i : Int)) (.inl rfl) rfl rfl rfl ?_)
          refine opG rfl (aop_move (av := .i (i : Int)) (.inr rfl) rfl rfl rfl ?_)
          refine op0 ?_
          show AWP _ _ _ _ _
          refine regR ?_
          refine opG rfl (aop_move (av := .i (i : Int)) (.inl rfl) rfl rfl rfl ?_)
          refine opG rfl (aop_binI (u := (.int .i64 ((i + 1 : Nat) : Int))) rfl rfl rfl rfl rfl trivial (addN (by omega)) ?_)
          refine opG rfl (aop_move (av := .i ((i + 1 : Nat) : Int)) (.inr rfl) rfl rfl rfl ?_)
          refine op0 ?_
          show _ ∧ _
          refine ⟨by omega, trivial, ?_⟩
          exact imp_ler [(1, 1)] (lerI 1 1 rfl rfl (sS rfl (sS (by exact congrArg (fun n_ : Int => AV.v (.int .i64 n_)) (by first | exact (bestK_on (by simp only [riseC, Bool.and_eq_true, Bool.or_eq_true, Bool.and_eq_false_iff, Bool.or_eq_false_iff, decide_eq_true_eq, decide_eq_false_iff_not]; rw [← hix]; omega)).symm | exact (bestK_off (by simp only [riseC, Bool.and_eq_true, Bool.or_eq_true, Bool.and_eq_false_iff, Bool.or_eq_false_iff, decide_eq_true_eq, decide_eq_false_iff_not]; rw [← hix]; omega)).symm)) (sM rfl (sS rfl (sS rfl sr_none)))))) (keep_of rfl)
        · skip
          have hf14 := of_decide_eq_false hg12
          refine awp_draw (m := 31) [(42, .b (decide ((l.getD i 0) < (l.getD (bestK l (riseK l k) i).toNat 0)))), (41, .b (decide ((l.getD i 0) < (l.getD (bestK l (riseK l k) i).toNat 0)))), (40, .b (decide ((l.getD i 0) < (l.getD (bestK l (riseK l k) i).toNat 0)))), (39, .i (l.getD (bestK l (riseK l k) i).toNat 0)), (38, .rp (([.i (l.getD (bestK l (riseK l k) i).toNat 0)] : List AV) ++ ((enc eI l).drop (((bestK l (riseK l k) i).toNat + 1) * 1)))), (37, .i (bestK l (riseK l k) i)), (36, .q eI l), (35, .i (l.getD i 0)), (34, .rp (([.i (l.getD i 0)] : List AV) ++ ((enc eI l).drop ((i + 1) * 1)))), (33, .i (i : Int)), (32, .q eI l), (31, .b (decide ((bestK l (riseK l k) i) < 0))), (30, .b (decide ((bestK l (riseK l k) i) < 0))), (29, .i (bestK l (riseK l k) i)), (28, .b (decide ((l.getD i 0) > ((riseK l k).getD ((((riseK l k).length : Int) - 1).toNat) 0)))), (27, .b (decide ((l.getD i 0) > ((riseK l k).getD ((((riseK l k).length : Int) - 1).toNat) 0)))), (26, .b (decide ((l.getD i 0) > ((riseK l k).getD ((((riseK l k).length : Int) - 1).toNat) 0)))), (25, .i ((riseK l k).getD ((((riseK l k).length : Int) - 1).toNat) 0)), (24, .pt 1 ((((riseK l k).length : Int) - 1).toNat * 1)), (23, .i (((riseK l k).length : Int) - 1)), (22, .i ((riseK l k).length : Int)), (21, .sl 1 0 ((riseK l k).length)), (20, .sl 1 0 ((riseK l k).length)), (19, .i (l.getD i 0)), (18, .rp (([.i (l.getD i 0)] : List AV) ++ ((enc eI l).drop ((i + 1) * 1)))), (17, .i (i : Int)), (16, .q eI l), (15, .b (((riseK l k).length : Int) == 0)), (14, .b (((riseK l k).length : Int) == 0)), (13, .i ((riseK l k).length : Int)), (12, .sl 1 0 ((riseK l k).length))] mixed (by kernel_rfl) ?_ ?_
          · refine ⟨?_, ?_, ?_, ?_, ?_, ?_, ?_, ?_, ?_, ?_, ?_, ?_, ?_, ?_, ?_, ?_, ?_, ?_, ?_, ?_, ?_, ?_, ?_, ?_, ?_, ?_, ?_, ?_, ?_, ?_, ?_, trivial⟩
            · exact ⟨12, rfl, blt_lt rfl, fun st hob hE => aop_move (av := .sl 1 0 ((riseK l k).length)) (.inl rfl) rfl rfl (hE 3 rfl) (by rw [hob]; rfl)⟩
            · exact ⟨13, rfl, blt_lt rfl, fun st hob hE => aop_len rfl rfl rfl rfl ut38 (len_sl (hE 12 rfl)) (by rw [hob]; rfl)⟩
            · exact ⟨14, rfl, blt_lt rfl, fun st hob hE => aop_binI (u := (.bool (((riseK l k).length : Int) == 0))) rfl rfl rfl (hE 13 rfl) rfl trivial rfl (by rw [hob]; rfl)⟩
            · exact ⟨15, rfl, blt_lt rfl, fun st hob hE => aop_move (av := .b (((riseK l k).length : Int) == 0)) (.inl rfl) rfl rfl (hE 14 rfl) (by rw [hob]; rfl)⟩
            · exact ⟨15, .bool (((riseK l k).length : Int) == 0), rfl, blt_lt rfl, rfl, (fun _ => ⟨16, rfl, blt_lt rfl, fun st hob hE => aop_move (av := .q eI l) (.inl rfl) rfl rfl (hE 0 rfl) (by rw [hob]; rfl)⟩), (fun h => absurd (show yv (.bool (((riseK l k).length : Int) == 0)) = _ by rw [hg2]; rfl) h)⟩
            · exact ⟨15, .bool (((riseK l k).length : Int) == 0), rfl, blt_lt rfl, rfl, (fun _ => ⟨17, rfl, blt_lt rfl, fun st hob hE => aop_move (av := .i (i : Int)) (.inl rfl) rfl rfl (hE 5 rfl) (by rw [hob]; rfl)⟩), (fun h => absurd (show yv (.bool (((riseK l k).length : Int) == 0)) = _ by rw [hg2]; rfl) h)⟩
            · exact ⟨15, .bool (((riseK l k).length : Int) == 0), rfl, blt_lt rfl, rfl, (fun _ => ⟨18, rfl, blt_lt rfl, fun st hob hE => aop_ixE 0 rfl rfl rfl ut38 sz3 (hE 16 rfl) (hE 17 rfl) (fun _ => rfl) rfl (by first | omega | (simp; done) | decide | (simp; omega) | (simp at *; omega)) (by rw [hob]; rfl)⟩), (fun h => absurd (show yv (.bool (((riseK l k).length : Int) == 0)) = _ by rw [hg2]; rfl) h)⟩
            · exact ⟨15, .bool (((riseK l k).length : Int) == 0), rfl, blt_lt rfl, rfl, (fun _ => ⟨19, rfl, blt_lt rfl, fun st hob hE => aop_ld (av := .i (l.getD i 0)) rfl rfl rfl ag3 (hE 18 rfl) rfl (by rw [hob]; rfl)⟩), (fun h => absurd (show yv (.bool (((riseK l k).length : Int) == 0)) = _ by rw [hg2]; rfl) h)⟩
            · exact ⟨15, .bool (((riseK l k).length : Int) == 0), rfl, blt_lt rfl, rfl, (fun _ => ⟨20, rfl, blt_lt rfl, fun st hob hE => aop_move (av := .sl 1 0 ((riseK l k).length)) (.inl rfl) rfl rfl (hE 3 rfl) (by rw [hob]; rfl)⟩), (fun h => absurd (show yv (.bool (((riseK l k).length : Int) == 0)) = _ by rw [hg2]; rfl) h)⟩
            · exact ⟨15, .bool (((riseK l k).length : Int) == 0), rfl, blt_lt rfl, rfl, (fun _ => ⟨21, rfl, blt_lt rfl, fun st hob hE => aop_move (av := .sl 1 0 ((riseK l k).length)) (.inl rfl) rfl rfl (hE 3 rfl) (by rw [hob]; rfl)⟩), (fun h => absurd (show yv (.bool (((riseK l k).length : Int) == 0)) = _ by rw [hg2]; rfl) h)⟩
            · exact ⟨15, .bool (((riseK l k).length : Int) == 0), rfl, blt_lt rfl, rfl, (fun _ => ⟨22, rfl, blt_lt rfl, fun st hob hE => aop_len rfl rfl rfl rfl ut38 (len_sl (hE 21 rfl)) (by rw [hob]; rfl)⟩), (fun h => absurd (show yv (.bool (((riseK l k).length : Int) == 0)) = _ by rw [hg2]; rfl) h)⟩
            · exact ⟨15, .bool (((riseK l k).length : Int) == 0), rfl, blt_lt rfl, rfl, (fun _ => ⟨23, rfl, blt_lt rfl, fun st hob hE => aop_binI (u := (.int .i64 (((riseK l k).length : Int) - 1))) rfl rfl rfl (hE 22 rfl) rfl trivial (subI (by omega)) (by rw [hob]; rfl)⟩), (fun h => absurd (show yv (.bool (((riseK l k).length : Int) == 0)) = _ by rw [hg2]; rfl) h)⟩
            · exact ⟨15, .bool (((riseK l k).length : Int) == 0), rfl, blt_lt rfl, rfl, (fun _ => ⟨24, rfl, blt_lt rfl, fun st hob hE => aop_ixOI rfl rfl rfl ut38 sz3 (hE 20 rfl) (hE 23 rfl) (by omega) (by first | omega | (simp; done) | decide | (simp; omega) | (simp at *; omega)) (by rw [hob]; rfl)⟩), (fun h => absurd (show yv (.bool (((riseK l k).length : Int) == 0)) = _ by rw [hg2]; rfl) h)⟩
            · exact ⟨15, .bool (((riseK l k).length : Int) == 0), rfl, blt_lt rfl, rfl, (fun _ => ⟨25, rfl, blt_lt rfl, fun st hob hE => aop_ldO (f := eI) (l := riseK l k) 0 rfl rfl rfl ag3 (hE 24 rfl) (by rw [hob]; rfl) rfl (fun _ => rfl) (by first | omega | (simp; done) | decide | (simp; omega) | (simp at *; omega)) rfl (by rw [hob]; rfl)⟩), (fun h => absurd (show yv (.bool (((riseK l k).length : Int) == 0)) = _ by rw [hg2]; rfl) h)⟩
            · exact ⟨15, .bool (((riseK l k).length : Int) == 0), rfl, blt_lt rfl, rfl, (fun _ => ⟨26, rfl, blt_lt rfl, fun st hob hE => aop_binI (u := (.bool (decide ((l.getD i 0) > ((riseK l k).getD ((((riseK l k).length : Int) - 1).toNat) 0))))) rfl rfl rfl (hE 19 rfl) (hE 25 rfl) trivial rfl (by rw [hob]; rfl)⟩), (fun h => absurd (show yv (.bool (((riseK l k).length : Int) == 0)) = _ by rw [hg2]; rfl) h)⟩
            · exact ⟨27, rfl, blt_lt rfl, fun st hob hE => aop_pick (b := (((riseK l k).length : Int) == 0)) (av := .b (decide ((l.getD i 0) > ((riseK l k).getD ((((riseK l k).length : Int) - 1).toNat) 0)))) rfl rfl rfl (hE 15 rfl) (by rw [hg2]; exact hE 26 rfl) (by rw [hob]; rfl)⟩
            · exact ⟨28, rfl, blt_lt rfl, fun st hob hE => aop_move (av := .b (decide ((l.getD i 0) > ((riseK l k).getD ((((riseK l k).length : Int) - 1).toNat) 0)))) (.inl rfl) rfl rfl (hE 27 rfl) (by rw [hob]; rfl)⟩
            · exact ⟨28, .bool (decide ((l.getD i 0) > ((riseK l k).getD ((((riseK l k).length : Int) - 1).toNat) 0))), rfl, blt_lt rfl, rfl, (fun _ => ⟨29, rfl, blt_lt rfl, fun st hob hE => aop_move (av := .i (bestK l (riseK l k) i)) (.inl rfl) rfl rfl (hE 4 rfl) (by rw [hob]; rfl)⟩), (fun h => absurd (show yv (.bool (decide ((l.getD i 0) > ((riseK l k).getD ((((riseK l k).length : Int) - 1).toNat) 0)))) = _ by rw [hg10]; rfl) h)⟩
            · exact ⟨28, .bool (decide ((l.getD i 0) > ((riseK l k).getD ((((riseK l k).length : Int) - 1).toNat) 0))), rfl, blt_lt rfl, rfl, (fun _ => ⟨30, rfl, blt_lt rfl, fun st hob hE => aop_binI (u := (.bool (decide ((bestK l (riseK l k) i) < 0)))) rfl rfl rfl (hE 29 rfl) rfl trivial rfl (by rw [hob]; rfl)⟩), (fun h => absurd (show yv (.bool (decide ((l.getD i 0) > ((riseK l k).getD ((((riseK l k).length : Int) - 1).toNat) 0)))) = _ by rw [hg10]; rfl) h)⟩
            · exact ⟨28, .bool (decide ((l.getD i 0) > ((riseK l k).getD ((((riseK l k).length : Int) - 1).toNat) 0))), rfl, blt_lt rfl, rfl, (fun _ => ⟨31, rfl, blt_lt rfl, fun st hob hE => aop_move (av := .b (decide ((bestK l (riseK l k) i) < 0))) (.inl rfl) rfl rfl (hE 30 rfl) (by rw [hob]; rfl)⟩), (fun h => absurd (show yv (.bool (decide ((l.getD i 0) > ((riseK l k).getD ((((riseK l k).length : Int) - 1).toNat) 0)))) = _ by rw [hg10]; rfl) h)⟩
            · exact ⟨31, .bool (decide ((bestK l (riseK l k) i) < 0)), rfl, blt_lt rfl, rfl, (fun _ => ⟨32, rfl, blt_lt rfl, fun st hob hE => aop_move (av := .q eI l) (.inl rfl) rfl rfl (hE 0 rfl) (by rw [hob]; rfl)⟩), (fun h => absurd (show yv (.bool (decide ((bestK l (riseK l k) i) < 0))) = _ by rw [hg12]; rfl) h)⟩
            · exact ⟨31, .bool (decide ((bestK l (riseK l k) i) < 0)), rfl, blt_lt rfl, rfl, (fun _ => ⟨33, rfl, blt_lt rfl, fun st hob hE => aop_move (av := .i (i : Int)) (.inl rfl) rfl rfl (hE 5 rfl) (by rw [hob]; rfl)⟩), (fun h => absurd (show yv (.bool (decide ((bestK l (riseK l k) i) < 0))) = _ by rw [hg12]; rfl) h)⟩
            · exact ⟨31, .bool (decide ((bestK l (riseK l k) i) < 0)), rfl, blt_lt rfl, rfl, (fun _ => ⟨34, rfl, blt_lt rfl, fun st hob hE => aop_ixE 0 rfl rfl rfl ut38 sz3 (hE 32 rfl) (hE 33 rfl) (fun _ => rfl) rfl (by first | omega | (simp; done) | decide | (simp; omega) | (simp at *; omega)) (by rw [hob]; rfl)⟩), (fun h => absurd (show yv (.bool (decide ((bestK l (riseK l k) i) < 0))) = _ by rw [hg12]; rfl) h)⟩
            · exact ⟨31, .bool (decide ((bestK l (riseK l k) i) < 0)), rfl, blt_lt rfl, rfl, (fun _ => ⟨35, rfl, blt_lt rfl, fun st hob hE => aop_ld (av := .i (l.getD i 0)) rfl rfl rfl ag3 (hE 34 rfl) rfl (by rw [hob]; rfl)⟩), (fun h => absurd (show yv (.bool (decide ((bestK l (riseK l k) i) < 0))) = _ by rw [hg12]; rfl) h)⟩
            · exact ⟨31, .bool (decide ((bestK l (riseK l k) i) < 0)), rfl, blt_lt rfl, rfl, (fun _ => ⟨36, rfl, blt_lt rfl, fun st hob hE => aop_move (av := .q eI l) (.inl rfl) rfl rfl (hE 0 rfl) (by rw [hob]; rfl)⟩), (fun h => absurd (show yv (.bool (decide ((bestK l (riseK l k) i) < 0))) = _ by rw [hg12]; rfl) h)⟩
            · exact ⟨31, .bool (decide ((bestK l (riseK l k) i) < 0)), rfl, blt_lt rfl, rfl, (fun _ => ⟨37, rfl, blt_lt rfl, fun st hob hE => aop_move (av := .i (bestK l (riseK l k) i)) (.inl rfl) rfl rfl (hE 4 rfl) (by rw [hob]; rfl)⟩), (fun h => absurd (show yv (.bool (decide ((bestK l (riseK l k) i) < 0))) = _ by rw [hg12]; rfl) h)⟩
            · exact ⟨31, .bool (decide ((bestK l (riseK l k) i) < 0)), rfl, blt_lt rfl, rfl, (fun _ => ⟨38, rfl, blt_lt rfl, fun st hob hE => aop_ixI 0 rfl rfl rfl ut38 sz3 (hE 36 rfl) (hE 37 rfl) (fun _ => rfl) rfl (by omega) (by first | omega | (simp; done) | decide | (simp; omega) | (simp at *; omega)) (by rw [hob]; rfl)⟩), (fun h => absurd (show yv (.bool (decide ((bestK l (riseK l k) i) < 0))) = _ by rw [hg12]; rfl) h)⟩
            · exact ⟨31, .bool (decide ((bestK l (riseK l k) i) < 0)), rfl, blt_lt rfl, rfl, (fun _ => ⟨39, rfl, blt_lt rfl, fun st hob hE => aop_ld (av := .i (l.getD (bestK l (riseK l k) i).toNat 0)) rfl rfl rfl ag3 (hE 38 rfl) rfl (by rw [hob]; rfl)⟩), (fun h => absurd (show yv (.bool (decide ((bestK l (riseK l k) i) < 0))) = _ by rw [hg12]; rfl) h)⟩
            · exact ⟨31, .bool (decide ((bestK l (riseK l k) i) < 0)), rfl, blt_lt rfl, rfl, (fun _ => ⟨40, rfl, blt_lt rfl, fun st hob hE => aop_binI (u := (.bool (decide ((l.getD i 0) < (l.getD (bestK l (riseK l k) i).toNat 0))))) rfl rfl rfl (hE 35 rfl) (hE 39 rfl) trivial rfl (by rw [hob]; rfl)⟩), (fun h => absurd (show yv (.bool (decide ((bestK l (riseK l k) i) < 0))) = _ by rw [hg12]; rfl) h)⟩
            · exact ⟨28, .bool (decide ((l.getD i 0) > ((riseK l k).getD ((((riseK l k).length : Int) - 1).toNat) 0))), rfl, blt_lt rfl, rfl, (fun _ => ⟨41, rfl, blt_lt rfl, fun st hob hE => aop_pick (b := (decide ((bestK l (riseK l k) i) < 0))) (av := .b (decide ((l.getD i 0) < (l.getD (bestK l (riseK l k) i).toNat 0)))) rfl rfl rfl (hE 31 rfl) (by rw [hg12]; exact hE 40 rfl) (by rw [hob]; rfl)⟩), (fun h => absurd (show yv (.bool (decide ((l.getD i 0) > ((riseK l k).getD ((((riseK l k).length : Int) - 1).toNat) 0)))) = _ by rw [hg10]; rfl) h)⟩
            · exact ⟨42, rfl, blt_lt rfl, fun st hob hE => aop_pick (b := (decide ((l.getD i 0) > ((riseK l k).getD ((((riseK l k).length : Int) - 1).toNat) 0)))) (av := .b (decide ((l.getD i 0) < (l.getD (bestK l (riseK l k) i).toNat 0)))) rfl rfl rfl (hE 28 rfl) (by rw [hg10]; exact hE 41 rfl) (by rw [hob]; rfl)⟩
          refine op0 ?_
          show AWP _ _ _ _ _
          refine awp_cond (decide ((l.getD i 0) < (l.getD (bestK l (riseK l k) i).toNat 0))) rfl rfl (fun hc1 => ?_) (fun hc1 => ?_)
          · skip
            have hf15 := of_decide_eq_true hc1
            refine regR ?_
            refine opG rfl (aop_move (av := .i (i : Int)) (.inl rfl) rfl rfl rfl ?_)
            refine opG rfl (aop_move (av := .i (i : Int)) (.inr rfl) rfl rfl rfl ?_)
            refine op0 ?_
            show AWP _ _ _ _ _
            refine regR ?_
            refine opG rfl (aop_move (av := .i (i : Int)) (.inl rfl) rfl rfl rfl ?_)
            refine opG rfl (aop_binI (u := (.int .i64 ((i + 1 : Nat) : Int))) rfl rfl rfl rfl rfl trivial (addN (by omega)) ?_)
            refine opG rfl (aop_move (av := .i ((i + 1 : Nat) : Int)) (.inr rfl) rfl rfl rfl ?_)
            refine op0 ?_
            show _ ∧ _
            refine ⟨by omega, trivial, ?_⟩
            exact imp_ler [(1, 1)] (lerI 1 1 rfl rfl (sS rfl (sS (by exact congrArg (fun n_ : Int => AV.v (.int .i64 n_)) (by first | exact (bestK_on (by simp only [riseC, Bool.and_eq_true, Bool.or_eq_true, Bool.and_eq_false_iff, Bool.or_eq_false_iff, decide_eq_true_eq, decide_eq_false_iff_not]; rw [← hix]; omega)).symm | exact (bestK_off (by simp only [riseC, Bool.and_eq_true, Bool.or_eq_true, Bool.and_eq_false_iff, Bool.or_eq_false_iff, decide_eq_true_eq, decide_eq_false_iff_not]; rw [← hix]; omega)).symm)) (sM rfl (sS rfl (sS rfl sr_none)))))) (keep_of rfl)
          · skip
            have hf16 := of_decide_eq_false hc1
            refine awp_skip ?_
            show AWP _ _ _ _ _
            refine regR ?_
            refine opG rfl (aop_move (av := .i (i : Int)) (.inl rfl) rfl rfl rfl ?_)
            refine opG rfl (aop_binI (u := (.int .i64 ((i + 1 : Nat) : Int))) rfl rfl rfl rfl rfl trivial (addN (by omega)) ?_)
            refine opG rfl (aop_move (av := .i ((i + 1 : Nat) : Int)) (.inr rfl) rfl rfl rfl ?_)
            refine op0 ?_
            show _ ∧ _
            refine ⟨by omega, trivial, ?_⟩
            exact imp_ler [(1, 1)] (lerI 1 1 rfl rfl (sS rfl (sS (by exact congrArg (fun n_ : Int => AV.v (.int .i64 n_)) (by first | exact (bestK_on (by simp only [riseC, Bool.and_eq_true, Bool.or_eq_true, Bool.and_eq_false_iff, Bool.or_eq_false_iff, decide_eq_true_eq, decide_eq_false_iff_not]; rw [← hix]; omega)).symm | exact (bestK_off (by simp only [riseC, Bool.and_eq_true, Bool.or_eq_true, Bool.and_eq_false_iff, Bool.or_eq_false_iff, decide_eq_true_eq, decide_eq_false_iff_not]; rw [← hix]; omega)).symm)) (sM rfl (sS rfl (sS rfl sr_none)))))) (keep_of rfl)
      · skip
        have hf17 := of_decide_eq_false hg10
        refine awp_draw (m := 31) [(42, .b false), (41, .v undef), (40, .v undef), (39, .v undef), (38, .v undef), (37, .v undef), (36, .v undef), (35, .v undef), (34, .v undef), (33, .v undef), (32, .v undef), (31, .v undef), (30, .v undef), (29, .v undef), (28, .b (decide ((l.getD i 0) > ((riseK l k).getD ((((riseK l k).length : Int) - 1).toNat) 0)))), (27, .b (decide ((l.getD i 0) > ((riseK l k).getD ((((riseK l k).length : Int) - 1).toNat) 0)))), (26, .b (decide ((l.getD i 0) > ((riseK l k).getD ((((riseK l k).length : Int) - 1).toNat) 0)))), (25, .i ((riseK l k).getD ((((riseK l k).length : Int) - 1).toNat) 0)), (24, .pt 1 ((((riseK l k).length : Int) - 1).toNat * 1)), (23, .i (((riseK l k).length : Int) - 1)), (22, .i ((riseK l k).length : Int)), (21, .sl 1 0 ((riseK l k).length)), (20, .sl 1 0 ((riseK l k).length)), (19, .i (l.getD i 0)), (18, .rp (([.i (l.getD i 0)] : List AV) ++ ((enc eI l).drop ((i + 1) * 1)))), (17, .i (i : Int)), (16, .q eI l), (15, .b (((riseK l k).length : Int) == 0)), (14, .b (((riseK l k).length : Int) == 0)), (13, .i ((riseK l k).length : Int)), (12, .sl 1 0 ((riseK l k).length))] mixed (by kernel_rfl) ?_ ?_
        · refine ⟨?_, ?_, ?_, ?_, ?_, ?_, ?_, ?_, ?_, ?_, ?_, ?_, ?_, ?_, ?_, ?_, ?_, ?_, ?_, ?_, ?_, ?_, ?_, ?_, ?_, ?_, ?_, ?_, ?_, ?_, ?_, trivial⟩
          · exact ⟨12, rfl, blt_lt rfl, fun st hob hE => aop_move (av := .sl 1 0 ((riseK l k).length)) (.inl rfl) rfl rfl (hE 3 rfl) (by rw [hob]; rfl)⟩
          · exact ⟨13, rfl, blt_lt rfl, fun st hob hE => aop_len rfl rfl rfl rfl ut38 (len_sl (hE 12 rfl)) (by rw [hob]; rfl)⟩
          · exact ⟨14, rfl, blt_lt rfl, fun st hob hE => aop_binI (u := (.bool (((riseK l k).length : Int) == 0))) rfl rfl rfl (hE 13 rfl) rfl trivial rfl (by rw [hob]; rfl)⟩
          · exact ⟨15, rfl, blt_lt rfl, fun st hob hE => aop_move (av := .b (((riseK l k).length : Int) == 0)) (.inl rfl) rfl rfl (hE 14 rfl) (by rw [hob]; rfl)⟩
          · exact ⟨15, .bool (((riseK l k).length : Int) == 0), rfl, blt_lt rfl, rfl, (fun _ => ⟨16, rfl, blt_lt rfl, fun st hob hE => aop_move (av := .q eI l) (.inl rfl) rfl rfl (hE 0 rfl) (by rw [hob]; rfl)⟩), (fun h => absurd (show yv (.bool (((riseK l k).length : Int) == 0)) = _ by rw [hg2]; rfl) h)⟩
          · exact ⟨15, .bool (((riseK l k).length : Int) == 0), rfl, blt_lt rfl, rfl, (fun _ => ⟨17, rfl, blt_lt rfl, fun st hob hE => aop_move (av := .i (i : Int)) (.inl rfl) rfl rfl (hE 5 rfl) (by rw [hob]; rfl)⟩), (fun h => absurd (show yv (.bool (((riseK l k).length : Int) == 0)) = _ by rw [hg2]; rfl) h)⟩
          · exact ⟨15, .bool (((riseK l k).length : Int) == 0), rfl, blt_lt rfl, rfl, (fun _ => ⟨18, rfl, blt_lt rfl, fun st hob hE => aop_ixE 0 rfl rfl rfl ut38 sz3 (hE 16 rfl) (hE 17 rfl) (fun _ => rfl) rfl (by first | omega | (simp; done) | decide | (simp; omega) | (simp at *; omega)) (by rw [hob]; rfl)⟩), (fun h => absurd (show yv (.bool (((riseK l k).length : Int) == 0)) = _ by rw [hg2]; rfl) h)⟩
          · exact ⟨15, .bool (((riseK l k).length : Int) == 0), rfl, blt_lt rfl, rfl, (fun _ => ⟨19, rfl, blt_lt rfl, fun st hob hE => aop_ld (av := .i (l.getD i 0)) rfl rfl rfl ag3 (hE 18 rfl) rfl (by rw [hob]; rfl)⟩), (fun h => absurd (show yv (.bool (((riseK l k).length : Int) == 0)) = _ by rw [hg2]; rfl) h)⟩
          · exact ⟨15, .bool (((riseK l k).length : Int) == 0), rfl, blt_lt rfl, rfl, (fun _ => ⟨20, rfl, blt_lt rfl, fun st hob hE => aop_move (av := .sl 1 0 ((riseK l k).length)) (.inl rfl) rfl rfl (hE 3 rfl) (by rw [hob]; rfl)⟩), (fun h => absurd (show yv (.bool (((riseK l k).length : Int) == 0)) = _ by rw [hg2]; rfl) h)⟩
          · exact ⟨15, .bool (((riseK l k).length : Int) == 0), rfl, blt_lt rfl, rfl, (fun _ => ⟨21, rfl, blt_lt rfl, fun st hob hE => aop_move (av := .sl 1 0 ((riseK l k).length)) (.inl rfl) rfl rfl (hE 3 rfl) (by rw [hob]; rfl)⟩), (fun h => absurd (show yv (.bool (((riseK l k).length : Int) == 0)) = _ by rw [hg2]; rfl) h)⟩
          · exact ⟨15, .bool (((riseK l k).length : Int) == 0), rfl, blt_lt rfl, rfl, (fun _ => ⟨22, rfl, blt_lt rfl, fun st hob hE => aop_len rfl rfl rfl rfl ut38 (len_sl (hE 21 rfl)) (by rw [hob]; rfl)⟩), (fun h => absurd (show yv (.bool (((riseK l k).length : Int) == 0)) = _ by rw [hg2]; rfl) h)⟩
          · exact ⟨15, .bool (((riseK l k).length : Int) == 0), rfl, blt_lt rfl, rfl, (fun _ => ⟨23, rfl, blt_lt rfl, fun st hob hE => aop_binI (u := (.int .i64 (((riseK l k).length : Int) - 1))) rfl rfl rfl (hE 22 rfl) rfl trivial (subI (by omega)) (by rw [hob]; rfl)⟩), (fun h => absurd (show yv (.bool (((riseK l k).length : Int) == 0)) = _ by rw [hg2]; rfl) h)⟩
          · exact ⟨15, .bool (((riseK l k).length : Int) == 0), rfl, blt_lt rfl, rfl, (fun _ => ⟨24, rfl, blt_lt rfl, fun st hob hE => aop_ixOI rfl rfl rfl ut38 sz3 (hE 20 rfl) (hE 23 rfl) (by omega) (by first | omega | (simp; done) | decide | (simp; omega) | (simp at *; omega)) (by rw [hob]; rfl)⟩), (fun h => absurd (show yv (.bool (((riseK l k).length : Int) == 0)) = _ by rw [hg2]; rfl) h)⟩
          · exact ⟨15, .bool (((riseK l k).length : Int) == 0), rfl, blt_lt rfl, rfl, (fun _ => ⟨25, rfl, blt_lt rfl, fun st hob hE => aop_ldO (f := eI) (l := riseK l k) 0 rfl rfl rfl ag3 (hE 24 rfl) (by rw [hob]; rfl) rfl (fun _ => rfl) (by first | omega | (simp; done) | decide | (simp; omega) | (simp at *; omega)) rfl (by rw [hob]; rfl)⟩), (fun h => absurd (show yv (.bool (((riseK l k).length : Int) == 0)) = _ by rw [hg2]; rfl) h)⟩
          · exact ⟨15, .bool (((riseK l k).length : Int) == 0), rfl, blt_lt rfl, rfl, (fun _ => ⟨26, rfl, blt_lt rfl, fun st hob hE => aop_binI (u := (.bool (decide ((l.getD i 0) > ((riseK l k).getD ((((riseK l k).length : Int) - 1).toNat) 0))))) rfl rfl rfl (hE 19 rfl) (hE 25 rfl) trivial rfl (by rw [hob]; rfl)⟩), (fun h => absurd (show yv (.bool (((riseK l k).length : Int) == 0)) = _ by rw [hg2]; rfl) h)⟩
          · exact ⟨27, rfl, blt_lt rfl, fun st hob hE => aop_pick (b := (((riseK l k).length : Int) == 0)) (av := .b (decide ((l.getD i 0) > ((riseK l k).getD ((((riseK l k).length : Int) - 1).toNat) 0)))) rfl rfl rfl (hE 15 rfl) (by rw [hg2]; exact hE 26 rfl) (by rw [hob]; rfl)⟩
          · exact ⟨28, rfl, blt_lt rfl, fun st hob hE => aop_move (av := .b (decide ((l.getD i 0) > ((riseK l k).getD ((((riseK l k).length : Int) - 1).toNat) 0)))) (.inl rfl) rfl rfl (hE 27 rfl) (by rw [hob]; rfl)⟩
          · exact ⟨28, .bool (decide ((l.getD i 0) > ((riseK l k).getD ((((riseK l k).length : Int) - 1).toNat) 0))), rfl, blt_lt rfl, rfl, (fun h => absurd h (by show yv (.bool (decide ((l.getD i 0) > ((riseK l k).getD ((((riseK l k).length : Int) - 1).toNat) 0)))) ≠ _; rw [hg10]; intro h; cases h)), (fun _ => ⟨29, rfl, blt_lt rfl, .inr rfl⟩)⟩
          · exact ⟨28, .bool (decide ((l.getD i 0) > ((riseK l k).getD ((((riseK l k).length : Int) - 1).toNat) 0))), rfl, blt_lt rfl, rfl, (fun h => absurd h (by show yv (.bool (decide ((l.getD i 0) > ((riseK l k).getD ((((riseK l k).length : Int) - 1).toNat) 0)))) ≠ _; rw [hg10]; intro h; cases h)), (fun _ => ⟨30, rfl, blt_lt rfl, .inr rfl⟩)⟩
          · exact ⟨28, .bool (decide ((l.getD i 0) > ((riseK l k).getD ((((riseK l k).length : Int) - 1).toNat) 0))), rfl, blt_lt rfl, rfl, (fun h => absurd h (by show yv (.bool (decide ((l.getD i 0) > ((riseK l k).getD ((((riseK l k).length : Int) - 1).toNat) 0)))) ≠ _; rw [hg10]; intro h; cases h)), (fun _ => ⟨31, rfl, blt_lt rfl, .inr rfl⟩)⟩
          · exact ⟨31, undef, rfl, blt_lt rfl, rfl, (fun h => by cases h), (fun _ => ⟨32, rfl, blt_lt rfl, .inr rfl⟩)⟩
          · exact ⟨31, undef, rfl, blt_lt rfl, rfl, (fun h => by cases h), (fun _ => ⟨33, rfl, blt_lt rfl, .inr rfl⟩)⟩
          · exact ⟨31, undef, rfl, blt_lt rfl, rfl, (fun h => by cases h), (fun _ => ⟨34, rfl, blt_lt rfl, .inr rfl⟩)⟩
          · exact ⟨31, undef, rfl, blt_lt rfl, rfl, (fun h => by cases h), (fun _ => ⟨35, rfl, blt_lt rfl, .inr rfl⟩)⟩
          · exact ⟨31, undef, rfl, blt_lt rfl, rfl, (fun h => by cases h), (fun _ => ⟨36, rfl, blt_lt rfl, .inr rfl⟩)⟩
          · exact ⟨31, undef, rfl, blt_lt rfl, rfl, (fun h => by cases h), (fun _ => ⟨37, rfl, blt_lt rfl, .inr rfl⟩)⟩
          · exact ⟨31, undef, rfl, blt_lt rfl, rfl, (fun h => by cases h), (fun _ => ⟨38, rfl, blt_lt rfl, .inr rfl⟩)⟩
          · exact ⟨31, undef, rfl, blt_lt rfl, rfl, (fun h => by cases h), (fun _ => ⟨39, rfl, blt_lt rfl, .inr rfl⟩)⟩
          · exact ⟨31, undef, rfl, blt_lt rfl, rfl, (fun h => by cases h), (fun _ => ⟨40, rfl, blt_lt rfl, .inr rfl⟩)⟩
          · exact ⟨28, .bool (decide ((l.getD i 0) > ((riseK l k).getD ((((riseK l k).length : Int) - 1).toNat) 0))), rfl, blt_lt rfl, rfl, (fun h => absurd h (by show yv (.bool (decide ((l.getD i 0) > ((riseK l k).getD ((((riseK l k).length : Int) - 1).toNat) 0)))) ≠ _; rw [hg10]; intro h; cases h)), (fun _ => ⟨41, rfl, blt_lt rfl, .inr rfl⟩)⟩
          · exact ⟨42, rfl, blt_lt rfl, fun st hob hE => aop_pick (b := (decide ((l.getD i 0) > ((riseK l k).getD ((((riseK l k).length : Int) - 1).toNat) 0)))) (av := .b false) rfl rfl rfl (hE 28 rfl) (by rw [hg10]; rfl) (by rw [hob]; rfl)⟩
        refine op0 ?_
        show AWP _ _ _ _ _
        refine awp_cond false rfl rfl (fun h => by cases h) (fun _ => ?_)
        refine awp_skip ?_
        show AWP _ _ _ _ _
        refine regR ?_
        refine opG rfl (aop_move (av := .i (i : Int)) (.inl rfl) rfl rfl rfl ?_)
        refine opG rfl (aop_binI (u := (.int .i64 ((i + 1 : Nat) : Int))) rfl rfl rfl rfl rfl trivial (addN (by omega)) ?_)
        refine opG rfl (aop_move (av := .i ((i + 1 : Nat) : Int)) (.inr rfl) rfl rfl rfl ?_)
        refine op0 ?_
        show _ ∧ _
        refine ⟨by omega, trivial, ?_⟩
        exact imp_ler [(1, 1)] (lerI 1 1 rfl rfl (sS rfl (sS (by exact congrArg (fun n_ : Int => AV.v (.int .i64 n_)) (by first | exact (bestK_on (by simp only [riseC, Bool.and_eq_true, Bool.or_eq_true, Bool.and_eq_false_iff, Bool.or_eq_false_iff, decide_eq_true_eq, decide_eq_false_iff_not]; rw [← hix]; omega)).symm | exact (bestK_off (by simp only [riseC, Bool.and_eq_true, Bool.or_eq_true, Bool.and_eq_false_iff, Bool.or_eq_false_iff, decide_eq_true_eq, decide_eq_false_iff_not]; rw [← hix]; omega)).symm)) (sM rfl (sS rfl (sS rfl sr_none)))))) (keep_of rfl)
  · skip
    have hf18 := of_decide_eq_false hc0
    have hie : i = l.length := by omega
    refine awp_exit ?_
    show AWP _ _ _ _ _
    refine awp_seq ?_
    refine seqR ?_
    refine opG rfl (aop_move (av := .i (bestK l (riseK l k) i)) (.inl rfl) rfl rfl rfl ?_)
    refine opG rfl (aop_binI (u := (.bool (decide ((bestK l (riseK l k) i) < 0)))) rfl rfl rfl rfl rfl trivial rfl ?_)
    refine op0 ?_
    show AWP _ _ _ _ _
    refine awp_cond (decide ((bestK l (riseK l k) i) < 0)) rfl rfl (fun hc2 => ?_) (fun hc2 => ?_)
    · skip
      have hf19 := of_decide_eq_true hc2
      have hb2 : bestK l (riseK l k) l.length < 0 := by rw [← hie]; exact of_decide_eq_true hc2
      refine seqR ?_
      refine opG rfl (aop_move (av := .sl 1 0 ((riseK l k).length)) (.inl rfl) rfl rfl rfl ?_)
      refine opG rfl (aop_move (av := .sl 1 0 ((riseK l k).length)) (.inr rfl) rfl rfl rfl ?_)
      refine op0 ?_
      show AWP _ _ _ _ _
      refine rs_ (upd (upd (upd (upd (upd none_ 0 (.q eI l)) 2 (.sl 1 0 ((riseK l k).length))) 3 (.sl 1 0 ((riseK l k).length))) 4 (.i (bestK l (riseK l k) i))) 5 (.i (i : Int))) (updO noOb 1 (.live ⟨(enc eI (riseK l k)), 3, 1⟩)) (lu rfl (lu rfl (lu rfl (lu rfl (lu rfl ln))))) rfl ?_
      refine awp_imp _ (imp_frozen rfl (fun _ h => h) (lee_lend 2 (.q eI (riseK l k)) (lend_s (id := 1) (n := (riseK l k).length) (o := ⟨(enc eI (riseK l k)), 3, 1⟩) rfl (enc_len (fun _ => rfl) (by first | rfl | (simp; done)))) lee_lend0)) ?_
      refine awp_ret ?_
      exact fret (av := .ro ((riseK l k).length) (enc eI (riseK l k))) rfl rfl (by rw [riseK_end hk1 hb2])
    · skip
      have hf20 := of_decide_eq_false hc2
      have hb_ : ¬ bestK l (riseK l k) l.length < 0 := by rw [← hie]; exact of_decide_eq_false hc2
      refine awp_skip ?_
      show AWP _ _ _ _ _
      refine regR ?_
      refine opG rfl (aop_move (av := .sl 1 0 ((riseK l k).length)) (.inl rfl) rfl rfl rfl ?_)
      refine opG rfl (aop_move (av := .q eI l) (.inl rfl) rfl rfl rfl ?_)
      refine opG rfl (aop_move (av := .i (bestK l (riseK l k) i)) (.inl rfl) rfl rfl rfl ?_)
      refine opG rfl (aop_ixI 0 rfl rfl rfl ut38 sz3 rfl rfl (fun _ => rfl) rfl (by omega) (by first | omega | (simp; done) | decide | (simp; omega) | (simp at *; omega)) ?_)
      refine opG rfl (aop_ld (av := .i (l.getD (bestK l (riseK l k) i).toNat 0)) rfl rfl rfl ag3 rfl rfl ?_)
      refine opG rfl (aop_lit rfl rfl rfl ut38 iz3 (by decide) (by decide) rfl rfl ?_)
      refine opG rfl (aop_app1 (f := eI) (l := riseK l k) 52 (l.getD (bestK l (riseK l k) i).toNat 0 : Int) rfl rfl rfl rfl ut38 in3 rfl (by decide) rfl rfl rfl rfl rfl rfl (fun _ => rfl) rfl rfl (by first | omega | (simp; done) | decide | (simp; omega) | (simp at *; omega)) (by first | omega | (simp; done) | decide | (simp; omega) | (simp at *; omega)) rfl ?_)
      refine opG rfl (aop_move (av := .sl 52 0 (((riseK l k) ++ [(l.getD (bestK l (riseK l k) i).toNat 0 : Int)]).length)) (.inr rfl) rfl rfl rfl ?_)
      refine op0 ?_
      show _ ∧ _
      have hs_ := riseK_on hb_
      rw [← hie] at hs_
      refine ⟨by omega, (riseK_len hk1 hb_), ?_⟩
      exact imp_ler [(52, 1)] (lerI 52 1 (o := ⟨(enc eI ((riseK l k) ++ [(l.getD (bestK l (riseK l k) i).toNat 0 : Int)])), 3, 1⟩) rfl (by exact congrArg (fun l_ => LObj.mk (enc eI l_) 3 1) hs_) (sM (by exact congrArg (AV.sl 1 0) (congrArg List.length hs_.symm)) (sS rfl (sS rfl sr_none)))) (keep_of rfl)

set_option maxRecDepth 10000 in
set_option maxHeartbeats 16000000 in
theorem l11_ChainGrows (d : Draft) (x : Spot) (more fa : Int) (hd : DraftOk d) (hx : SpotOk x) (hm : 0 ≤ more ∧ more ≤ 255) (hfa : 0 ≤ fa ∧ fa ≤ 255) : Fn Try.prog 3 [.agg [.v (.int .u8 d.form), .v (.int .u8 d.len), .v (.int .u8 d.speed), .v (.int .u16 d.mute), .v (.int .u16 d.wait), .v (.int .u8 d.cancel), .v (.int .u8 d.stay), .v (.int .u8 d.jn), .ro d.rs.length (enc eUL d.rs)], .agg [.v (.int .u8 x.fr), .v (.int .u8 x.lg), .ro x.turns.length (enc eU8 x.turns), .v (.int .u16 x.ahd), .v (.int .u16 x.heard), .v (.int .u16 x.ticks), .v (.int .u16 x.speed), .ro x.right.length (enc eB x.right)], .v (.int .u8 more), .v (.int .u8 fa)] (.v (.bool true)) := by
  have hd1 := hd.form
  have hd2 := hd.len
  have hd3 := hd.speed
  have hd4 := hd.mute
  have hd5 := hd.wait
  have hd6 := hd.cancel
  have hd7 := hd.stay
  have hd8 := hd.jn
  have hd9 := hd.n
  have hmx : maxLen = 9223372036854775807 := rfl
  have hx1 := hx.fr
  have hx2 := hx.lg
  have hx3 := hx.ahd
  have hx4 := hx.heard
  have hx5 := hx.ticks
  have hx6 := hx.speed
  have hx7 := hx.tl
  have hx8 := hx.rl
  refine fnE_of_body (N := 102) Try.func3 rfl rfl (resOf1 rfl) (by simp) (fun w0 X hL_ => ?_)
  refine seqR ?_
  refine opG rfl (aop_box 51 rfl rfl rfl rfl rfl rfl rfl ?_)
  refine opG rfl (aop_box 52 rfl rfl rfl rfl rfl rfl rfl ?_)
  refine opG rfl (aop_move (av := .b false) (.inr rfl) rfl rfl rfl ?_)
  refine op0 ?_
  show AWP _ _ _ _ _
  refine awp_seq ?_
  refine seqR ?_
  refine opG rfl (call_ (l11_later) rfl rfl rfl rfl rfl bd9 rfl ?_)
  refine opG rfl (aop_not rfl rfl rfl rfl ?_)
  refine opG rfl (aop_move (av := .b false) (.inl rfl) rfl rfl rfl ?_)
  refine opY rfl rfl rfl rfl (aop_ldB (cells' := [.v (.int .u8 d.form), .v (.int .u8 d.len), .v (.int .u8 d.speed), .v (.int .u16 d.mute), .v (.int .u16 d.wait), .v (.int .u8 d.cancel), .v (.int .u8 d.stay), .v (.int .u8 d.jn), .q eUL d.rs]) rfl rfl rfl ag25 sz25 rfl rfl rfl rfl ?_)
  refine opY rfl rfl rfl rfl (aop_ldB (cells' := [.v (.int .u8 x.fr), .v (.int .u8 x.lg), .q eU8 x.turns, .v (.int .u16 x.ahd), .v (.int .u16 x.heard), .v (.int .u16 x.ticks), .v (.int .u16 x.speed), .q eB x.right]) rfl rfl rfl ag29 sz29 rfl rfl rfl rfl ?_)
  refine opY rfl rfl rfl rfl (call_ (l11_small _ _ (by first | omega | (simp; done) | decide | (simp; omega) | (simp at *; omega)) (by first | omega | (simp; done) | decide | (simp; omega) | (simp at *; omega))) rfl rfl rfl rfl rfl bd10 rfl ?_)
  refine opY rfl rfl rfl rfl (aop_not rfl rfl rfl rfl ?_)
  refine opG rfl (aop_pick (b := false) (av := .b (!(littleB d x))) rfl rfl rfl rfl rfl ?_)
  refine op0 ?_
  show AWP _ _ _ _ _
  refine rs_ (upd (upd (upd (upd (upd (upd none_ 2 (.v (.int .u8 more))) 3 (.v (.int .u8 fa))) 4 (.pt 51 0)) 5 (.pt 52 0)) 8 (.b false)) 24 (.b (!(littleB d x)))) (updO (updO noOb 51 (.live ⟨[.v (.int .u8 d.form), .v (.int .u8 d.len), .v (.int .u8 d.speed), .v (.int .u16 d.mute), .v (.int .u16 d.wait), .v (.int .u8 d.cancel), .v (.int .u8 d.stay), .v (.int .u8 d.jn), .q eUL d.rs], 25, 1⟩)) 52 (.live ⟨[.v (.int .u8 x.fr), .v (.int .u8 x.lg), .q eU8 x.turns, .v (.int .u16 x.ahd), .v (.int .u16 x.heard), .v (.int .u16 x.ticks), .v (.int .u16 x.speed), .q eB x.right], 29, 1⟩)) (lu rfl (lu rfl (lu rfl (lu rfl (lu rfl (lu rfl ln)))))) rfl ?_
  refine awp_cond (!(littleB d x)) rfl rfl (fun hc0 => ?_) (fun hc0 => ?_)
  · skip
    have hf1 := not_t hc0
    refine seqR ?_
    refine opG rfl (call_ (l11_later) rfl rfl rfl rfl rfl bd9 rfl ?_)
    refine opG rfl (aop_move (av := .b true) (.inr rfl) rfl rfl rfl ?_)
    refine op0 ?_
    show AWP _ _ _ _ _
    refine awp_ret ?_
    exact fret (av := .v (.bool true)) rfl rfl rfl
  · skip
    have hf2 := not_f hc0
    have hsm : littleB d x = true := by cases h : littleB d x <;> simp [h] at hc0 ⊢
    obtain ⟨hsm1, hsm2, hsm3⟩ := little_iff hsm
    have hF := spotF (d := d) hx
    have hw1 := hF.ok.pos
    have hw2 := hF.l0
    have hw3 := hF.len
    have hw4 := hF.ah
    have hsp0 := modB (a := x.speed) (b := 10001) (by omega)
    have hel := mkEnds_len d.form
    have hsl := mkSecs_len d.form d.len
    have hpl := mkPts_len d.form
    have h9 := sp9_r hx6.1
    obtain ⟨av, hav⟩ : ∃ v, v = (spanF (mkSecs d.form d.len) (mkPts d.form) x.right (wk d x) (dr x) (((x.heard + x.ticks) - x.heard) * (sp9 x) - ah d x)) := ⟨_, rfl⟩
    obtain ⟨bv, hbv⟩ : ∃ v, v = (spanF (mkSecs d.form d.len) (mkPts d.form) x.right (wk d x) (dr x) (((x.heard + x.ticks + more) - x.heard) * (sp9 x + fa) - ah d x)) := ⟨_, rfl⟩
    have hgm : ((x.heard + x.ticks) - x.heard) * (sp9 x) - ah d x ≤ ((x.heard + x.ticks + more) - x.heard) * (sp9 x + fa) - ah d x := by rw [show (x.heard + x.ticks) - x.heard = x.ticks by omega, show (x.heard + x.ticks + more) - x.heard = x.ticks + more by omega]; exact grow_m hx5.1 hm.1 h9.1 hfa.1
    have hg := grow_law (secs := (mkSecs d.form d.len)) (pts := (mkPts d.form)) (right := x.right) (dir := dr x) hw1 hF.ok.nd hgm
    rw [← hav, ← hbv] at hg
    obtain ⟨g1, g2, g3, g4, g5⟩ := hg
    have hbl : bv.length ≤ 14 := by rw [hbv]; exact Nat.le_trans (spanF_len hw3) (by omega)
    refine awp_skip ?_
    show AWP _ _ _ _ _
    refine seqR ?_
    refine opG rfl (aop_ldB (cells' := [.v (.int .u8 d.form), .v (.int .u8 d.len), .v (.int .u8 d.speed), .v (.int .u16 d.mute), .v (.int .u16 d.wait), .v (.int .u8 d.cancel), .v (.int .u8 d.stay), .v (.int .u8 d.jn), .q eUL d.rs]) rfl rfl rfl ag25 sz25 rfl rfl rfl rfl ?_)
    refine opG rfl (aop_ldB (cells' := [.v (.int .u8 x.fr), .v (.int .u8 x.lg), .q eU8 x.turns, .v (.int .u16 x.ahd), .v (.int .u16 x.heard), .v (.int .u16 x.ticks), .v (.int .u16 x.speed), .q eB x.right]) rfl rfl rfl ag29 sz29 rfl rfl rfl rfl ?_)
    refine opG rfl (call_ (l11_of _ _ (by first | omega | (simp; done) | decide | (simp; omega) | (simp at *; omega)) (by first | omega | (simp; done) | decide | (simp; omega) | (simp at *; omega)) (by first | omega | (simp; done) | decide | (simp; omega) | (simp at *; omega))) rfl rfl rfl rfl rfl bd11 rfl ?_)
    refine opG rfl (aop_move (av := .tup [.agg [.one, .q eSec (mkSecs d.form d.len), .q eIL (mkParts d.form d.jn), .q ePnt (mkPts d.form), .q eIL (fullRoutes d.form d.len d.rs), .i (1 + d.speed % (2 * (10 * (1 + d.len % 20)))), .i (1 + d.mute % 1000), .i (1 + d.wait % 1000), .i (1 + d.cancel), .i (d.stay % 4)], .agg [.i 4, .i x.heard, .i (-1), .i (dr x), .i (ah d x), .q eI (wk d x)], .agg [.i 4, .i x.heard, .i (-1), .i (dr x), .i (ah d x), .q eI (wk d x)], .i (x.heard + x.ticks), .i (x.speed % 10001)]) (.inl rfl) rfl rfl rfl ?_)
    refine opG rfl (aop_extract rfl rfl rfl rfl rfl ?_)
    refine opG rfl (aop_extract rfl rfl rfl rfl rfl ?_)
    refine opG rfl (aop_extract rfl rfl rfl rfl rfl ?_)
    refine opG rfl (aop_extract rfl rfl rfl rfl rfl ?_)
    refine opG rfl (aop_extract rfl rfl rfl rfl rfl ?_)
    refine opG rfl (aop_alloc 53 rfl rfl rfl rfl ze37 rfl ?_)
    refine opG rfl (aop_alloc 54 rfl rfl rfl rfl ze40 rfl ?_)
    refine opG rfl (aop_alloc 55 rfl rfl rfl rfl ze41 rfl ?_)
    refine opG rfl (aop_store rfl rfl rfl sz37 rfl rfl rfl rfl rfl (Nat.le_of_ble_eq_true rfl) rfl rfl ?_)
    refine opG rfl (aop_store rfl rfl rfl sz40 rfl rfl rfl rfl rfl (Nat.le_of_ble_eq_true rfl) rfl rfl ?_)
    refine opG rfl (aop_store rfl rfl rfl sz41 rfl rfl rfl rfl rfl (Nat.le_of_ble_eq_true rfl) rfl rfl ?_)
    refine opG rfl (aop_move (av := .i (x.heard + x.ticks)) (.inr rfl) rfl rfl rfl ?_)
    refine opG rfl (aop_move (av := .i (x.speed % 10001)) (.inr rfl) rfl rfl rfl ?_)
    refine op0 ?_
    show AWP _ _ _ _ _
    refine rs_ (upd (upd (upd (upd (upd (upd (upd (upd none_ 2 (.v (.int .u8 more))) 3 (.v (.int .u8 fa))) 5 (.pt 52 0)) 8 (.b false)) 9 (.pt 53 0)) 10 (.pt 54 0)) 12 (.i (x.heard + x.ticks))) 13 (.i (x.speed % 10001))) (updO (updO (updO (updO (updO (updO (updO (updO noOb 51 (.live ⟨[.v (.int .u8 d.form), .v (.int .u8 d.len), .v (.int .u8 d.speed), .v (.int .u16 d.mute), .v (.int .u16 d.wait), .v (.int .u8 d.cancel), .v (.int .u8 d.stay), .v (.int .u8 d.jn), .q eUL d.rs], 25, 1⟩)) 52 (.live ⟨[.v (.int .u8 x.fr), .v (.int .u8 x.lg), .q eU8 x.turns, .v (.int .u16 x.ahd), .v (.int .u16 x.heard), .v (.int .u16 x.ticks), .v (.int .u16 x.speed), .q eB x.right], 29, 1⟩)) 53 (.live ⟨[.v (.slice none 0 0), .v (.slice none 0 0), .v (.slice none 0 0), .v (.slice none 0 0), .v (.slice none 0 0), .i 0, .i 0, .i 0, .i 0, .i 0], 37, 1⟩)) 54 (.live ⟨[.i 0, .i 0, .i 0, .i 0, .i 0, .v (.slice none 0 0)], 40, 1⟩)) 55 (.live ⟨[.i 0, .i 0, .i 0, .i 0, .i 0, .v (.slice none 0 0)], 41, 1⟩)) 53 (.live ⟨[.one, .q eSec (mkSecs d.form d.len), .q eIL (mkParts d.form d.jn), .q ePnt (mkPts d.form), .q eIL (fullRoutes d.form d.len d.rs), .i (1 + d.speed % (2 * (10 * (1 + d.len % 20)))), .i (1 + d.mute % 1000), .i (1 + d.wait % 1000), .i (1 + d.cancel), .i (d.stay % 4)], 37, 1⟩)) 54 (.live ⟨[.i 4, .i x.heard, .i (-1), .i (dr x), .i (ah d x), .q eI (wk d x)], 40, 1⟩)) 55 (.live ⟨[.i 4, .i x.heard, .i (-1), .i (dr x), .i (ah d x), .q eI (wk d x)], 41, 1⟩)) (lu rfl (lu rfl (lu rfl (lu rfl (lu rfl (lu rfl (lu rfl (lu rfl ln)))))))) rfl ?_
    refine seqR ?_
    refine opG rfl (aop_ldB (cells' := [.one, .q eSec (mkSecs d.form d.len), .q eIL (mkParts d.form d.jn), .q ePnt (mkPts d.form), .q eIL (fullRoutes d.form d.len d.rs), .i (1 + d.speed % (2 * (10 * (1 + d.len % 20)))), .i (1 + d.mute % 1000), .i (1 + d.wait % 1000), .i (1 + d.cancel), .i (d.stay % 4)]) rfl rfl rfl ag37 sz37 rfl rfl rfl rfl ?_)
    refine opG rfl (callW_ (g_New (mkSecs d.form d.len) (mkPts d.form)) rfl rfl rfl rfl rfl bd12 (lends_cons (lend_agg (lends_cons (lend_n (av := .one)) (lends_cons (lend_n (av := .q eSec (mkSecs d.form d.len))) (lends_cons (.one _ rfl) (lends_cons (lend_n (av := .q ePnt (mkPts d.form))) (lends_cons (.one _ rfl) (lends_cons (.one _ rfl) (lends_cons (.one _ rfl) (lends_cons (.one _ rfl) (lends_cons (.one _ rfl) (lends_cons (.one _ rfl) lends_nil))))))))))) lends_nil) ?_)
    refine opG rfl (aop_move (av := .rp [.one, .q eSec (mkSecs d.form d.len), .one, .q ePnt (mkPts d.form), .one, .one, .one, .one, .one, .one]) (.inr rfl) rfl rfl rfl ?_)
    refine op0 ?_
    show AWP _ _ _ _ _
    refine awp_seq ?_
    refine seqR ?_
    refine opG rfl (aop_move (av := .i (x.speed % 10001)) (.inl rfl) rfl rfl rfl ?_)
    refine opG rfl (aop_binI (u := (.bool (decide ((x.speed % 10001) > 9000)))) rfl rfl rfl rfl rfl trivial rfl ?_)
    refine op0 ?_
    show AWP _ _ _ _ _
    refine rs_ (upd (upd (upd (upd (upd (upd (upd (upd (upd none_ 2 (.v (.int .u8 more))) 3 (.v (.int .u8 fa))) 5 (.pt 52 0)) 8 (.b false)) 10 (.pt 54 0)) 12 (.i (x.heard + x.ticks))) 13 (.i (x.speed % 10001))) 14 (.rp [.one, .q eSec (mkSecs d.form d.len), .one, .q ePnt (mkPts d.form), .one, .one, .one, .one, .one, .one])) 38 (.b (decide ((x.speed % 10001) > 9000)))) (updO (updO (updO (updO (updO (updO (updO (updO noOb 51 (.live ⟨[.v (.int .u8 d.form), .v (.int .u8 d.len), .v (.int .u8 d.speed), .v (.int .u16 d.mute), .v (.int .u16 d.wait), .v (.int .u8 d.cancel), .v (.int .u8 d.stay), .v (.int .u8 d.jn), .q eUL d.rs], 25, 1⟩)) 52 (.live ⟨[.v (.int .u8 x.fr), .v (.int .u8 x.lg), .q eU8 x.turns, .v (.int .u16 x.ahd), .v (.int .u16 x.heard), .v (.int .u16 x.ticks), .v (.int .u16 x.speed), .q eB x.right], 29, 1⟩)) 53 (.live ⟨[.v (.slice none 0 0), .v (.slice none 0 0), .v (.slice none 0 0), .v (.slice none 0 0), .v (.slice none 0 0), .i 0, .i 0, .i 0, .i 0, .i 0], 37, 1⟩)) 54 (.live ⟨[.i 0, .i 0, .i 0, .i 0, .i 0, .v (.slice none 0 0)], 40, 1⟩)) 55 (.live ⟨[.i 0, .i 0, .i 0, .i 0, .i 0, .v (.slice none 0 0)], 41, 1⟩)) 53 (.live ⟨[.one, .q eSec (mkSecs d.form d.len), .q eIL (mkParts d.form d.jn), .q ePnt (mkPts d.form), .q eIL (fullRoutes d.form d.len d.rs), .i (1 + d.speed % (2 * (10 * (1 + d.len % 20)))), .i (1 + d.mute % 1000), .i (1 + d.wait % 1000), .i (1 + d.cancel), .i (d.stay % 4)], 37, 1⟩)) 54 (.live ⟨[.i 4, .i x.heard, .i (-1), .i (dr x), .i (ah d x), .q eI (wk d x)], 40, 1⟩)) 55 (.live ⟨[.i 4, .i x.heard, .i (-1), .i (dr x), .i (ah d x), .q eI (wk d x)], 41, 1⟩)) (lu rfl (lu rfl (lu rfl (lu rfl (lu rfl (lu rfl (lu rfl (lu rfl (lu rfl ln))))))))) rfl ?_
    refine cutG ⟨(upd (upd (upd (upd (upd (upd (upd (upd none_ 2 (.v (.int .u8 more))) 3 (.v (.int .u8 fa))) 5 (.pt 1 0)) 8 (.b false)) 10 (.pt 2 0)) 12 (.i (x.heard + x.ticks))) 13 (.i (sp9 x))) 14 (.rp [.one, .q eSec (mkSecs d.form d.len), .one, .q ePnt (mkPts d.form), .one, .one, .one, .one, .one, .one])), (updO (updO noOb 1 (.live ⟨[.v (.int .u8 x.fr), .v (.int .u8 x.lg), .q eU8 x.turns, .v (.int .u16 x.ahd), .v (.int .u16 x.heard), .v (.int .u16 x.ticks), .v (.int .u16 x.speed), .q eB x.right], 29, 1⟩)) 2 (.live ⟨[.i 4, .i x.heard, .i (-1), .i (dr x), .i (ah d x), .q eI (wk d x)], 40, 1⟩))⟩ (fun s h => h) ?_ ?_
    · skip
      refine awp_cond (decide ((x.speed % 10001) > 9000)) rfl rfl (fun hc1 => ?_) (fun hc1 => ?_)
      · skip
        have hf3 := of_decide_eq_true hc1
        refine regR ?_
        refine opG rfl (aop_move (av := .i 9000) (.inr rfl) rfl rfl rfl ?_)
        refine op0 ?_
        show Imp _ _ _
        exact imp_ler [(52, 1), (54, 2)] (lerJ 52 1 54 2 (by decide) (by decide) rfl rfl rfl rfl (sS rfl (sS (by exact congrArg (fun n_ : Int => AV.v (.int .i64 n_)) (by first | exact sp9_t (of_decide_eq_true hc1) | exact sp9_f (of_decide_eq_false hc1))) (sS rfl (sM rfl (sS rfl (sM rfl (sS rfl (sS rfl sr_none))))))))) (keep_of rfl)
      · skip
        have hf4 := of_decide_eq_false hc1
        refine awp_skip ?_
        show Imp _ _ _
        exact imp_ler [(52, 1), (54, 2)] (lerJ 52 1 54 2 (by decide) (by decide) rfl rfl rfl rfl (sS rfl (sS (by exact congrArg (fun n_ : Int => AV.v (.int .i64 n_)) (by first | exact sp9_t (of_decide_eq_true hc1) | exact sp9_f (of_decide_eq_false hc1))) (sS rfl (sM rfl (sS rfl (sM rfl (sS rfl (sS rfl sr_none))))))))) (keep_of rfl)
    show AWP _ _ _ _ _
    refine seqR ?_
    refine opG rfl (aop_move (av := .rp [.one, .q eSec (mkSecs d.form d.len), .one, .q ePnt (mkPts d.form), .one, .one, .one, .one, .one, .one]) (.inl rfl) rfl rfl rfl ?_)
    refine opG rfl (aop_ldB (cells' := [.i 4, .i x.heard, .i (-1), .i (dr x), .i (ah d x), .q eI (wk d x)]) rfl rfl rfl ag40 sz40 rfl rfl rfl rfl ?_)
    refine opG rfl (aop_move (av := .i (x.heard + x.ticks)) (.inl rfl) rfl rfl rfl ?_)
    refine opG rfl (aop_move (av := .i (sp9 x)) (.inl rfl) rfl rfl rfl ?_)
    refine opG rfl (aop_fieldAddr (av := .pt 1 0) (av' := .pt 1 7) rfl rfl rfl ft29_7 sz27 rfl rfl rfl ?_)
    refine opG rfl (aop_ld (av := .q eB x.right) rfl rfl rfl ag27 rfl rfl ?_)
    refine opG rfl (aop_eqv (d := 45) (a := .q eI (spanF (mkSecs d.form d.len) (mkPts d.form) x.right (wk d x) (dr x) (((x.heard + x.ticks) - x.heard) * (sp9 x) - (ah d x)))) (b := .q eI av) (callW_ (c_Span (mkSecs d.form d.len) (mkPts d.form) x.right (wk d x) (x.heard + x.ticks) x.heard (sp9 x) (dr x) (ah d x) (by omega) (by omega) (by omega) (by omega) (mkSecs_lenB _ _) (by omega) (by omega) (by omega) (by omega)) rfl rfl rfl rfl rfl bd13 (lends_cons (lend_n (av := .rp [.one, .q eSec (mkSecs d.form d.len), .one, .q ePnt (mkPts d.form), .one, .one, .one, .one, .one, .one])) (lends_cons (lend_agg (lends_cons (.one _ rfl) (lends_cons (lend_n (av := .i x.heard)) (lends_cons (.one _ rfl) (lends_cons (lend_n (av := .i (dr x))) (lends_cons (lend_n (av := .i (ah d x))) (lends_cons (lend_n (av := .q eI (wk d x))) lends_nil))))))) (lends_cons (lend_n (av := .i (x.heard + x.ticks))) (lends_cons (lend_n (av := .i (sp9 x))) (lends_cons (lend_n (av := .q eB x.right)) lends_nil))))) rfl) (by rw [hav]) ?_)
    refine opG rfl (aop_move (av := .q eI av) (.inr rfl) rfl rfl rfl ?_)
    refine op0 ?_
    show AWP _ _ _ _ _
    refine rs_ (upd (upd (upd (upd (upd (upd (upd (upd (upd none_ 2 (.v (.int .u8 more))) 3 (.v (.int .u8 fa))) 5 (.pt 1 0)) 8 (.b false)) 10 (.pt 2 0)) 12 (.i (x.heard + x.ticks))) 13 (.i (sp9 x))) 14 (.rp [.one, .q eSec (mkSecs d.form d.len), .one, .q ePnt (mkPts d.form), .one, .one, .one, .one, .one, .one])) 15 (.q eI av)) (updO (updO noOb 1 (.live ⟨[.v (.int .u8 x.fr), .v (.int .u8 x.lg), .q eU8 x.turns, .v (.int .u16 x.ahd), .v (.int .u16 x.heard), .v (.int .u16 x.ticks), .v (.int .u16 x.speed), .q eB x.right], 29, 1⟩)) 2 (.live ⟨[.i 4, .i x.heard, .i (-1), .i (dr x), .i (ah d x), .q eI (wk d x)], 40, 1⟩)) (lu rfl (lu rfl (lu rfl (lu rfl (lu rfl (lu rfl (lu rfl (lu rfl (lu rfl ln))))))))) rfl ?_
    refine seqR ?_
    refine opG rfl (aop_move (av := .rp [.one, .q eSec (mkSecs d.form d.len), .one, .q ePnt (mkPts d.form), .one, .one, .one, .one, .one, .one]) (.inl rfl) rfl rfl rfl ?_)
    refine opG rfl (aop_ldB (cells' := [.i 4, .i x.heard, .i (-1), .i (dr x), .i (ah d x), .q eI (wk d x)]) rfl rfl rfl ag40 sz40 rfl rfl rfl rfl ?_)
    refine opG rfl (aop_move (av := .i (x.heard + x.ticks)) (.inl rfl) rfl rfl rfl ?_)
    refine opG rfl (aop_move (av := .v (.int .u8 more)) (.inl rfl) rfl rfl rfl ?_)
    refine opG rfl (aop_conv' rfl rfl rfl ut5 ut2 rfl (IntWalk.i64_in _ (by omega)) ?_)
    refine opG rfl (aop_binI (u := (.int .i64 ((x.heard + x.ticks) + more))) rfl rfl rfl rfl rfl trivial (addI (by omega)) ?_)
    refine opG rfl (aop_move (av := .i (sp9 x)) (.inl rfl) rfl rfl rfl ?_)
    refine opG rfl (aop_move (av := .v (.int .u8 fa)) (.inl rfl) rfl rfl rfl ?_)
    refine opG rfl (aop_conv' rfl rfl rfl ut5 ut3 rfl (IntWalk.i64_in _ (by omega)) ?_)
    refine opG rfl (aop_binI (u := (.int .i64 ((sp9 x) + fa))) rfl rfl rfl rfl rfl trivial (addI (by omega)) ?_)
    refine opG rfl (aop_fieldAddr (av := .pt 1 0) (av' := .pt 1 7) rfl rfl rfl ft29_7 sz27 rfl rfl rfl ?_)
    refine opG rfl (aop_ld (av := .q eB x.right) rfl rfl rfl ag27 rfl rfl ?_)
    refine opG rfl (aop_eqv (d := 58) (a := .q eI (spanF (mkSecs d.form d.len) (mkPts d.form) x.right (wk d x) (dr x) ((((x.heard + x.ticks) + more) - x.heard) * ((sp9 x) + fa) - (ah d x)))) (b := .q eI bv) (callW_ (c_Span (mkSecs d.form d.len) (mkPts d.form) x.right (wk d x) (x.heard + x.ticks + more) x.heard (sp9 x + fa) (dr x) (ah d x) (by omega) (by omega) (by omega) (by omega) (mkSecs_lenB _ _) (by omega) (by omega) (by omega) (by omega)) rfl rfl rfl rfl rfl bd13 (lends_cons (lend_n (av := .rp [.one, .q eSec (mkSecs d.form d.len), .one, .q ePnt (mkPts d.form), .one, .one, .one, .one, .one, .one])) (lends_cons (lend_agg (lends_cons (.one _ rfl) (lends_cons (lend_n (av := .i x.heard)) (lends_cons (.one _ rfl) (lends_cons (lend_n (av := .i (dr x))) (lends_cons (lend_n (av := .i (ah d x))) (lends_cons (lend_n (av := .q eI (wk d x))) lends_nil))))))) (lends_cons (lend_n (av := .i ((x.heard + x.ticks) + more))) (lends_cons (lend_n (av := .i ((sp9 x) + fa))) (lends_cons (lend_n (av := .q eB x.right)) lends_nil))))) rfl) (by rw [hbv]) ?_)
    refine opG rfl (aop_move (av := .q eI bv) (.inr rfl) rfl rfl rfl ?_)
    refine op0 ?_
    show AWP _ _ _ _ _
    refine rs_ (upd (upd (upd (upd none_ 8 (.b false)) 10 (.pt 2 0)) 15 (.q eI av)) 16 (.q eI bv)) (updO (updO noOb 1 (.live ⟨[.v (.int .u8 x.fr), .v (.int .u8 x.lg), .q eU8 x.turns, .v (.int .u16 x.ahd), .v (.int .u16 x.heard), .v (.int .u16 x.ticks), .v (.int .u16 x.speed), .q eB x.right], 29, 1⟩)) 2 (.live ⟨[.i 4, .i x.heard, .i (-1), .i (dr x), .i (ah d x), .q eI (wk d x)], 40, 1⟩)) (lu rfl (lu rfl (lu rfl (lu rfl ln)))) rfl ?_
    refine awp_seq ?_
    refine seqR ?_
    refine opG rfl (aop_move (av := .q eI bv) (.inl rfl) rfl rfl rfl ?_)
    refine opG rfl (aop_len rfl rfl rfl rfl ut38 (len_ro rfl) ?_)
    refine opG rfl (aop_move (av := .q eI av) (.inl rfl) rfl rfl rfl ?_)
    refine opG rfl (aop_len rfl rfl rfl rfl ut38 (len_ro rfl) ?_)
    refine opG rfl (aop_binI (u := (.bool (decide ((bv.length : Int) < (av.length : Int))))) rfl rfl rfl rfl rfl trivial rfl ?_)
    refine opG rfl (aop_move (av := .b (decide ((bv.length : Int) < (av.length : Int)))) (.inl rfl) rfl rfl rfl ?_)
    refine aops_grp 7 71 (.b ((decide ((bv.length : Int) < (av.length : Int))) || (decide ((av.length : Int) < ((wk d x).length : Int))))) ?_ ?_
    · refine (Bool.eq_false_or_eq_true (decide ((bv.length : Int) < (av.length : Int)))).elim (fun hg5 => ?_) (fun hg5 => ?_)
      · skip
        have hf6 := of_decide_eq_true hg5
        refine opN rfl rfl rfl rfl (by show yv (.bool (decide ((bv.length : Int) < (av.length : Int)))) ≠ _; rw [hg5]; intro h; cases h) rfl rfl ?_
        refine opN rfl rfl rfl rfl (by show yv (.bool (decide ((bv.length : Int) < (av.length : Int)))) ≠ _; rw [hg5]; intro h; cases h) rfl rfl ?_
        refine opN rfl rfl rfl rfl (by show yv (.bool (decide ((bv.length : Int) < (av.length : Int)))) ≠ _; rw [hg5]; intro h; cases h) rfl rfl ?_
        refine opN rfl rfl rfl rfl (by show yv (.bool (decide ((bv.length : Int) < (av.length : Int)))) ≠ _; rw [hg5]; intro h; cases h) rfl rfl ?_
        refine opN rfl rfl rfl rfl (by show yv (.bool (decide ((bv.length : Int) < (av.length : Int)))) ≠ _; rw [hg5]; intro h; cases h) rfl rfl ?_
        refine opN rfl rfl rfl rfl (by show yv (.bool (decide ((bv.length : Int) < (av.length : Int)))) ≠ _; rw [hg5]; intro h; cases h) rfl rfl ?_
        refine opG rfl (aop_pick (b := (decide ((bv.length : Int) < (av.length : Int)))) (av := .b true) rfl rfl rfl rfl ((congrArg (fun b_ => cond b_ _ _) hg5).trans rfl) ?_)
        refine op0 ?_
        exact imp_env (lee_both 71 _ _ (by rw [hg5] <;> rfl) (lee_out 70 _ rfl (lee_out 69 _ rfl (lee_out 68 _ rfl (lee_out 67 _ rfl (lee_out 66 _ rfl (lee_out 65 _ rfl (lee_same _))))))))
      · skip
        have hf7 := of_decide_eq_false hg5
        refine opY rfl rfl rfl (by show AV.v (.bool (decide ((bv.length : Int) < (av.length : Int)))) = _; rw [hg5]) (aop_move (av := .q eI av) (.inl rfl) rfl rfl rfl ?_)
        refine opY rfl rfl rfl (by show AV.v (.bool (decide ((bv.length : Int) < (av.length : Int)))) = _; rw [hg5]) (aop_len rfl rfl rfl rfl ut38 (len_ro rfl) ?_)
        refine opY rfl rfl rfl (by show AV.v (.bool (decide ((bv.length : Int) < (av.length : Int)))) = _; rw [hg5]) (aop_fieldAddr (av := .pt 2 0) (av' := .pt 2 5) rfl rfl rfl ft40_5 sz38 rfl rfl rfl ?_)
        refine opY rfl rfl rfl (by show AV.v (.bool (decide ((bv.length : Int) < (av.length : Int)))) = _; rw [hg5]) (aop_ld (av := .q eI (wk d x)) rfl rfl rfl ag38 rfl rfl ?_)
        refine opY rfl rfl rfl (by show AV.v (.bool (decide ((bv.length : Int) < (av.length : Int)))) = _; rw [hg5]) (aop_len rfl rfl rfl rfl ut38 (len_ro rfl) ?_)
        refine opY rfl rfl rfl (by show AV.v (.bool (decide ((bv.length : Int) < (av.length : Int)))) = _; rw [hg5]) (aop_binI (u := (.bool (decide ((av.length : Int) < ((wk d x).length : Int))))) rfl rfl rfl rfl rfl trivial rfl ?_)
        refine opG rfl (aop_pick (b := (decide ((bv.length : Int) < (av.length : Int)))) (av := .b (decide ((av.length : Int) < ((wk d x).length : Int)))) rfl rfl rfl rfl ((congrArg (fun b_ => cond b_ _ _) hg5).trans rfl) ?_)
        refine op0 ?_
        exact imp_env (lee_both 71 _ _ (by rw [hg5] <;> rfl) (lee_out 70 _ rfl (lee_out 69 _ rfl (lee_out 68 _ rfl (lee_out 67 _ rfl (lee_out 66 _ rfl (lee_out 65 _ rfl (lee_same _))))))))
    refine op0 ?_
    show AWP _ _ _ _ _
    refine rs_ (upd (upd (upd (upd (upd none_ 8 (.b false)) 10 (.pt 2 0)) 15 (.q eI av)) 16 (.q eI bv)) 71 (.b ((decide ((bv.length : Int) < (av.length : Int))) || (decide ((av.length : Int) < ((wk d x).length : Int)))))) (updO (updO noOb 1 (.live ⟨[.v (.int .u8 x.fr), .v (.int .u8 x.lg), .q eU8 x.turns, .v (.int .u16 x.ahd), .v (.int .u16 x.heard), .v (.int .u16 x.ticks), .v (.int .u16 x.speed), .q eB x.right], 29, 1⟩)) 2 (.live ⟨[.i 4, .i x.heard, .i (-1), .i (dr x), .i (ah d x), .q eI (wk d x)], 40, 1⟩)) (lu rfl (lu rfl (lu rfl (lu rfl (lu rfl ln))))) rfl ?_
    refine awp_cond ((decide ((bv.length : Int) < (av.length : Int))) || (decide ((av.length : Int) < ((wk d x).length : Int)))) rfl rfl (fun hc2 => ?_) (fun hc2 => ?_)
    · skip
      exfalso; simp at hc2; omega
    · skip
      obtain ⟨hf8a, hf8b⟩ := or_f hc2
      have hf9 := of_decide_eq_false hf8a
      have hf10 := of_decide_eq_false hf8b
      refine awp_skip ?_
      show AWP _ _ _ _ _
      refine awp_seq ?_
      refine awp_draw (m := 30) [(101, .b (((riseL bv).length : Int) == (bv.length : Int))), (100, .b (((riseL bv).length : Int) == (bv.length : Int))), (99, .i (bv.length : Int)), (98, .q eI bv), (97, .i ((riseL bv).length : Int)), (96, .q eI (riseL bv)), (95, .q eI bv), (94, .b true), (93, .b true), (92, .b true), (91, .q eI (wk d x)), (90, .pt 2 5), (89, .q eI (av.drop (av.length - (wk d x).length))), (88, .i ((av.length - (wk d x).length : Nat) : Int)), (87, .i ((wk d x).length : Int)), (86, .q eI (wk d x)), (85, .pt 2 5), (84, .i (av.length : Int)), (83, .q eI av), (82, .q eI av), (81, .b true), (80, .b true), (79, .q eI av), (78, .q eI (bv.drop (bv.length - av.length))), (77, .i ((bv.length - av.length : Nat) : Int)), (76, .i (av.length : Int)), (75, .q eI av), (74, .i (bv.length : Int)), (73, .q eI bv), (72, .q eI bv)] mixed (by kernel_rfl) ?_ ?_
      · refine ⟨?_, ?_, ?_, ?_, ?_, ?_, ?_, ?_, ?_, ?_, ?_, ?_, ?_, ?_, ?_, ?_, ?_, ?_, ?_, ?_, ?_, ?_, ?_, ?_, ?_, ?_, ?_, ?_, ?_, ?_, trivial⟩
        · exact ⟨72, rfl, blt_lt rfl, fun st hob hE => aop_move (av := .q eI bv) (.inl rfl) rfl rfl (hE 16 rfl) (by rw [hob]; rfl)⟩
        · exact ⟨73, rfl, blt_lt rfl, fun st hob hE => aop_move (av := .q eI bv) (.inl rfl) rfl rfl (hE 16 rfl) (by rw [hob]; rfl)⟩
        · exact ⟨74, rfl, blt_lt rfl, fun st hob hE => aop_len rfl rfl rfl rfl ut38 (len_ro (hE 73 rfl)) (by rw [hob]; rfl)⟩
        · exact ⟨75, rfl, blt_lt rfl, fun st hob hE => aop_move (av := .q eI av) (.inl rfl) rfl rfl (hE 15 rfl) (by rw [hob]; rfl)⟩
        · exact ⟨76, rfl, blt_lt rfl, fun st hob hE => aop_len rfl rfl rfl rfl ut38 (len_ro (hE 75 rfl)) (by rw [hob]; rfl)⟩
        · exact ⟨77, rfl, blt_lt rfl, fun st hob hE => aop_binI (u := (.int .i64 ((bv.length - av.length : Nat) : Int))) rfl rfl rfl (hE 74 rfl) (hE 76 rfl) trivial (subNat g1 (by omega)) (by rw [hob]; rfl)⟩
        · exact ⟨78, rfl, blt_lt rfl, fun st hob hE => aop_sliceRoN (l := bv.length - av.length) (hgh := bv.length) (cells' := enc eI (bv.drop (bv.length - av.length))) ((bv.drop (bv.length - av.length))).length rfl rfl rfl ut38 sz3 (hE 72 rfl) ⟨_, (hE 77 rfl)⟩ rfl (by omega) (by first | omega | (simp; done) | decide | (simp; omega) | (simp at *; omega)) (sliceE1 (f := eI) (fun _ => rfl) _ _ _ rfl) (by simp) (by rw [hob]; rfl)⟩
        · exact ⟨79, rfl, blt_lt rfl, fun st hob hE => aop_move (av := .q eI av) (.inl rfl) rfl rfl (hE 15 rfl) (by rw [hob]; rfl)⟩
        · exact ⟨80, rfl, blt_lt rfl, fun st hob hE => call_ (show Fn Try.prog 14 [.q eI (bv.drop (bv.length - av.length)), .q eI av] (.b true) from (by have h_ := r01_Ints (bv.drop (bv.length - av.length)) av (by rw [g3]; omega); rw [decide_eq_true g3] at h_; exact h_)) rfl rfl rfl rfl rfl bd14 (by show [st.env 78, st.env 79] ++ _ = _; rw [hE 78 rfl, hE 79 rfl]; rfl) (by rw [hob]; rfl)⟩
        · exact ⟨81, rfl, blt_lt rfl, fun st hob hE => aop_move (av := .b true) (.inl rfl) rfl rfl (hE 80 rfl) (by rw [hob]; rfl)⟩
        · exact ⟨81, .bool true, rfl, blt_lt rfl, rfl, (fun _ => ⟨82, rfl, blt_lt rfl, fun st hob hE => aop_move (av := .q eI av) (.inl rfl) rfl rfl (hE 15 rfl) (by rw [hob]; rfl)⟩), (fun h => absurd rfl h)⟩
        · exact ⟨81, .bool true, rfl, blt_lt rfl, rfl, (fun _ => ⟨83, rfl, blt_lt rfl, fun st hob hE => aop_move (av := .q eI av) (.inl rfl) rfl rfl (hE 15 rfl) (by rw [hob]; rfl)⟩), (fun h => absurd rfl h)⟩
        · exact ⟨81, .bool true, rfl, blt_lt rfl, rfl, (fun _ => ⟨84, rfl, blt_lt rfl, fun st hob hE => aop_len rfl rfl rfl rfl ut38 (len_ro (hE 83 rfl)) (by rw [hob]; rfl)⟩), (fun h => absurd rfl h)⟩
        · exact ⟨81, .bool true, rfl, blt_lt rfl, rfl, (fun _ => ⟨85, rfl, blt_lt rfl, fun st hob hE => aop_fieldAddr (av := .pt 2 0) (av' := .pt 2 5) rfl rfl rfl ft40_5 sz38 (hE 10 rfl) rfl rfl (by rw [hob]; rfl)⟩), (fun h => absurd rfl h)⟩
        · exact ⟨81, .bool true, rfl, blt_lt rfl, rfl, (fun _ => ⟨86, rfl, blt_lt rfl, fun st hob hE => aop_ld (av := .q eI (wk d x)) rfl rfl rfl ag38 (hE 85 rfl) (by rw [hob]; rfl) (by rw [hob]; rfl)⟩), (fun h => absurd rfl h)⟩
        · exact ⟨81, .bool true, rfl, blt_lt rfl, rfl, (fun _ => ⟨87, rfl, blt_lt rfl, fun st hob hE => aop_len rfl rfl rfl rfl ut38 (len_ro (hE 86 rfl)) (by rw [hob]; rfl)⟩), (fun h => absurd rfl h)⟩
        · exact ⟨81, .bool true, rfl, blt_lt rfl, rfl, (fun _ => ⟨88, rfl, blt_lt rfl, fun st hob hE => aop_binI (u := (.int .i64 ((av.length - (wk d x).length : Nat) : Int))) rfl rfl rfl (hE 84 rfl) (hE 87 rfl) trivial (subNat g2 (by omega)) (by rw [hob]; rfl)⟩), (fun h => absurd rfl h)⟩
        · exact ⟨81, .bool true, rfl, blt_lt rfl, rfl, (fun _ => ⟨89, rfl, blt_lt rfl, fun st hob hE => aop_sliceRoN (l := av.length - (wk d x).length) (hgh := av.length) (cells' := enc eI (av.drop (av.length - (wk d x).length))) ((av.drop (av.length - (wk d x).length))).length rfl rfl rfl ut38 sz3 (hE 82 rfl) ⟨_, (hE 88 rfl)⟩ rfl (by omega) (by first | omega | (simp; done) | decide | (simp; omega) | (simp at *; omega)) (sliceE1 (f := eI) (fun _ => rfl) _ _ _ rfl) (by simp) (by rw [hob]; rfl)⟩), (fun h => absurd rfl h)⟩
        · exact ⟨81, .bool true, rfl, blt_lt rfl, rfl, (fun _ => ⟨90, rfl, blt_lt rfl, fun st hob hE => aop_fieldAddr (av := .pt 2 0) (av' := .pt 2 5) rfl rfl rfl ft40_5 sz38 (hE 10 rfl) rfl rfl (by rw [hob]; rfl)⟩), (fun h => absurd rfl h)⟩
        · exact ⟨81, .bool true, rfl, blt_lt rfl, rfl, (fun _ => ⟨91, rfl, blt_lt rfl, fun st hob hE => aop_ld (av := .q eI (wk d x)) rfl rfl rfl ag38 (hE 90 rfl) (by rw [hob]; rfl) (by rw [hob]; rfl)⟩), (fun h => absurd rfl h)⟩
        · exact ⟨81, .bool true, rfl, blt_lt rfl, rfl, (fun _ => ⟨92, rfl, blt_lt rfl, fun st hob hE => call_ (show Fn Try.prog 14 [.q eI (av.drop (av.length - (wk d x).length)), .q eI (wk d x)] (.b true) from (by have h_ := r01_Ints (av.drop (av.length - (wk d x).length)) (wk d x) (by rw [g4]; omega); rw [decide_eq_true g4] at h_; exact h_)) rfl rfl rfl rfl rfl bd14 (by show [st.env 89, st.env 91] ++ _ = _; rw [hE 89 rfl, hE 91 rfl]; rfl) (by rw [hob]; rfl)⟩), (fun h => absurd rfl h)⟩
        · exact ⟨93, rfl, blt_lt rfl, fun st hob hE => aop_pick (b := true) (av := .b true) rfl rfl rfl (hE 81 rfl) (hE 92 rfl) (by rw [hob]; rfl)⟩
        · exact ⟨94, rfl, blt_lt rfl, fun st hob hE => aop_move (av := .b true) (.inl rfl) rfl rfl (hE 93 rfl) (by rw [hob]; rfl)⟩
        · exact ⟨94, .bool true, rfl, blt_lt rfl, rfl, (fun _ => ⟨95, rfl, blt_lt rfl, fun st hob hE => aop_move (av := .q eI bv) (.inl rfl) rfl rfl (hE 16 rfl) (by rw [hob]; rfl)⟩), (fun h => absurd rfl h)⟩
        · exact ⟨94, .bool true, rfl, blt_lt rfl, rfl, (fun _ => ⟨96, rfl, blt_lt rfl, fun st hob hE => call_ (r01_Rise bv (by omega)) rfl rfl rfl rfl rfl bd15 (by show [st.env 95] ++ _ = _; rw [hE 95 rfl]; rfl) (by rw [hob]; rfl)⟩), (fun h => absurd rfl h)⟩
        · exact ⟨94, .bool true, rfl, blt_lt rfl, rfl, (fun _ => ⟨97, rfl, blt_lt rfl, fun st hob hE => aop_len rfl rfl rfl rfl ut38 (len_ro (hE 96 rfl)) (by rw [hob]; rfl)⟩), (fun h => absurd rfl h)⟩
        · exact ⟨94, .bool true, rfl, blt_lt rfl, rfl, (fun _ => ⟨98, rfl, blt_lt rfl, fun st hob hE => aop_move (av := .q eI bv) (.inl rfl) rfl rfl (hE 16 rfl) (by rw [hob]; rfl)⟩), (fun h => absurd rfl h)⟩
        · exact ⟨94, .bool true, rfl, blt_lt rfl, rfl, (fun _ => ⟨99, rfl, blt_lt rfl, fun st hob hE => aop_len rfl rfl rfl rfl ut38 (len_ro (hE 98 rfl)) (by rw [hob]; rfl)⟩), (fun h => absurd rfl h)⟩
        · exact ⟨94, .bool true, rfl, blt_lt rfl, rfl, (fun _ => ⟨100, rfl, blt_lt rfl, fun st hob hE => aop_binI (u := (.bool (((riseL bv).length : Int) == (bv.length : Int)))) rfl rfl rfl (hE 97 rfl) (hE 99 rfl) trivial rfl (by rw [hob]; rfl)⟩), (fun h => absurd rfl h)⟩
        · exact ⟨101, rfl, blt_lt rfl, fun st hob hE => aop_pick (b := true) (av := .b (((riseL bv).length : Int) == (bv.length : Int))) rfl rfl rfl (hE 94 rfl) (hE 100 rfl) (by rw [hob]; rfl)⟩
      refine opG rfl (aop_move (av := .b (((riseL bv).length : Int) == (bv.length : Int))) (.inr rfl) rfl rfl rfl ?_)
      refine op0 ?_
      show AWP _ _ _ _ _
      refine awp_ret ?_
      exact fret (av := .v (.bool (((riseL bv).length : Int) == (bv.length : Int)))) rfl rfl (by rw [riseL_nodup g5]; simp)
end Go.Lo
