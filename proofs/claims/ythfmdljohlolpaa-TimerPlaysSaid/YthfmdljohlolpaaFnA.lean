/- Walks of Go functions in the logic of values. -/
import Derived.Test.YthfmdljohlolpaaFnATy
import Derived.Test.YthfmdljohlolpaaDef
set_option linter.unusedVariables false
set_option linter.unusedSimpArgs false
set_option maxRecDepth 10000
set_option maxHeartbeats 16000000
namespace Go.Lo
open Go.Proofs
theorem r01_Ints (a b : List Int) (hl : a.length ≤ 4294967296) : Fn Try.prog 22 [.ro a.length (enc eI a), .ro b.length (enc eI b)] (.v (.bool (decide (a = b)))) := by
 refine fnE_of_body (N := 26) Try.func22 rfl rfl (resOf1 rfl) (by simp) (fun w0 X hL_ => ?_)
 refine seqR ?_
 refine mG (.b false) ?_
 refine op0 ?_
 refine awp_seq ?_
 refine seqR ?_
 refine mG (.q eI a) ?_
 refine opG rfl (aop_len rfl rfl rfl rfl ut28 (len_ro rfl) ?_)
 refine mG (.q eI b) ?_
 refine opG rfl (aop_len rfl rfl rfl rfl ut28 (len_ro rfl) ?_)
 refine bG ((.bool ((a.length : Int) != (b.length : Int)))) ?_
 refine op0 ?_
 refine rT (upd (upd (upd (upd none_ 0 (.q eI a)) 1 (.q eI b)) 4 (.b false)) 10 (.b ((a.length : Int) != (b.length : Int)))) noOb ?_
 refine awp_cond ((a.length : Int) != (b.length : Int)) rfl rfl (fun hc0 => ?_) (fun hc0 => ?_)
 ·skip
  have hf1 := (bne_iff_ne).1 hc0
  refine seqR ?_
  refine mG (.b false) ?_
  refine op0 ?_
  refine awp_ret ?_
  exact fret (av := .v (.bool false)) rfl rfl (by rw [alike_off (by omega)] <;> rfl)
 ·skip
  have hf2 := (bne_eq_false_iff_eq).1 hc0
  refine awp_skip ?_
  refine awp_seq ?_
  refine seqR ?_
  refine mG (.i 0) ?_
  refine op0 ?_
  refine awp_block ?_
  refine awp_countI (fun k => ⟨(upd (upd (upd (upd none_ 0 (.q eI a)) 1 (.q eI b)) 4 (.b false)) 5 (.i (k : Int))), noOb⟩) (fun k => a.take k = b.take k) (a.length) ?_ (by simp) (fun k hk_k hinv => ?_)
  ·skip
   exact iN
  refine awp_seq ?_
  refine seqR ?_
  refine mG (.i (k : Int)) ?_
  refine mG (.q eI a) ?_
  refine opG rfl (aop_len rfl rfl rfl rfl ut28 (len_ro rfl) ?_)
  refine bG ((.bool (decide ((k : Int) < (a.length : Int))))) ?_
  refine op0 ?_
  refine rT (upd (upd (upd (upd (upd none_ 0 (.q eI a)) 1 (.q eI b)) 4 (.b false)) 5 (.i (k : Int))) 14 (.b (decide ((k : Int) < (a.length : Int))))) noOb ?_
  refine awp_cond (decide ((k : Int) < (a.length : Int))) rfl rfl (fun hc1 => ?_) (fun hc1 => ?_)
  ·skip
   have hf3 := of_decide_eq_true hc1
   refine awp_skip ?_
   refine awp_seq ?_
   refine awp_block ?_
   refine awp_seq ?_
   refine awp_draw (m := 9) [(25, .b ((a.getD k 0) != (b.getD k 0))), (24, .i (b.getD k 0)), (23, .rp (([.i (b.getD k 0)] : List AV) ++ ((enc eI b).drop ((k + 1) * 1)))), (22, .i (k : Int)), (21, .q eI b), (20, .i (a.getD k 0)), (19, .rp (([.i (a.getD k 0)] : List AV) ++ ((enc eI a).drop ((k + 1) * 1)))), (18, .i (k : Int)), (17, .q eI a)] mixed (by kernel_rfl) ?_ ?_
   ·refine ⟨?_, ?_, ?_, ?_, ?_, ?_, ?_, ?_, ?_, trivial⟩
    ·exact sMv
    ·exact sMv
    ·exact (sIx (0 : Int) ut28 sz3)
    ·exact (sLd ag3)
    ·exact sMv
    ·exact sMv
    ·exact (sIx (0 : Int) ut28 sz3)
    ·exact (sLd ag3)
    ·exact ⟨25, rfl, blt_lt rfl, fun st hob hE => aop_binI (u := (.bool ((a.getD k 0) != (b.getD k 0)))) rfl rfl rfl (hE 20 rfl) (hE 24 rfl) trivial rfl (by rw [hob]; rfl)⟩
   refine op0 ?_
   refine awp_cond ((a.getD k 0) != (b.getD k 0)) rfl rfl (fun hc2 => ?_) (fun hc2 => ?_)
   ·skip
    have hf4 := (bne_iff_ne).1 hc2
    have hne := (bne_iff_ne).1 hc2
    refine seqR ?_
    refine mG (.b false) ?_
    refine op0 ?_
    refine awp_ret ?_
    exact fret (av := .v (.bool false)) rfl rfl (by rw [alike_stop hne] <;> rfl)
   ·skip
    have hf5 := (bne_eq_false_iff_eq).1 hc2
    have hne := (bne_eq_false_iff_eq).1 hc2
    refine awp_skip ?_
    refine regR ?_
    refine mG (.i (k : Int)) ?_
    refine opG rfl (aop_binI (u := (.int .i64 ((k + 1 : Nat) : Int))) rfl rfl rfl rfl rfl trivial (addN (by omega)) ?_)
    refine mG (.i ((k + 1 : Nat) : Int)) ?_
    refine op0 ?_
    show _ ∧ _
    refine ⟨by omega, (alike_step (d := 0) (by omega) (by omega) hinv hne), ?_⟩
    exact iN
  ·skip
   have hf6 := of_decide_eq_false hc1
   refine awp_exit ?_
   refine seqR ?_
   refine mG (.b true) ?_
   refine op0 ?_
   refine awp_ret ?_
   exact fret (av := .v (.bool true)) rfl rfl (by rw [alike_end (by omega) (by omega) hinv] <;> rfl)
theorem r01_Has (l : List Int) (n : Int) (hl : l.length ≤ 4294967296) : Fn Try.prog 23 [.ro l.length (enc eI l), .v (.int .i64 n)] (.v (.bool (decide (n ∈ l)))) := by
 refine fnE_of_body (N := 18) Try.func23 rfl rfl (resOf1 rfl) (by simp) (fun w0 X hL_ => ?_)
 refine seqR ?_
 refine mG (.b false) ?_
 refine op0 ?_
 refine awp_seq ?_
 refine seqR ?_
 refine mG (.i 0) ?_
 refine op0 ?_
 refine awp_block ?_
 refine awp_countI (fun k => ⟨(upd (upd (upd (upd none_ 0 (.q eI l)) 1 (.i n)) 4 (.b false)) 5 (.i (k : Int))), noOb⟩) (fun k => n ∉ l.take k) (l.length) ?_ (by simp) (fun k hk_k hinv => ?_)
 ·skip
  exact iN
 refine awp_seq ?_
 refine seqR ?_
 refine mG (.i (k : Int)) ?_
 refine mG (.q eI l) ?_
 refine opG rfl (aop_len rfl rfl rfl rfl ut28 (len_ro rfl) ?_)
 refine bG ((.bool (decide ((k : Int) < (l.length : Int))))) ?_
 refine op0 ?_
 refine rT (upd (upd (upd (upd (upd none_ 0 (.q eI l)) 1 (.i n)) 4 (.b false)) 5 (.i (k : Int))) 9 (.b (decide ((k : Int) < (l.length : Int))))) noOb ?_
 refine awp_cond (decide ((k : Int) < (l.length : Int))) rfl rfl (fun hc0 => ?_) (fun hc0 => ?_)
 ·skip
  have hf1 := of_decide_eq_true hc0
  refine awp_skip ?_
  refine awp_seq ?_
  refine awp_block ?_
  refine seqR ?_
  refine mG (.q eI l) ?_
  refine mG (.i (k : Int)) ?_
  refine opG rfl (aop_ixE 0 rfl rfl rfl ut28 sz3 rfl rfl (fun _ => rfl) rfl (by first | omega | (simp; done) | decide | (simp at *; omega)) ?_)
  refine opG rfl (aop_ld (av := .i (l.getD k 0)) rfl rfl rfl ag3 rfl rfl ?_)
  refine mG (.i n) ?_
  refine bG ((.bool ((l.getD k 0) == n))) ?_
  refine op0 ?_
  refine rT (upd (upd (upd (upd (upd none_ 0 (.q eI l)) 1 (.i n)) 4 (.b false)) 5 (.i (k : Int))) 17 (.b ((l.getD k 0) == n))) noOb ?_
  refine awp_cond ((l.getD k 0) == n) rfl rfl (fun hc1 => ?_) (fun hc1 => ?_)
  ·skip
   have hf2 := (beq_iff_eq).1 hc1
   have heq := (beq_iff_eq).1 hc1
   refine seqR ?_
   refine mG (.b true) ?_
   refine op0 ?_
   refine awp_ret ?_
   exact fret (av := .v (.bool true)) rfl rfl (by rw [has_stop (by omega) heq] <;> rfl)
  ·skip
   have hf3 := (beq_eq_false_iff_ne).1 hc1
   have hne := (beq_eq_false_iff_ne).1 hc1
   refine awp_skip ?_
   refine regR ?_
   refine mG (.i (k : Int)) ?_
   refine opG rfl (aop_binI (u := (.int .i64 ((k + 1 : Nat) : Int))) rfl rfl rfl rfl rfl trivial (addN (by omega)) ?_)
   refine mG (.i ((k + 1 : Nat) : Int)) ?_
   refine op0 ?_
   show _ ∧ _
   refine ⟨by omega, (has_step (d := 0) (by omega) hinv hne), ?_⟩
   exact iN
 ·skip
  have hf4 := of_decide_eq_false hc0
  refine awp_exit ?_
  refine seqR ?_
  refine mG (.b false) ?_
  refine op0 ?_
  refine awp_ret ?_
  exact fret (av := .v (.bool false)) rfl rfl (by rw [has_end (by omega) hinv] <;> rfl)
end Go.Lo
