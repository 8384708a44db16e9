/- Walks of Go functions in the logic of values: what the law reaches. -/
import Derived.Test.YtnjncdidiijpgaaPFnPoqSo
import Derived.Test.YtnjncdidiijpgaaProg
import Derived.Test.YtnjncdidiijpgaaPFnPoqLoX
import Derived.KernelRfl
import Derived.Test.YtnjncdidiijpgaaPFnPoqDef
import Derived.Test.YtnjncdidiijpgaaPFnPoqLay
import Derived.Test.YtnjncdidiijpgaaPFnPoqGr
import Derived.Test.YtnjncdidiijpgaaPFnPoqSt
import Derived.Test.YtnjncdidiijpgaaPFnPoqPa
import Derived.Test.YtnjncdidiijpgaaPFnPoqAu
import Derived.Test.YtnjncdidiijpgaaPFnPoqLoY
import Derived.Test.YtnjncdidiijpgaaPFnPoqNo
import Derived.Test.YtnjncdidiijpgaaPFnPoqRo
import Derived.Test.YtnjncdidiijpgaaPFnPoqAc
import Derived.Test.YtnjncdidiijpgaaPFnPoqRs
import Derived.Test.YtnjncdidiijpgaaPFnPoqRt
import Derived.Test.YtnjncdidiijpgaaPFnPoqDr
import Derived.Test.YtnjncdidiijpgaaPFnPoqOw
import Derived.Test.YtnjncdidiijpgaaPFnPoqLk
import Derived.Test.YtnjncdidiijpgaaPFnPoqAp
import Derived.Test.YtnjncdidiijpgaaPFnPoqAq
import Derived.Test.YtnjncdidiijpgaaPFnPoqLs
import Derived.Test.YtnjncdidiijpgaaPFnPoqAn
import Derived.Test.YtnjncdidiijpgaaPFnPoqRw
set_option linter.unusedVariables false
set_option linter.unusedSimpArgs false
set_option maxRecDepth 10000
set_option maxHeartbeats 16000000
namespace Go.Lo
open Go.Proofs
theorem ag3 : aggT Try.prog 3 = some false := by kernel_rfl
theorem ag4 : aggT Try.prog 4 = some false := by kernel_rfl
theorem bd59 : bodied Try.prog 59 = true := by kernel_rfl
theorem ft110_0 : fieldT Try.prog 110 0 = some (3, 0) := by kernel_rfl
theorem ft110_1 : fieldT Try.prog 110 1 = some (4, 1) := by kernel_rfl
theorem in4 : (Try.prog.info? 4).map (fun i => (i.zero, i.size, i.bytes)) = some (some (.bool false), 1, 1) := by kernel_rfl
theorem mixed : Try.prog.follows .mixedOrders = true := by kernel_rfl
theorem sz110 : (Try.prog.info? 110).map (·.size) = some 2 := by kernel_rfl
theorem sz3 : (Try.prog.info? 3).map (·.size) = some 1 := by kernel_rfl
theorem sz4 : (Try.prog.info? 4).map (·.size) = some 1 := by kernel_rfl
theorem ut28 : Try.prog.underlying 28 = some (.slice 4) := by kernel_rfl
theorem ut48 : Try.prog.underlying 48 = some (.slice 3) := by kernel_rfl
theorem ut91 : Try.prog.underlying 91 = some (.slice 110) := by kernel_rfl
theorem r14_stands (a : List Bool) (p : Int) (hl : a.length ≤ 4294967296) : Fn Try.prog 59 [.ro a.length (enc eB a), .v (.int .i64 p)] (.v (.bool (hasB a p))) := by
 refine fnE_of_body (N := 19) Try.func59 rfl rfl (resOf1 rfl) (by simp) (fun w0 X hL_ => ?_)
 refine seqR ?_
 refine mG (.b false) ?_
 refine op0 ?_
 refine seqR ?_
 refine mG (.i p) ?_
 refine bG ((.bool (decide (p ≥ 0)))) ?_
 refine mG (.b (decide (p ≥ 0))) ?_
 refine aops_grp 5 12 (.b ((decide (p ≥ 0)) && (decide (p < (a.length : Int))))) ?_ ?_
 ·refine (Bool.eq_false_or_eq_true (decide (p ≥ 0))).elim (fun hg1 => ?_) (fun hg1 => ?_)
  ·skip
   have hf2 := of_decide_eq_true hg1
   refine oY hg1 (qM (.i p) ?_)
   refine oY hg1 (qM (.q eB a) ?_)
   refine oY hg1 (qN ut28 ?_)
   refine oY hg1 (qB (.bool (decide (p < (a.length : Int)))) rfl ?_)
   refine oG (qP (decide (p ≥ 0)) (.b (decide (p < (a.length : Int)))) hg1 ?_)
   refine op0 ?_
   exact imp_env (lee_both 12 _ _ (by rw [hg1] <;> rfl) lO)
  have hf3 := of_decide_eq_false hg1
  refine nG hg1 ?_
  refine nG hg1 ?_
  refine nG hg1 ?_
  refine nG hg1 ?_
  refine oG (qP (decide (p ≥ 0)) (.b false) hg1 ?_)
  refine op0 ?_
  exact imp_env (lee_both 12 _ _ (by rw [hg1] <;> rfl) lO)
 refine mG (.b ((decide (p ≥ 0)) && (decide (p < (a.length : Int))))) ?_
 refine aops_grp 5 18 (.b (((decide (p ≥ 0)) && (decide (p < (a.length : Int)))) && (a.getD p.toNat false))) ?_ ?_
 ·refine (Bool.eq_false_or_eq_true ((decide (p ≥ 0)) && (decide (p < (a.length : Int))))).elim (fun hg4 => ?_) (fun hg4 => ?_)
  ·skip
   obtain ⟨hf5a, hf5b⟩ := and_t hg4
   have hf6 := of_decide_eq_true hf5a
   have hf7 := of_decide_eq_true hf5b
   refine oY hg4 (qM (.q eB a) ?_)
   refine oY hg4 (qM (.i p) ?_)
   refine oY hg4 (aop_ixI false rfl rfl rfl ut28 sz4 rfl rfl (fun _ => rfl) rfl om oo ?_)
   refine oY hg4 (qL (.b (a.getD p.toNat false)) ag4 ?_)
   refine oG (qP ((decide (p ≥ 0)) && (decide (p < (a.length : Int)))) (.b (a.getD p.toNat false)) hg4 ?_)
   refine op0 ?_
   exact imp_env (lee_both 18 _ _ (by rw [hg4] <;> rfl) lO)
  refine nG hg4 ?_
  refine nG hg4 ?_
  refine nG hg4 ?_
  refine nG hg4 ?_
  refine oG (qP ((decide (p ≥ 0)) && (decide (p < (a.length : Int)))) (.b false) hg4 ?_)
  refine op0 ?_
  exact imp_env (lee_both 18 _ _ (by rw [hg4] <;> rfl) lO)
 refine mG (.b (((decide (p ≥ 0)) && (decide (p < (a.length : Int)))) && (a.getD p.toNat false))) ?_
 refine op0 ?_
 refine rT (upd none_ 4 (.b (((decide (p ≥ 0)) && (decide (p < (a.length : Int)))) && (a.getD p.toNat false)))) noOb ?_
 refine awp_ret ?_
 exact fret (av := .v (.bool (((decide (p ≥ 0)) && (decide (p < (a.length : Int)))) && (a.getD p.toNat false)))) rfl rfl rfl
theorem p_has (a : List Bool) (p : Int) (hl : a.length ≤ 4294967296) : Fn Try.prog 84 [.ro a.length (enc eB a), .v (.int .i64 p)] (.v (.bool (hasB a p))) := by
 refine fnE_of_body (N := 19) Try.func84 rfl rfl (resOf1 rfl) (by simp) (fun w0 X hL_ => ?_)
 refine seqR ?_
 refine mG (.b false) ?_
 refine op0 ?_
 refine seqR ?_
 refine mG (.i p) ?_
 refine bG ((.bool (decide (p ≥ 0)))) ?_
 refine mG (.b (decide (p ≥ 0))) ?_
 refine aops_grp 5 12 (.b ((decide (p ≥ 0)) && (decide (p < (a.length : Int))))) ?_ ?_
 ·refine (Bool.eq_false_or_eq_true (decide (p ≥ 0))).elim (fun hg1 => ?_) (fun hg1 => ?_)
  ·skip
   have hf2 := of_decide_eq_true hg1
   refine oY hg1 (qM (.i p) ?_)
   refine oY hg1 (qM (.q eB a) ?_)
   refine oY hg1 (qN ut28 ?_)
   refine oY hg1 (qB (.bool (decide (p < (a.length : Int)))) rfl ?_)
   refine oG (qP (decide (p ≥ 0)) (.b (decide (p < (a.length : Int)))) hg1 ?_)
   refine op0 ?_
   exact imp_env (lee_both 12 _ _ (by rw [hg1] <;> rfl) lO)
  have hf3 := of_decide_eq_false hg1
  refine nG hg1 ?_
  refine nG hg1 ?_
  refine nG hg1 ?_
  refine nG hg1 ?_
  refine oG (qP (decide (p ≥ 0)) (.b false) hg1 ?_)
  refine op0 ?_
  exact imp_env (lee_both 12 _ _ (by rw [hg1] <;> rfl) lO)
 refine mG (.b ((decide (p ≥ 0)) && (decide (p < (a.length : Int))))) ?_
 refine aops_grp 5 18 (.b (((decide (p ≥ 0)) && (decide (p < (a.length : Int)))) && (a.getD p.toNat false))) ?_ ?_
 ·refine (Bool.eq_false_or_eq_true ((decide (p ≥ 0)) && (decide (p < (a.length : Int))))).elim (fun hg4 => ?_) (fun hg4 => ?_)
  ·skip
   obtain ⟨hf5a, hf5b⟩ := and_t hg4
   have hf6 := of_decide_eq_true hf5a
   have hf7 := of_decide_eq_true hf5b
   refine oY hg4 (qM (.q eB a) ?_)
   refine oY hg4 (qM (.i p) ?_)
   refine oY hg4 (aop_ixI false rfl rfl rfl ut28 sz4 rfl rfl (fun _ => rfl) rfl om oo ?_)
   refine oY hg4 (qL (.b (a.getD p.toNat false)) ag4 ?_)
   refine oG (qP ((decide (p ≥ 0)) && (decide (p < (a.length : Int)))) (.b (a.getD p.toNat false)) hg4 ?_)
   refine op0 ?_
   exact imp_env (lee_both 18 _ _ (by rw [hg4] <;> rfl) lO)
  refine nG hg4 ?_
  refine nG hg4 ?_
  refine nG hg4 ?_
  refine nG hg4 ?_
  refine oG (qP ((decide (p ≥ 0)) && (decide (p < (a.length : Int)))) (.b false) hg4 ?_)
  refine op0 ?_
  exact imp_env (lee_both 18 _ _ (by rw [hg4] <;> rfl) lO)
 refine mG (.b (((decide (p ≥ 0)) && (decide (p < (a.length : Int)))) && (a.getD p.toNat false))) ?_
 refine op0 ?_
 refine rT (upd none_ 4 (.b (((decide (p ≥ 0)) && (decide (p < (a.length : Int)))) && (a.getD p.toNat false)))) noOb ?_
 refine awp_ret ?_
 exact fret (av := .v (.bool (((decide (p ≥ 0)) && (decide (p < (a.length : Int)))) && (a.getD p.toNat false)))) rfl rfl rfl
abbrev Z0 (a b : List Int) : Nat → AV := (upd (upd (upd none_ 0 (.q eI a)) 1 (.q eI b)) 4 (.b false))
theorem r01_Ints (a b : List Int) (hl : a.length ≤ 4294967296) : Fn Try.prog 16 [.ro a.length (enc eI a), .ro b.length (enc eI b)] (.v (.bool (decide (a = b)))) := by
 refine fnE_of_body (N := 26) Try.func16 rfl rfl (resOf1 rfl) (by simp) (fun w0 X hL_ => ?_)
 refine seqR ?_
 refine mG (.b false) ?_
 refine op0 ?_
 refine awp_seq ?_
 refine seqR ?_
 refine mG (.q eI a) ?_
 refine oG (qN ut48 ?_)
 refine mG (.q eI b) ?_
 refine oG (qN ut48 ?_)
 refine bG ((.bool ((a.length : Int) != (b.length : Int)))) ?_
 refine rU (upd (Z0 a b) 10 (.b ((a.length : Int) != (b.length : Int)))) noOb ?_
 refine awp_cond ((a.length : Int) != (b.length : Int)) rfl rfl (fun hc0 => ?_) (fun hc0 => ?_)
 ·skip
  have hf1 := (bne_iff_ne).1 hc0
  refine seqR ?_
  refine mG (.b false) ?_
  refine op0 ?_
  refine awp_ret ?_
  exact fret (av := .v (.bool false)) rfl rfl (by rw [alike_off om] <;> rfl)
 have hf2 := (bne_eq_false_iff_eq).1 hc0
 refine awp_skip ?_
 refine awp_seq ?_
 refine seqR ?_
 refine mG (.i 0) ?_
 refine op0 ?_
 refine awp_block ?_
 refine awp_countI (fun k => ⟨(upd (Z0 a b) 5 (.i (k : Int))), noOb⟩) (fun k => a.take k = b.take k) (a.length) ?_ (by simp) (fun k hk_k hinv => ?_)
 ·skip
  exact iN
 refine awp_seq ?_
 refine seqR ?_
 refine mG (.i (k : Int)) ?_
 refine mG (.q eI a) ?_
 refine oG (qN ut48 ?_)
 refine bG ((.bool (decide ((k : Int) < (a.length : Int))))) ?_
 refine rU (upd (upd (Z0 a b) 5 (.i (k : Int))) 14 (.b (decide ((k : Int) < (a.length : Int))))) noOb ?_
 refine awp_cond (decide ((k : Int) < (a.length : Int))) rfl rfl (fun hc1 => ?_) (fun hc1 => ?_)
 ·skip
  have hf3 := of_decide_eq_true hc1
  refine awp_skip ?_
  refine awp_seq ?_
  refine awp_block ?_
  refine awp_seq ?_
  refine aD 9 [(25, .b ((a.getD k 0) != (b.getD k 0))), (24, .i (b.getD k 0)), (23, .rp (([.i (b.getD k 0)] : List AV) ++ ((enc eI b).drop ((k + 1) * 1)))), (22, .i (k : Int)), (21, .q eI b), (20, .i (a.getD k 0)), (19, .rp (([.i (a.getD k 0)] : List AV) ++ ((enc eI a).drop ((k + 1) * 1)))), (18, .i (k : Int)), (17, .q eI a)] mixed ?_ ?_
  ·refine ⟨?_, ?_, ?_, ?_, ?_, ?_, ?_, ?_, ?_, trivial⟩
   ·exact sMv
   ·exact sMv
   ·exact (sIx (0 : Int) ut48 sz3)
   ·exact (sLd ag3)
   ·exact sMv
   ·exact sMv
   ·exact (sIx (0 : Int) ut48 sz3)
   ·exact (sLd ag3)
   exact sB (.bool ((a.getD k 0) != (b.getD k 0))) rfl
  refine op0 ?_
  refine awp_cond ((a.getD k 0) != (b.getD k 0)) rfl rfl (fun hc2 => ?_) (fun hc2 => ?_)
  ·skip
   have hf4 := (bne_iff_ne).1 hc2
   have hne := (bne_iff_ne).1 hc2
   refine seqR ?_
   refine mG (.b false) ?_
   refine op0 ?_
   refine awp_ret ?_
   exact fret (av := .v (.bool false)) rfl rfl (by rw [alike_stop hne] <;> rfl)
  have hf5 := (bne_eq_false_iff_eq).1 hc2
  have hne := (bne_eq_false_iff_eq).1 hc2
  refine awp_skip ?_
  refine regR ?_
  refine mG (.i (k : Int)) ?_
  refine oG (qB (.int .i64 ((k + 1 : Nat) : Int)) (addN om) ?_)
  refine mG (.i ((k + 1 : Nat) : Int)) ?_
  refine op0 ?_
  show _ ∧ _
  refine ⟨by omega, (alike_step (d := 0) om om hinv hne), ?_⟩
  exact iN
 have hf6 := of_decide_eq_false hc1
 refine awp_exit ?_
 refine seqR ?_
 refine mG (.b true) ?_
 refine op0 ?_
 refine awp_ret ?_
 exact fret (av := .v (.bool true)) rfl rfl (by rw [alike_end om om hinv] <;> rfl)
theorem r01_Has (l : List Int) (n : Int) (hl : l.length ≤ 4294967296) : Fn Try.prog 52 [.ro l.length (enc eI l), .v (.int .i64 n)] (.v (.bool (decide (n ∈ l)))) := by
 refine fnE_of_body (N := 18) Try.func52 rfl rfl (resOf1 rfl) (by simp) (fun w0 X hL_ => ?_)
 refine seqR ?_
 refine mG (.b false) ?_
 refine op0 ?_
 refine awp_seq ?_
 refine seqR ?_
 refine mG (.i 0) ?_
 refine op0 ?_
 refine awp_block ?_
 refine awp_countI (fun k => ⟨(upd (upd (upd (upd none_ 0 (.q eI l)) 1 (.i n)) 4 (.b false)) 5 (.i (k : Int))), noOb⟩) (fun k => n ∉ l.take k) (l.length) ?_ (by simp) (fun k hk_k hinv => ?_)
 ·skip
  exact iN
 refine awp_seq ?_
 refine seqR ?_
 refine mG (.i (k : Int)) ?_
 refine mG (.q eI l) ?_
 refine oG (qN ut48 ?_)
 refine bG ((.bool (decide ((k : Int) < (l.length : Int))))) ?_
 refine rU (upd (upd (upd (upd (upd none_ 0 (.q eI l)) 1 (.i n)) 4 (.b false)) 5 (.i (k : Int))) 9 (.b (decide ((k : Int) < (l.length : Int))))) noOb ?_
 refine awp_cond (decide ((k : Int) < (l.length : Int))) rfl rfl (fun hc0 => ?_) (fun hc0 => ?_)
 ·skip
  have hf1 := of_decide_eq_true hc0
  refine awp_skip ?_
  refine awp_seq ?_
  refine awp_block ?_
  refine seqR ?_
  refine mG (.q eI l) ?_
  refine mG (.i (k : Int)) ?_
  refine oG (qX (0 : Int) ut48 sz3 ?_)
  refine oG (qL (.i (l.getD k 0)) ag3 ?_)
  refine mG (.i n) ?_
  refine bG ((.bool ((l.getD k 0) == n))) ?_
  refine rU (upd (upd (upd (upd (upd none_ 0 (.q eI l)) 1 (.i n)) 4 (.b false)) 5 (.i (k : Int))) 17 (.b ((l.getD k 0) == n))) noOb ?_
  refine awp_cond ((l.getD k 0) == n) rfl rfl (fun hc1 => ?_) (fun hc1 => ?_)
  ·skip
   have hf2 := (beq_iff_eq).1 hc1
   have heq := (beq_iff_eq).1 hc1
   refine seqR ?_
   refine mG (.b true) ?_
   refine op0 ?_
   refine awp_ret ?_
   exact fret (av := .v (.bool true)) rfl rfl (by rw [has_stop om heq] <;> rfl)
  have hf3 := (beq_eq_false_iff_ne).1 hc1
  have hne := (beq_eq_false_iff_ne).1 hc1
  refine awp_skip ?_
  refine regR ?_
  refine mG (.i (k : Int)) ?_
  refine oG (qB (.int .i64 ((k + 1 : Nat) : Int)) (addN om) ?_)
  refine mG (.i ((k + 1 : Nat) : Int)) ?_
  refine op0 ?_
  show _ ∧ _
  refine ⟨by omega, (has_step (d := 0) om hinv hne), ?_⟩
  exact iN
 have hf4 := of_decide_eq_false hc0
 refine awp_exit ?_
 refine seqR ?_
 refine mG (.b false) ?_
 refine op0 ?_
 refine awp_ret ?_
 exact fret (av := .v (.bool false)) rfl rfl (by rw [has_end om hinv] <;> rfl)
abbrev Z7 (c : List Bool) (a : List Need) : Nat → AV := (upd (upd (upd none_ 0 (.q eB c)) 1 (.q eN a)) 4 vN)
abbrev Z6 (c : List Bool) (a : List Need) (k i : Nat) : Nat → OSt := (updO noOb 1 (.live ⟨(enc eB (refRow c a (refN c.length (a.take k)) i)), 4, 1⟩))
abbrev Z5 (a : List Need) (j : Nat) : AV := (.rp (([.i ((a.getD j dN).point), .b ((a.getD j dN).right)] : List AV) ++ ((enc eN a).drop ((j + 1) * 2))))
abbrev Z4 (c : List Bool) (a : List Need) (k i j : Nat) : Nat → OSt := (updO noOb 1 (.live ⟨(enc eB ((refRow c a (refN c.length (a.take k)) i).set i (refAt c (a.take j) i))), 4, 1⟩))
abbrev Z3 (c : List Bool) (a : List Need) (k : Nat) : Nat → AV := (upd (Z7 c a) 5 (.i (refN c.length (a.take k) : Int)))
abbrev Z2 (a : List Need) (k : Nat) : AV := (.rp (([.i ((a.getD k dN).point), .b ((a.getD k dN).right)] : List AV) ++ ((enc eN a).drop ((k + 1) * 2))))
abbrev Z1 (c : List Bool) (a : List Need) (k i : Nat) : Nat → AV := (upd (upd (Z3 c a k) 7 (.sl 1 0 ((refRow c a (refN c.length (a.take k)) i).length))) 8 (.i (i : Int)))
theorem r14_Move (c : List Bool) (a : List Need) (hr : c.length ≤ 65536) (hl : a.length ≤ 65536) : FnO Try.prog 50 [.ro c.length (enc eB c), .ro a.length (enc eN a)] (.sl 0 0 ((moveL c a).length)) [⟨(enc eB (moveL c a)), 4, 1⟩] := by
 refine fnE_of_body (N := 78) Try.func50 rfl rfl (resOf1 rfl) (by simp) (fun w0 X hL_ => ?_)
 refine seqR ?_
 refine mG vN ?_
 refine op0 ?_
 refine seqR ?_
 refine mG (.q eB c) ?_
 refine oG (qN ut28 ?_)
 refine mG (.i (c.length : Int)) ?_
 refine rU (upd (Z7 c a) 5 (.i (c.length : Int))) noOb ?_
 refine awp_seq ?_
 refine seqR ?_
 refine mG (.i 0) ?_
 refine op0 ?_
 refine awp_block ?_
 refine awp_countI (fun k => ⟨(upd (Z3 c a k) 6 (.i (k : Int))), noOb⟩) (fun k => True) (a.length) ?_ trivial (fun k hk_k hinv => ?_)
 ·skip
  exact iN
 have hN := refN_le c.length (a.take k)
 refine awp_seq ?_
 refine seqR ?_
 refine mG (.i (k : Int)) ?_
 refine mG (.q eN a) ?_
 refine oG (qN ut91 ?_)
 refine bG ((.bool (decide ((k : Int) < (a.length : Int))))) ?_
 refine rU (upd (upd (Z3 c a k) 6 (.i (k : Int))) 15 (.b (decide ((k : Int) < (a.length : Int))))) noOb ?_
 refine awp_cond (decide ((k : Int) < (a.length : Int))) rfl rfl (fun hc0 => ?_) (fun hc0 => ?_)
 ·skip
  have hf1 := of_decide_eq_true hc0
  refine awp_skip ?_
  refine awp_seq ?_
  refine awp_block ?_
  refine seqR ?_
  refine mG (.q eN a) ?_
  refine mG (.i (k : Int)) ?_
  refine oG (qX dN ut91 sz110 ?_)
  refine oG (qF (Z2 a k) (Z2 a k) ft110_0 sz3 ?_)
  refine oG (qL (.i ((a.getD k dN).point)) ag3 ?_)
  refine mG (.i (refN c.length (a.take k) : Int)) ?_
  refine bG ((.bool (decide (((a.getD k dN).point) ≥ (refN c.length (a.take k) : Int))))) ?_
  refine mG (.b (decide (((a.getD k dN).point) ≥ (refN c.length (a.take k) : Int)))) ?_
  refine aops_grp 7 32 (.b ((decide (((a.getD k dN).point) ≥ (refN c.length (a.take k) : Int))) && (decide (((a.getD k dN).point) < 8)))) ?_ ?_
  ·refine (Bool.eq_false_or_eq_true (decide (((a.getD k dN).point) ≥ (refN c.length (a.take k) : Int)))).elim (fun hg2 => ?_) (fun hg2 => ?_)
   ·skip
    have hf3 := of_decide_eq_true hg2
    refine oY hg2 (qM (.q eN a) ?_)
    refine oY hg2 (qM (.i (k : Int)) ?_)
    refine oY hg2 (qX dN ut91 sz110 ?_)
    refine oY hg2 (qF (Z2 a k) (Z2 a k) ft110_0 sz3 ?_)
    refine oY hg2 (qL (.i ((a.getD k dN).point)) ag3 ?_)
    refine oY hg2 (qB (.bool (decide (((a.getD k dN).point) < 8))) rfl ?_)
    refine oG (qP (decide (((a.getD k dN).point) ≥ (refN c.length (a.take k) : Int))) (.b (decide (((a.getD k dN).point) < 8))) hg2 ?_)
    refine op0 ?_
    exact imp_env (lee_both 32 _ _ (by rw [hg2] <;> rfl) lO)
   have hf4 := of_decide_eq_false hg2
   refine nG hg2 ?_
   refine nG hg2 ?_
   refine nG hg2 ?_
   refine nG hg2 ?_
   refine nG hg2 ?_
   refine nG hg2 ?_
   refine oG (qP (decide (((a.getD k dN).point) ≥ (refN c.length (a.take k) : Int))) (.b false) hg2 ?_)
   refine op0 ?_
   exact imp_env (lee_both 32 _ _ (by rw [hg2] <;> rfl) lO)
  refine op0 ?_
  refine rT (upd (upd (Z3 c a k) 6 (.i (k : Int))) 32 (.b ((decide (((a.getD k dN).point) ≥ (refN c.length (a.take k) : Int))) && (decide (((a.getD k dN).point) < 8))))) noOb ?_
  refine awp_cond ((decide (((a.getD k dN).point) ≥ (refN c.length (a.take k) : Int))) && (decide (((a.getD k dN).point) < 8))) rfl rfl (fun hc1 => ?_) (fun hc1 => ?_)
  ·skip
   obtain ⟨hf5a, hf5b⟩ := and_t hc1
   have hf6 := of_decide_eq_true hf5a
   have hf7 := of_decide_eq_true hf5b
   refine regR ?_
   refine mG (.q eN a) ?_
   refine mG (.i (k : Int)) ?_
   refine oG (qX dN ut91 sz110 ?_)
   refine oG (qF (Z2 a k) (Z2 a k) ft110_0 sz3 ?_)
   refine oG (qL (.i ((a.getD k dN).point)) ag3 ?_)
   refine oG (qB (.int .i64 (((a.getD k dN).point) + 1)) (addI om) ?_)
   refine mG (.i (((a.getD k dN).point) + 1)) ?_
   refine op0 ?_
   refine rT (upd (upd (Z7 c a) 5 (.i (((a.getD k dN).point) + 1))) 6 (.i (k : Int))) noOb ?_
   refine regR ?_
   refine mG (.i (k : Int)) ?_
   refine oG (qB (.int .i64 ((k + 1 : Nat) : Int)) (addN om) ?_)
   refine mG (.i ((k + 1 : Nat) : Int)) ?_
   refine op0 ?_
   show _ ∧ _
   have hs := refN_on (n := c.length) (needs := a) (k := k) om hc1
   refine ⟨by omega, trivial, ?_⟩
   exact iN (he := (sS rfl (sS (by exact congrArg (fun n_ : Int => AV.v (.int .i64 n_)) hs) (sS rfl (sS rfl (sS rfl sr_none))))))
  refine awp_skip ?_
  refine regR ?_
  refine mG (.i (k : Int)) ?_
  refine oG (qB (.int .i64 ((k + 1 : Nat) : Int)) (addN om) ?_)
  refine mG (.i ((k + 1 : Nat) : Int)) ?_
  refine op0 ?_
  show _ ∧ _
  have hs := refN_off (n := c.length) (needs := a) (k := k) om hc1
  refine ⟨by omega, trivial, ?_⟩
  exact iN (he := (sS rfl (sS (by exact congrArg (fun n_ : Int => AV.v (.int .i64 n_)) hs) (sS rfl (sS rfl (sS rfl sr_none))))))
 have hf8 := of_decide_eq_false hc0
 refine awp_exit ?_
 refine seqR ?_
 refine mG (.i (refN c.length (a.take k) : Int)) ?_
 refine oG (aop_makeE (n := refN c.length (a.take k)) (f := eB) 51 (false : Bool) rfl rfl rfl ut28 in4 rfl rfl rfl rfl om om rfl rfl ?_)
 refine mG (.sl 51 0 ((List.replicate (refN c.length (a.take k)) (false : Bool)).length)) ?_
 refine op0 ?_
 refine awp_seq ?_
 refine seqR ?_
 refine mG (.i 0) ?_
 refine rU (upd (upd (Z3 c a k) 7 (.sl 51 0 ((List.replicate (refN c.length (a.take k)) (false : Bool)).length))) 8 (.i 0)) (updO noOb 51 (.live ⟨(enc eB (List.replicate (refN c.length (a.take k)) (false : Bool))), 4, 1⟩)) ?_
 refine awp_block ?_
 refine awp_countI (fun i => ⟨(Z1 c a k i), (Z6 c a k i)⟩) (fun i => True) (refN c.length (a.take k)) ?_ trivial (fun i hk_i hinv => ?_)
 ·skip
  have hz := refRow_zero c a (refN c.length (a.take k))
  exact iI 51 1 rfl (he := (sS rfl (sM (by exact congrArg (AV.sl 1 0) (congrArg List.length hz.symm)) (sS rfl (sS rfl (sS rfl (sS rfl sr_none))))))) (hoo := (by exact congrArg (fun l_ => LObj.mk (enc eB l_) 4 1) hz))
 have hrl := refRow_length c a (refN c.length (a.take k)) i
 refine awp_seq ?_
 refine seqR ?_
 refine mG (.i (i : Int)) ?_
 refine mG (.i (refN c.length (a.take k) : Int)) ?_
 refine bG ((.bool (decide ((i : Int) < (refN c.length (a.take k) : Int))))) ?_
 refine op0 ?_
 refine awp_cond (decide ((i : Int) < (refN c.length (a.take k) : Int))) rfl rfl (fun hc2 => ?_) (fun hc2 => ?_)
 ·skip
  have hf9 := of_decide_eq_true hc2
  refine awp_skip ?_
  refine awp_seq ?_
  refine awp_block ?_
  refine seqR ?_
  refine mG (.sl 1 0 ((refRow c a (refN c.length (a.take k)) i).length)) ?_
  refine mG (.i (i : Int)) ?_
  refine mG (.q eB c) ?_
  refine mG (.i (i : Int)) ?_
  refine oG (qJ (r14_stands c (i : Int) oo) bd59 ?_)
  refine oG (aop_ixO (k := i) rfl rfl rfl ut28 sz4 rfl rfl oo ?_)
  refine oG (aop_storeE (f := eB) (l := refRow c a (refN c.length (a.take k)) i) (l' := (refRow c a (refN c.length (a.take k)) i).set i (hasB c (i : Int) : Bool)) (hasB c (i : Int) : Bool) rfl rfl rfl sz4 rfl rfl rfl rfl rfl (fun _ => rfl) oo rfl rfl ?_)
  refine rU (Z1 c a k i) (updO (Z6 c a k i) 1 (.live ⟨(enc eB ((refRow c a (refN c.length (a.take k)) i).set i (hasB c (i : Int) : Bool))), 4, 1⟩)) ?_
  refine seqR ?_
  refine mG (.i 0) ?_
  refine op0 ?_
  refine awp_block ?_
  refine awp_countI (fun j => ⟨(upd (Z1 c a k i) 9 (.i (j : Int))), (Z4 c a k i j)⟩) (fun j => True) (a.length) ?_ trivial (fun j hk_j hinv => ?_)
  ·skip
   exact iI 1 1 rfl (hoo := (by exact congrArg (fun l_ => LObj.mk (enc eB l_) 4 1) rfl))
  refine awp_seq ?_
  refine seqR ?_
  refine mG (.i (j : Int)) ?_
  refine mG (.q eN a) ?_
  refine oG (qN ut91 ?_)
  refine bG ((.bool (decide ((j : Int) < (a.length : Int))))) ?_
  refine rU (upd (upd (Z1 c a k i) 9 (.i (j : Int))) 55 (.b (decide ((j : Int) < (a.length : Int))))) (Z4 c a k i j) ?_
  refine awp_cond (decide ((j : Int) < (a.length : Int))) rfl rfl (fun hc3 => ?_) (fun hc3 => ?_)
  ·skip
   have hf10 := of_decide_eq_true hc3
   refine awp_skip ?_
   refine awp_seq ?_
   refine awp_block ?_
   refine seqR ?_
   refine mG (.q eN a) ?_
   refine mG (.i (j : Int)) ?_
   refine oG (qX dN ut91 sz110 ?_)
   refine oG (qF (Z5 a j) (Z5 a j) ft110_0 sz3 ?_)
   refine oG (qL (.i ((a.getD j dN).point)) ag3 ?_)
   refine mG (.i (i : Int)) ?_
   refine bG ((.bool (((a.getD j dN).point) == (i : Int)))) ?_
   refine mG (.b (((a.getD j dN).point) == (i : Int))) ?_
   refine aops_grp 3 68 (.b ((((a.getD j dN).point) == (i : Int)) && (decide ((i : Int) < 8)))) ?_ ?_
   ·refine (Bool.eq_false_or_eq_true (((a.getD j dN).point) == (i : Int))).elim (fun hg11 => ?_) (fun hg11 => ?_)
    ·skip
     have hf12 := (beq_iff_eq).1 hg11
     refine oY hg11 (qM (.i (i : Int)) ?_)
     refine oY hg11 (qB (.bool (decide ((i : Int) < 8))) rfl ?_)
     refine oG (qP (((a.getD j dN).point) == (i : Int)) (.b (decide ((i : Int) < 8))) hg11 ?_)
     refine op0 ?_
     exact imp_env (lee_both 68 _ _ (by rw [hg11] <;> rfl) lO)
    have hf13 := (beq_eq_false_iff_ne).1 hg11
    refine nG hg11 ?_
    refine nG hg11 ?_
    refine oG (qP (((a.getD j dN).point) == (i : Int)) (.b false) hg11 ?_)
    refine op0 ?_
    exact imp_env (lee_both 68 _ _ (by rw [hg11] <;> rfl) lO)
   refine op0 ?_
   refine rT (upd (upd (Z1 c a k i) 9 (.i (j : Int))) 68 (.b ((((a.getD j dN).point) == (i : Int)) && (decide ((i : Int) < 8))))) (Z4 c a k i j) ?_
   refine awp_cond ((((a.getD j dN).point) == (i : Int)) && (decide ((i : Int) < 8))) rfl rfl (fun hc4 => ?_) (fun hc4 => ?_)
   ·skip
    obtain ⟨hf14a, hf14b⟩ := and_t hc4
    have hf15 := (beq_iff_eq).1 hf14a
    have hf16 := of_decide_eq_true hf14b
    refine regR ?_
    refine mG (.sl 1 0 ((refRow c a (refN c.length (a.take k)) i).length)) ?_
    refine mG (.i (i : Int)) ?_
    refine mG (.q eN a) ?_
    refine mG (.i (j : Int)) ?_
    refine oG (qX dN ut91 sz110 ?_)
    refine oG (qF (Z5 a j) (.rp (([.b ((a.getD j dN).right)] : List AV) ++ ((enc eN a).drop ((j + 1) * 2)))) ft110_1 sz4 ?_)
    refine oG (qL (.b ((a.getD j dN).right)) ag4 ?_)
    refine oG (aop_ixO (k := i) rfl rfl rfl ut28 sz4 rfl rfl oo ?_)
    refine oG (aop_storeE (f := eB) (l := (refRow c a (refN c.length (a.take k)) i).set i (refAt c (a.take j) i)) (l' := ((refRow c a (refN c.length (a.take k)) i).set i (refAt c (a.take j) i)).set i ((a.getD j dN).right : Bool)) ((a.getD j dN).right : Bool) rfl rfl rfl sz4 rfl rfl rfl rfl rfl (fun _ => rfl) oo rfl rfl ?_)
    refine op0 ?_
    refine rT (upd (Z1 c a k i) 9 (.i (j : Int))) (updO (Z4 c a k i j) 1 (.live ⟨(enc eB (((refRow c a (refN c.length (a.take k)) i).set i (refAt c (a.take j) i)).set i ((a.getD j dN).right : Bool))), 4, 1⟩)) ?_
    refine regR ?_
    refine mG (.i (j : Int)) ?_
    refine oG (qB (.int .i64 ((j + 1 : Nat) : Int)) (addN om) ?_)
    refine mG (.i ((j + 1 : Nat) : Int)) ?_
    refine op0 ?_
    show _ ∧ _
    have hs := refAt_on (right := c) (needs := a) (i := i) (k := j) om hc4
    refine ⟨by omega, trivial, ?_⟩
    exact iI 1 1 rfl (hoo := (by exact congrArg (fun l_ => LObj.mk (enc eB l_) 4 1) (by rw [List.set_set, hs])))
   refine awp_skip ?_
   refine regR ?_
   refine mG (.i (j : Int)) ?_
   refine oG (qB (.int .i64 ((j + 1 : Nat) : Int)) (addN om) ?_)
   refine mG (.i ((j + 1 : Nat) : Int)) ?_
   refine op0 ?_
   show _ ∧ _
   have hs := refAt_off (right := c) (needs := a) (i := i) (k := j) om hc4
   refine ⟨by omega, trivial, ?_⟩
   exact iI 1 1 rfl (hoo := (by exact congrArg (fun l_ => LObj.mk (enc eB l_) 4 1) (by rw [hs])))
  have hf17 := of_decide_eq_false hc3
  refine awp_exit ?_
  refine regR ?_
  refine mG (.i (i : Int)) ?_
  refine oG (qB (.int .i64 ((i + 1 : Nat) : Int)) (addN om) ?_)
  refine mG (.i ((i + 1 : Nat) : Int)) ?_
  refine op0 ?_
  show _ ∧ _
  have hs := refRow_step c a (N := refN c.length (a.take k)) (i := i) om
  have ht : a.take j = a := List.take_of_length_le om
  refine ⟨by omega, trivial, ?_⟩
  exact iI 1 1 rfl (he := (sS rfl (sM (by exact congrArg (AV.sl 1 0) (by simp)) (sS rfl (sS rfl (sS rfl (sS rfl sr_none))))))) (hoo := (by exact congrArg (fun l_ => LObj.mk (enc eB l_) 4 1) (by rw [ht]; exact hs)))
 have hf18 := of_decide_eq_false hc2
 refine awp_exit ?_
 refine seqR ?_
 refine mG (.sl 1 0 ((refRow c a (refN c.length (a.take k)) i).length)) ?_
 refine mG (.sl 1 0 ((refRow c a (refN c.length (a.take k)) i).length)) ?_
 refine rU (upd none_ 4 (.sl 1 0 ((refRow c a (refN c.length (a.take k)) i).length))) (Z6 c a k i) ?_
 refine awp_ret ?_
 have he : a.take k = a := List.take_of_length_le om
 have he2 := refRow_all (right := c) (needs := a) (N := refN c.length (a.take k)) (i := i) (by rw [he]) om
 exact fretO 1 rfl rfl rfl (congrArg List.length he2) (congrArg (fun l_ => LObj.mk (enc eB l_) 4 1) he2)
theorem ag100 : aggT Try.prog 100 = some true := by kernel_rfl
theorem ag114 : aggT Try.prog 114 = some true := by kernel_rfl
theorem ag35 : aggT Try.prog 35 = some false := by kernel_rfl
theorem ag37 : aggT Try.prog 37 = some false := by kernel_rfl
theorem ag39 : aggT Try.prog 39 = some true := by kernel_rfl
theorem ag5 : aggT Try.prog 5 = some false := by kernel_rfl
theorem bd51 : bodied Try.prog 51 = true := by kernel_rfl
theorem bd52 : bodied Try.prog 52 = true := by kernel_rfl
theorem bd61 : bodied Try.prog 61 = true := by kernel_rfl
theorem bd62 : bodied Try.prog 62 = true := by kernel_rfl
theorem bd63 : bodied Try.prog 63 = true := by kernel_rfl
theorem bd64 : bodied Try.prog 64 = true := by kernel_rfl
theorem es114 : eqT2 Try.prog 114 = some (3, 3) := by kernel_rfl
theorem ft100_0 : fieldT Try.prog 100 0 = some (3, 0) := by kernel_rfl
theorem ft100_1 : fieldT Try.prog 100 1 = some (3, 1) := by kernel_rfl
theorem ft100_2 : fieldT Try.prog 100 2 = some (3, 2) := by kernel_rfl
theorem ft100_3 : fieldT Try.prog 100 3 = some (3, 3) := by kernel_rfl
theorem ft102_1 : fieldT Try.prog 102 1 = some (3, 1) := by kernel_rfl
theorem ft102_2 : fieldT Try.prog 102 2 = some (3, 2) := by kernel_rfl
theorem ft114_0 : fieldT Try.prog 114 0 = some (3, 0) := by kernel_rfl
theorem ft114_1 : fieldT Try.prog 114 1 = some (3, 1) := by kernel_rfl
theorem ft39_1 : fieldT Try.prog 39 1 = some (35, 1) := by kernel_rfl
theorem ft39_3 : fieldT Try.prog 39 3 = some (37, 3) := by kernel_rfl
theorem in114 : (Try.prog.info? 114).map (fun i => (i.zero, i.size, i.bytes)) = some (some (.agg #[(.int .i64 0), (.int .i64 0)]), 2, 16) := by kernel_rfl
theorem in3 : (Try.prog.info? 3).map (fun i => (i.zero, i.size, i.bytes)) = some (some (.int .i64 0), 1, 8) := by kernel_rfl
theorem iz114 : (Try.prog.info? 114).map (fun i => (i.zero, i.size)) = some (some (.agg #[(.int .i64 0), (.int .i64 0)]), 2) := by kernel_rfl
theorem iz3 : (Try.prog.info? 3).map (fun i => (i.zero, i.size)) = some (some (.int .i64 0), 1) := by kernel_rfl
theorem pl114 : placesOf Try.prog 114 = some ((.agg #[(.int .i64 0), (.int .i64 0)]), fun i => ([(0, 1), (1, 1)] : List (Nat × Nat)).toArray[i]?) := by kernel_rfl
theorem sz100 : (Try.prog.info? 100).map (·.size) = some 4 := by kernel_rfl
theorem sz102 : (Try.prog.info? 102).map (·.size) = some 3 := by kernel_rfl
theorem sz114 : (Try.prog.info? 114).map (·.size) = some 2 := by kernel_rfl
theorem sz35 : (Try.prog.info? 35).map (·.size) = some 1 := by kernel_rfl
theorem sz37 : (Try.prog.info? 37).map (·.size) = some 1 := by kernel_rfl
theorem sz39 : (Try.prog.info? 39).map (·.size) = some 10 := by kernel_rfl
theorem sz5 : (Try.prog.info? 5).map (·.size) = some 1 := by kernel_rfl
theorem ut115 : Try.prog.underlying 115 = some (.slice 114) := by kernel_rfl
theorem ut27 : Try.prog.underlying 27 = some (.slice 5) := by kernel_rfl
theorem ut3 : Try.prog.underlying 3 = some (.int .i64) := by kernel_rfl
theorem ut35 : Try.prog.underlying 35 = some (.slice 102) := by kernel_rfl
theorem ut37 : Try.prog.underlying 37 = some (.slice 100) := by kernel_rfl
theorem ut5 : Try.prog.underlying 5 = some (.int .u8) := by kernel_rfl
theorem ze100 : (Try.prog.info? 100).bind (·.zero) = some (.agg #[(.int .i64 0), (.int .i64 0), (.int .i64 0), (.int .i64 0)]) := by kernel_rfl
theorem ze114 : (Try.prog.info? 114).bind (·.zero) = some (.agg #[(.int .i64 0), (.int .i64 0)]) := by kernel_rfl
abbrev Za : Nat → AV := (upd (upd none_ 2 (.pt 51 0)) 3 (.pt 52 0))
abbrev Z9 (c : List Sec) (s : Int) : AV := (.rp (([.i ((c.getD s.toNat dS).len), .i ((c.getD s.toNat dS).a), .i ((c.getD s.toNat dS).b)] : List AV) ++ ((enc eSec c).drop ((s.toNat + 1) * 3))))
abbrev Z8 (c : List Sec) (s e : Int) : Nat → OSt := (updO (updO noOb 51 (.live ⟨[.one, .q eSec c, .one, .one, .one, .one, .one, .one, .one, .one], 39, 1⟩)) 52 (.live ⟨[.i s, .i e], 114, 1⟩))
theorem r05_node (c : List Sec) (s e : Int) (hs : c.length ≤ 65536) : Fn Try.prog 61 [.agg [.one, .ro c.length (enc eSec c), .one, .one, .one, .one, .one, .one, .one, .one], .agg [.v (.int .i64 s), .v (.int .i64 e)]] (.tup [.v (.int .i64 (nodeA c s e)), .v (.bool (!noNode c s e))]) := by
 refine fnE_of_body (N := 44) Try.func61 rfl rfl (resOf2 rfl) (by simp) (fun w0 X hL_ => ?_)
 refine seqR ?_
 refine oG (qW 51 ?_)
 refine oG (qW 52 ?_)
 refine mG (.i 0) ?_
 refine mG (.b false) ?_
 refine rU (upd (upd Za 4 (.i 0)) 5 (.b false)) (Z8 c s e) ?_
 refine awp_seq ?_
 refine seqR ?_
 refine fG (.pt 52 0) ft114_0 sz3 ?_
 refine oG (qL (.i s) ag3 ?_)
 refine bG ((.bool (decide (s < 0)))) ?_
 refine mG (.b (decide (s < 0))) ?_
 refine aops_grp 7 16 (.b ((decide (s < 0)) || (decide (s ≥ (c.length : Int))))) ?_ ?_
 ·refine (Bool.eq_false_or_eq_true (decide (s < 0))).elim (fun hg1 => ?_) (fun hg1 => ?_)
  ·skip
   have hf2 := of_decide_eq_true hg1
   refine nG hg1 ?_
   refine nG hg1 ?_
   refine nG hg1 ?_
   refine nG hg1 ?_
   refine nG hg1 ?_
   refine nG hg1 ?_
   refine oG (qP (decide (s < 0)) (.b true) hg1 ?_)
   refine op0 ?_
   exact imp_env (lee_both 16 _ _ (by rw [hg1] <;> rfl) lO)
  have hf3 := of_decide_eq_false hg1
  refine oY hg1 (qF (.pt 52 0) (.pt 52 0) ft114_0 sz3 ?_)
  refine oY hg1 (qL (.i s) ag3 ?_)
  refine oY hg1 (qF (.pt 51 0) (.pt 51 1) ft39_1 sz35 ?_)
  refine oY hg1 (qL (.q eSec c) ag35 ?_)
  refine oY hg1 (qN ut35 ?_)
  refine oY hg1 (qB (.bool (decide (s ≥ (c.length : Int)))) rfl ?_)
  refine oG (qP (decide (s < 0)) (.b (decide (s ≥ (c.length : Int)))) hg1 ?_)
  refine op0 ?_
  exact imp_env (lee_both 16 _ _ (by rw [hg1] <;> rfl) lO)
 refine mG (.b ((decide (s < 0)) || (decide (s ≥ (c.length : Int))))) ?_
 refine aops_grp 4 21 (.b (((decide (s < 0)) || (decide (s ≥ (c.length : Int)))) || (decide (e < 0)))) ?_ ?_
 ·refine (Bool.eq_false_or_eq_true ((decide (s < 0)) || (decide (s ≥ (c.length : Int))))).elim (fun hg4 => ?_) (fun hg4 => ?_)
  ·skip
   refine nG hg4 ?_
   refine nG hg4 ?_
   refine nG hg4 ?_
   refine oG (qP ((decide (s < 0)) || (decide (s ≥ (c.length : Int)))) (.b true) hg4 ?_)
   refine op0 ?_
   exact imp_env (lee_both 21 _ _ (by rw [hg4] <;> rfl) lO)
  obtain ⟨hf5a, hf5b⟩ := or_f hg4
  have hf6 := of_decide_eq_false hf5a
  have hf7 := of_decide_eq_false hf5b
  refine oY hg4 (qF (.pt 52 0) (.pt 52 1) ft114_1 sz3 ?_)
  refine oY hg4 (qL (.i e) ag3 ?_)
  refine oY hg4 (qB (.bool (decide (e < 0))) rfl ?_)
  refine oG (qP ((decide (s < 0)) || (decide (s ≥ (c.length : Int)))) (.b (decide (e < 0))) hg4 ?_)
  refine op0 ?_
  exact imp_env (lee_both 21 _ _ (by rw [hg4] <;> rfl) lO)
 refine mG (.b (((decide (s < 0)) || (decide (s ≥ (c.length : Int)))) || (decide (e < 0)))) ?_
 refine aops_grp 4 26 (.b ((((decide (s < 0)) || (decide (s ≥ (c.length : Int)))) || (decide (e < 0))) || (decide (e > 1)))) ?_ ?_
 ·refine (Bool.eq_false_or_eq_true (((decide (s < 0)) || (decide (s ≥ (c.length : Int)))) || (decide (e < 0)))).elim (fun hg8 => ?_) (fun hg8 => ?_)
  ·skip
   refine nG hg8 ?_
   refine nG hg8 ?_
   refine nG hg8 ?_
   refine oG (qP (((decide (s < 0)) || (decide (s ≥ (c.length : Int)))) || (decide (e < 0))) (.b true) hg8 ?_)
   refine op0 ?_
   exact imp_env (lee_both 26 _ _ (by rw [hg8] <;> rfl) lO)
  obtain ⟨hf9a, hf9b⟩ := or_f hg8
  obtain ⟨hf10a, hf10b⟩ := or_f hf9a
  have hf11 := of_decide_eq_false hf10a
  have hf12 := of_decide_eq_false hf10b
  have hf13 := of_decide_eq_false hf9b
  refine oY hg8 (qF (.pt 52 0) (.pt 52 1) ft114_1 sz3 ?_)
  refine oY hg8 (qL (.i e) ag3 ?_)
  refine oY hg8 (qB (.bool (decide (e > 1))) rfl ?_)
  refine oG (qP (((decide (s < 0)) || (decide (s ≥ (c.length : Int)))) || (decide (e < 0))) (.b (decide (e > 1))) hg8 ?_)
  refine op0 ?_
  exact imp_env (lee_both 26 _ _ (by rw [hg8] <;> rfl) lO)
 refine op0 ?_
 refine rT (upd (upd (upd Za 4 (.i 0)) 5 (.b false)) 26 (.b ((((decide (s < 0)) || (decide (s ≥ (c.length : Int)))) || (decide (e < 0))) || (decide (e > 1))))) (Z8 c s e) ?_
 refine awp_cond ((((decide (s < 0)) || (decide (s ≥ (c.length : Int)))) || (decide (e < 0))) || (decide (e > 1))) rfl rfl (fun hc0 => ?_) (fun hc0 => ?_)
 ·skip
  have hn : noNode c s e = true := hc0
  refine seqR ?_
  refine mG (.i 0) ?_
  refine mG (.b false) ?_
  refine op0 ?_
  refine awp_ret ?_
  exact fret (av := .tup [.v (.int .i64 0), .v (.bool false)]) rfl rfl (by rw [nodeA_no hn, hn]; rfl)
 obtain ⟨hf14a, hf14b⟩ := or_f hc0
 obtain ⟨hf15a, hf15b⟩ := or_f hf14a
 obtain ⟨hf16a, hf16b⟩ := or_f hf15a
 have hf17 := of_decide_eq_false hf16a
 have hf18 := of_decide_eq_false hf16b
 have hf19 := of_decide_eq_false hf15b
 have hf20 := of_decide_eq_false hf14b
 have hn : noNode c s e = false := hc0
 have hb := noNode_false hn
 refine awp_skip ?_
 refine awp_seq ?_
 refine seqR ?_
 refine fG (.pt 52 1) ft114_1 sz3 ?_
 refine oG (qL (.i e) ag3 ?_)
 refine bG ((.bool (e == 0))) ?_
 refine op0 ?_
 refine awp_cond (e == 0) rfl rfl (fun hc1 => ?_) (fun hc1 => ?_)
 ·skip
  have hf21 := (beq_iff_eq).1 hc1
  refine seqR ?_
  refine fG (.pt 51 1) ft39_1 sz35 ?_
  refine oG (qL (.q eSec c) ag35 ?_)
  refine fG (.pt 52 0) ft114_0 sz3 ?_
  refine oG (qL (.i s) ag3 ?_)
  refine oG (aop_ixI dS rfl rfl rfl ut35 sz102 rfl rfl (fun _ => rfl) rfl om oo ?_)
  refine oG (qF (Z9 c s) (.rp (([.i ((c.getD s.toNat dS).a), .i ((c.getD s.toNat dS).b)] : List AV) ++ ((enc eSec c).drop ((s.toNat + 1) * 3)))) ft102_1 sz3 ?_)
  refine oG (qL (.i ((c.getD s.toNat dS).a)) ag3 ?_)
  refine mG (.i ((c.getD s.toNat dS).a)) ?_
  refine mG (.b true) ?_
  refine rU (upd (upd Za 4 (.i ((c.getD s.toNat dS).a))) 5 (.b true)) (Z8 c s e) ?_
  refine awp_ret ?_
  exact fret (av := .tup [.v (.int .i64 ((c.getD s.toNat dS).a)), .v (.bool true)]) rfl rfl (by rw [nodeA_a hn (by simpa using hc1), hn]; rfl)
 have hf22 := (beq_eq_false_iff_ne).1 hc1
 refine awp_skip ?_
 refine seqR ?_
 refine fG (.pt 51 1) ft39_1 sz35 ?_
 refine oG (qL (.q eSec c) ag35 ?_)
 refine fG (.pt 52 0) ft114_0 sz3 ?_
 refine oG (qL (.i s) ag3 ?_)
 refine oG (aop_ixI dS rfl rfl rfl ut35 sz102 rfl rfl (fun _ => rfl) rfl om oo ?_)
 refine oG (qF (Z9 c s) (.rp (([.i ((c.getD s.toNat dS).b)] : List AV) ++ ((enc eSec c).drop ((s.toNat + 1) * 3)))) ft102_2 sz3 ?_)
 refine oG (qL (.i ((c.getD s.toNat dS).b)) ag3 ?_)
 refine mG (.i ((c.getD s.toNat dS).b)) ?_
 refine mG (.b true) ?_
 refine rU (upd (upd none_ 4 (.i ((c.getD s.toNat dS).b))) 5 (.b true)) (Z8 c s e) ?_
 refine awp_ret ?_
 exact fret (av := .tup [.v (.int .i64 ((c.getD s.toNat dS).b)), .v (.bool true)]) rfl rfl (by rw [nodeA_b hn (by simpa using hc1), hn]; rfl)
abbrev Zi (c : List Sec) (k : Nat) : AV := (.rp (([.i ((c.getD k dS).b)] : List AV) ++ ((enc eSec c).drop ((k + 1) * 3))))
abbrev Zg (c : List Sec) : LObj := ⟨[.one, .q eSec c, .one, .one, .one, .one, .one, .one, .one, .one], 39, 1⟩
abbrev Zd (c : List Sec) (k : Nat) : AV := (.rp (([.i ((c.getD k dS).len), .i ((c.getD k dS).a), .i ((c.getD k dS).b)] : List AV) ++ ((enc eSec c).drop ((k + 1) * 3))))
abbrev Zc (n : Int) : Nat → AV := (upd (upd (upd none_ 1 (.i n)) 2 (.pt 2 0)) 4 vN)
abbrev Zb (c : List Sec) (n : Int) (k : Nat) : Nat → OSt := (updO (updO noOb 1 (.live ⟨(enc eEn (endsK c n k)), 114, 2⟩)) 2 (.live (Zg c)))
abbrev Zh (n : Int) (c : List Sec) (k : Nat) : Nat → AV := (upd (upd (Zc n) 5 (.sl 53 0 (((endsK c n k) ++ [(⟨(k : Int), 0⟩ : En)]).length))) 6 (.i (k : Int)))
abbrev Zf (n : Int) (c : List Sec) (k : Nat) : Nat → AV := (upd (upd (Zc n) 5 (.sl 1 0 ((endsK c n k).length))) 6 (.i (k : Int)))
abbrev Ze (c : List Sec) (n : Int) (k : Nat) : Nat → OSt := (updO (updO (Zb c n k) 1 .dead) 53 (.live ⟨(enc eEn ((endsK c n k) ++ [(⟨(k : Int), 0⟩ : En)])), 114, 2⟩))
theorem r05_Ends (c : List Sec) (n : Int) (hs : c.length ≤ 65536) : Fn Try.prog 64 [.agg [.one, .ro c.length (enc eSec c), .one, .one, .one, .one, .one, .one, .one, .one], .v (.int .i64 n)] (.ro ((endsL c n).length) (enc eEn (endsL c n))) := by
 refine fnE_of_body (N := 41) Try.func64 rfl rfl (resOf1 rfl) (by simp) (fun w0 X hL_ => ?_)
 refine seqR ?_
 refine oG (qW 51 ?_)
 refine mG vN ?_
 refine op0 ?_
 refine seqR ?_
 refine mG vN ?_
 refine op0 ?_
 refine awp_seq ?_
 refine seqR ?_
 refine mG (.i 0) ?_
 refine rU (upd (upd (upd (upd (upd none_ 1 (.i n)) 2 (.pt 51 0)) 4 vN) 5 vN) 6 (.i 0)) (updO noOb 51 (.live (Zg c))) ?_
 refine awp_block ?_
 refine awp_countI (fun k => ⟨(Zf n c k), (Zb c n k)⟩) (fun k => True) (c.length) ?_ trivial (fun k hk_k hinv => ?_)
 ·skip
  refine (imp_adopt 5 52 114 2 rfl rfl).trans ?_
  exact iL [(52, 1), (51, 2)] [((52, 1), .live _), ((51, 2), .live _)] ⟨row_no (o := ⟨[], 114, 2⟩) rfl rfl, row_no rfl rfl, trivial⟩
 have hle := endsK_len c n k
 refine awp_seq ?_
 refine seqR ?_
 refine mG (.i (k : Int)) ?_
 refine fG (.pt 2 1) ft39_1 sz35 ?_
 refine oG (qL (.q eSec c) ag35 ?_)
 refine oG (qN ut35 ?_)
 refine bG ((.bool (decide ((k : Int) < (c.length : Int))))) ?_
 refine rU (upd (Zf n c k) 11 (.b (decide ((k : Int) < (c.length : Int))))) (Zb c n k) ?_
 refine awp_cond (decide ((k : Int) < (c.length : Int))) rfl rfl (fun hc0 => ?_) (fun hc0 => ?_)
 ·skip
  have hf1 := of_decide_eq_true hc0
  refine awp_skip ?_
  refine awp_seq ?_
  refine awp_block ?_
  refine awp_seq ?_
  refine seqR ?_
  refine fG (.pt 2 1) ft39_1 sz35 ?_
  refine oG (qL (.q eSec c) ag35 ?_)
  refine mG (.i (k : Int)) ?_
  refine oG (qX dS ut35 sz102 ?_)
  refine oG (qF (Zd c k) (.rp (([.i ((c.getD k dS).a), .i ((c.getD k dS).b)] : List AV) ++ ((enc eSec c).drop ((k + 1) * 3)))) ft102_1 sz3 ?_)
  refine oG (qL (.i ((c.getD k dS).a)) ag3 ?_)
  refine mG (.i n) ?_
  refine bG ((.bool (((c.getD k dS).a) == n))) ?_
  refine rU (upd (Zf n c k) 21 (.b (((c.getD k dS).a) == n))) (Zb c n k) ?_
  refine awp_cond (((c.getD k dS).a) == n) rfl rfl (fun hc1 => ?_) (fun hc1 => ?_)
  ·skip
   have hf2 := (beq_iff_eq).1 hc1
   refine regR ?_
   refine mG (.sl 1 0 ((endsK c n k).length)) ?_
   refine mG (.i (k : Int)) ?_
   refine oG (qD pl114 ?_)
   refine oG (aop_lit rfl rfl rfl ut115 iz114 (by decide) (by decide) rfl rfl ?_)
   refine oG (aop_app1 (f := eEn) (l := endsK c n k) 53 (⟨(k : Int), 0⟩ : En) rfl rfl rfl rfl ut115 in114 rfl (by decide) rfl rfl rfl rfl rfl rfl (fun _ => rfl) rfl rfl oo oo rfl ?_)
   refine mG (.sl 53 0 (((endsK c n k) ++ [(⟨(k : Int), 0⟩ : En)]).length)) ?_
   refine op0 ?_
   refine rT (Zh n c k) (Ze c n k) ?_
   refine seqR ?_
   refine fG (.pt 2 1) ft39_1 sz35 ?_
   refine oG (qL (.q eSec c) ag35 ?_)
   refine mG (.i (k : Int)) ?_
   refine oG (qX dS ut35 sz102 ?_)
   refine oG (qF (Zd c k) (Zi c k) ft102_2 sz3 ?_)
   refine oG (qL (.i ((c.getD k dS).b)) ag3 ?_)
   refine mG (.i n) ?_
   refine bG ((.bool (((c.getD k dS).b) == n))) ?_
   refine rU (upd (Zh n c k) 34 (.b (((c.getD k dS).b) == n))) (Ze c n k) ?_
   refine awp_cond (((c.getD k dS).b) == n) rfl rfl (fun hc2 => ?_) (fun hc2 => ?_)
   ·skip
    have hf3 := (beq_iff_eq).1 hc2
    refine regR ?_
    refine mG (.sl 53 0 (((endsK c n k) ++ [(⟨(k : Int), 0⟩ : En)]).length)) ?_
    refine mG (.i (k : Int)) ?_
    refine oG (qD pl114 ?_)
    refine oG (aop_lit rfl rfl rfl ut115 iz114 (by decide) (by decide) rfl rfl ?_)
    refine oG (aop_app1 (f := eEn) (l := (endsK c n k) ++ [(⟨(k : Int), 0⟩ : En)]) 54 (⟨(k : Int), 1⟩ : En) rfl rfl rfl rfl ut115 in114 rfl (by decide) rfl rfl rfl rfl rfl rfl (fun _ => rfl) rfl rfl oo oo rfl ?_)
    refine mG (.sl 54 0 ((((endsK c n k) ++ [(⟨(k : Int), 0⟩ : En)]) ++ [(⟨(k : Int), 1⟩ : En)]).length)) ?_
    refine op0 ?_
    refine rT (upd (upd (Zc n) 5 (.sl 54 0 ((((endsK c n k) ++ [(⟨(k : Int), 0⟩ : En)]) ++ [(⟨(k : Int), 1⟩ : En)]).length))) 6 (.i (k : Int))) (updO (updO (Ze c n k) 53 .dead) 54 (.live ⟨(enc eEn (((endsK c n k) ++ [(⟨(k : Int), 0⟩ : En)]) ++ [(⟨(k : Int), 1⟩ : En)])), 114, 2⟩)) ?_
    refine regR ?_
    refine mG (.i (k : Int)) ?_
    refine oG (qB (.int .i64 ((k + 1 : Nat) : Int)) (addN om) ?_)
    refine mG (.i ((k + 1 : Nat) : Int)) ?_
    refine op0 ?_
    show _ ∧ _
    have a1 : (c.getD k dS).a = n := by simpa using hc1
    have a2 : (c.getD k dS).b = n := by simpa using hc2
    have hs_ := endsK_tt a1 a2
    refine ⟨by omega, trivial, ?_⟩
    exact iL [(54, 1), (2, 2)] [((54, 1), .live _), ((2, 2), .live _)] ⟨row_no rfl (by exact congrArg (fun l_ => LObj.mk (enc eEn l_) 114 2) hs_), row_no rfl rfl, trivial⟩ (he := (sS rfl (sM (by exact congrArg (AV.sl 1 0) (congrArg List.length hs_.symm)) (sS rfl (sM rfl (sS rfl sr_none))))))
   have hf4 := (beq_eq_false_iff_ne).1 hc2
   refine awp_skip ?_
   refine regR ?_
   refine mG (.i (k : Int)) ?_
   refine oG (qB (.int .i64 ((k + 1 : Nat) : Int)) (addN om) ?_)
   refine mG (.i ((k + 1 : Nat) : Int)) ?_
   refine op0 ?_
   show _ ∧ _
   have a1 : (c.getD k dS).a = n := by simpa using hc1
   have a2 : ¬ (c.getD k dS).b = n := by simpa using hc2
   have hs_ := endsK_tf a1 a2
   refine ⟨by omega, trivial, ?_⟩
   exact iL [(53, 1), (2, 2)] [((53, 1), .live _), ((2, 2), .live _)] ⟨row_no rfl (by exact congrArg (fun l_ => LObj.mk (enc eEn l_) 114 2) hs_), row_no rfl rfl, trivial⟩ (he := (sS rfl (sM (by exact congrArg (AV.sl 1 0) (congrArg List.length hs_.symm)) (sS rfl (sM rfl (sS rfl sr_none))))))
  have hf5 := (beq_eq_false_iff_ne).1 hc1
  refine awp_skip ?_
  refine seqR ?_
  refine fG (.pt 2 1) ft39_1 sz35 ?_
  refine oG (qL (.q eSec c) ag35 ?_)
  refine mG (.i (k : Int)) ?_
  refine oG (qX dS ut35 sz102 ?_)
  refine oG (qF (Zd c k) (Zi c k) ft102_2 sz3 ?_)
  refine oG (qL (.i ((c.getD k dS).b)) ag3 ?_)
  refine mG (.i n) ?_
  refine bG ((.bool (((c.getD k dS).b) == n))) ?_
  refine rU (upd (Zf n c k) 34 (.b (((c.getD k dS).b) == n))) (Zb c n k) ?_
  refine awp_cond (((c.getD k dS).b) == n) rfl rfl (fun hc3 => ?_) (fun hc3 => ?_)
  ·skip
   have hf6 := (beq_iff_eq).1 hc3
   refine regR ?_
   refine mG (.sl 1 0 ((endsK c n k).length)) ?_
   refine mG (.i (k : Int)) ?_
   refine oG (qD pl114 ?_)
   refine oG (aop_lit rfl rfl rfl ut115 iz114 (by decide) (by decide) rfl rfl ?_)
   refine oG (aop_app1 (f := eEn) (l := endsK c n k) 55 (⟨(k : Int), 1⟩ : En) rfl rfl rfl rfl ut115 in114 rfl (by decide) rfl rfl rfl rfl rfl rfl (fun _ => rfl) rfl rfl oo oo rfl ?_)
   refine mG (.sl 55 0 (((endsK c n k) ++ [(⟨(k : Int), 1⟩ : En)]).length)) ?_
   refine op0 ?_
   refine rT (upd (upd (Zc n) 5 (.sl 55 0 (((endsK c n k) ++ [(⟨(k : Int), 1⟩ : En)]).length))) 6 (.i (k : Int))) (updO (updO (Zb c n k) 1 .dead) 55 (.live ⟨(enc eEn ((endsK c n k) ++ [(⟨(k : Int), 1⟩ : En)])), 114, 2⟩)) ?_
   refine regR ?_
   refine mG (.i (k : Int)) ?_
   refine oG (qB (.int .i64 ((k + 1 : Nat) : Int)) (addN om) ?_)
   refine mG (.i ((k + 1 : Nat) : Int)) ?_
   refine op0 ?_
   show _ ∧ _
   have a1 : ¬ (c.getD k dS).a = n := by simpa using hc1
   have a2 : (c.getD k dS).b = n := by simpa using hc3
   have hs_ := endsK_ft a1 a2
   refine ⟨by omega, trivial, ?_⟩
   exact iL [(55, 1), (2, 2)] [((55, 1), .live _), ((2, 2), .live _)] ⟨row_no rfl (by exact congrArg (fun l_ => LObj.mk (enc eEn l_) 114 2) hs_), row_no rfl rfl, trivial⟩ (he := (sS rfl (sM (by exact congrArg (AV.sl 1 0) (congrArg List.length hs_.symm)) (sS rfl (sM rfl (sS rfl sr_none))))))
  have hf7 := (beq_eq_false_iff_ne).1 hc3
  refine awp_skip ?_
  refine regR ?_
  refine mG (.i (k : Int)) ?_
  refine oG (qB (.int .i64 ((k + 1 : Nat) : Int)) (addN om) ?_)
  refine mG (.i ((k + 1 : Nat) : Int)) ?_
  refine op0 ?_
  show _ ∧ _
  have a1 : ¬ (c.getD k dS).a = n := by simpa using hc1
  have a2 : ¬ (c.getD k dS).b = n := by simpa using hc3
  have hs_ := endsK_ff a1 a2
  refine ⟨by omega, trivial, ?_⟩
  exact iL [(1, 1), (2, 2)] [((1, 1), .live _), ((2, 2), .live _)] ⟨row_no rfl (by exact congrArg (fun l_ => LObj.mk (enc eEn l_) 114 2) hs_), row_no rfl rfl, trivial⟩ (he := (sS rfl (sM (by exact congrArg (AV.sl 1 0) (congrArg List.length hs_.symm)) (sS rfl (sM rfl (sS rfl sr_none))))))
 have hf8 := of_decide_eq_false hc0
 refine awp_exit ?_
 refine seqR ?_
 refine mG (.sl 1 0 ((endsK c n k).length)) ?_
 refine mG (.sl 1 0 ((endsK c n k).length)) ?_
 refine op0 ?_
 have he : endsK c n k = endsL c n := by unfold endsL; congr 1; omega
 refine awp_imp _ (imp_frozen rfl (fun _ h => h) (lee_lend 4 (.q eEn (endsK c n k)) (lend_s (id := 1) (n := (endsK c n k).length) (o := ⟨(enc eEn (endsK c n k)), 114, 2⟩) rfl (enc_len (fun _ => rfl) (by first | rfl | (simp; done)))) lee_lend0)) ?_
 refine awp_ret ?_
 exact fret (av := .ro ((endsK c n k).length) (enc eEn (endsK c n k))) rfl rfl (by rw [he])
abbrev Zl (n : Int) (k : Nat) : Nat → AV := (upd (upd (upd (upd none_ 1 (.i n)) 2 (.pt 2 0)) 4 (.i 0)) 5 (.i (k : Int)))
abbrev Zk (a : List Pnt) (k : Nat) : AV := (.rp (([.i ((a.getD k dP).node), .i ((a.getD k dP).stem), .i ((a.getD k dP).left), .i ((a.getD k dP).right)] : List AV) ++ ((enc ePnt a).drop ((k + 1) * 4))))
abbrev Zj (a : List Pnt) : LObj := ⟨[.one, .one, .one, .q ePnt a, .one, .one, .one, .one, .one, .one], 39, 1⟩
theorem r05_Point (a : List Pnt) (n : Int) (hp : a.length ≤ 65536) : Fn Try.prog 62 [.agg [.one, .one, .one, .ro a.length (enc ePnt a), .one, .one, .one, .one, .one, .one], .v (.int .i64 n)] (.v (.int .i64 (pointI a n))) := by
 refine fnE_of_body (N := 22) Try.func62 rfl rfl (resOf1 rfl) (by simp) (fun w0 X hL_ => ?_)
 refine seqR ?_
 refine oG (qW 51 ?_)
 refine mG (.i 0) ?_
 refine op0 ?_
 refine awp_seq ?_
 refine seqR ?_
 refine mG (.i 0) ?_
 refine op0 ?_
 refine awp_block ?_
 refine awp_countI (fun k => ⟨(Zl n k), (updO noOb 2 (.live (Zj a)))⟩) (fun k => (a.take k).any (fun p => decide (p.node = n)) = false) (a.length) ?_ (by simp) (fun k hk_k hinv => ?_)
 ·skip
  exact iI 51 2 (o := (Zj a)) rfl
 refine awp_seq ?_
 refine seqR ?_
 refine mG (.i (k : Int)) ?_
 refine fG (.pt 2 3) ft39_3 sz37 ?_
 refine oG (qL (.q ePnt a) ag37 ?_)
 refine oG (qN ut37 ?_)
 refine bG ((.bool (decide ((k : Int) < (a.length : Int))))) ?_
 refine rU (upd (Zl n k) 10 (.b (decide ((k : Int) < (a.length : Int))))) (updO noOb 2 (.live (Zj a))) ?_
 refine awp_cond (decide ((k : Int) < (a.length : Int))) rfl rfl (fun hc0 => ?_) (fun hc0 => ?_)
 ·skip
  have hf1 := of_decide_eq_true hc0
  refine awp_skip ?_
  refine awp_seq ?_
  refine awp_block ?_
  refine seqR ?_
  refine fG (.pt 2 3) ft39_3 sz37 ?_
  refine oG (qL (.q ePnt a) ag37 ?_)
  refine mG (.i (k : Int)) ?_
  refine oG (qX dP ut37 sz100 ?_)
  refine oG (qF (Zk a k) (Zk a k) ft100_0 sz3 ?_)
  refine oG (qL (.i ((a.getD k dP).node)) ag3 ?_)
  refine mG (.i n) ?_
  refine bG ((.bool (((a.getD k dP).node) == n))) ?_
  refine rU (upd (Zl n k) 20 (.b (((a.getD k dP).node) == n))) (updO noOb 2 (.live (Zj a))) ?_
  refine awp_cond (((a.getD k dP).node) == n) rfl rfl (fun hc1 => ?_) (fun hc1 => ?_)
  ·skip
   have hf2 := (beq_iff_eq).1 hc1
   refine seqR ?_
   refine mG (.i (k : Int)) ?_
   refine mG (.i (k : Int)) ?_
   refine op0 ?_
   refine awp_ret ?_
   exact fret (av := .v (.int .i64 (k : Int))) rfl rfl (by unfold pointI; rw [idxB_stop dP om hinv (by simpa using hc1)] <;> rfl)
  have hf3 := (beq_eq_false_iff_ne).1 hc1
  refine awp_skip ?_
  refine regR ?_
  refine mG (.i (k : Int)) ?_
  refine oG (qB (.int .i64 ((k + 1 : Nat) : Int)) (addN om) ?_)
  refine mG (.i ((k + 1 : Nat) : Int)) ?_
  refine op0 ?_
  show _ ∧ _
  refine ⟨by omega, (any_step dP om hinv (by simpa using hc1)), ?_⟩
  exact iI 2 2 rfl
 have hf4 := of_decide_eq_false hc0
 refine awp_exit ?_
 refine seqR ?_
 refine mG (.i (-1)) ?_
 refine op0 ?_
 refine awp_ret ?_
 exact fret (av := .v (.int .i64 (-1))) rfl rfl (by unfold pointI; rw [idxB_end om hinv] <;> rfl)
abbrev Zo (a : List Sec) : List AV := [.one, .q eSec a, .one, .one, .one, .one, .one, .one, .one, .one]
abbrev Zn (a : List Sec) (n : Int) (k : Nat) : AV := (.rp (([.i (((endsL a n).getD k dE).sec), .i (((endsL a n).getD k dE).en)] : List AV) ++ ((enc eEn (endsL a n)).drop ((k + 1) * 2))))
abbrev Zm (s : Int) (a : List Sec) (n : Int) : Nat → AV := (upd (upd (upd none_ 1 (.i s)) 6 vN) 7 (.q eEn (endsL a n)))
theorem r05_one (a : List Sec) (s n : Int) (hs : a.length ≤ 65536) : Fn Try.prog 63 [.agg [.one, .ro a.length (enc eSec a), .one, .one, .one, .one, .one, .one, .one, .one], .v (.int .i64 s), .v (.int .i64 n)] (.ro ((oneE a s n).length) (enc eEn (oneE a s n))) := by
 refine fnE_of_body (N := 30) Try.func63 rfl rfl (resOf1 rfl) (by simp) (fun w0 X hL_ => ?_)
 refine seqR ?_
 refine oG (qW 51 ?_)
 refine mG vN ?_
 refine op0 ?_
 refine seqR ?_
 refine oG (qLB (Zo a) ag39 sz39 ?_)
 refine mG (.i n) ?_
 refine oG (qJ (r05_Ends a n oo) bd64 ?_)
 refine mG (.q eEn (endsL a n)) ?_
 refine rU (Zm s a n) (updO noOb 51 (.live ⟨(Zo a), 39, 1⟩)) ?_
 refine awp_seq ?_
 refine seqR ?_
 refine mG (.i 0) ?_
 refine op0 ?_
 refine awp_block ?_
 refine awp_countI (fun k => ⟨(upd (Zm s a n) 8 (.i (k : Int))), noOb⟩) (fun k => ((endsL a n).take k).any (fun e => decide (e.sec = s)) = false) ((endsL a n).length) ?_ (by simp) (fun k hk_k hinv => ?_)
 ·skip
  exact iN
 refine awp_seq ?_
 refine seqR ?_
 refine mG (.i (k : Int)) ?_
 refine mG (.q eEn (endsL a n)) ?_
 refine oG (qN ut115 ?_)
 refine bG ((.bool (decide ((k : Int) < ((endsL a n).length : Int))))) ?_
 refine rU (upd (upd (Zm s a n) 8 (.i (k : Int))) 15 (.b (decide ((k : Int) < ((endsL a n).length : Int))))) noOb ?_
 refine awp_cond (decide ((k : Int) < ((endsL a n).length : Int))) rfl rfl (fun hc0 => ?_) (fun hc0 => ?_)
 ·skip
  have hf1 := of_decide_eq_true hc0
  have hle := endsL_len a n
  refine awp_skip ?_
  refine awp_seq ?_
  refine awp_block ?_
  refine seqR ?_
  refine mG (.q eEn (endsL a n)) ?_
  refine mG (.i (k : Int)) ?_
  refine oG (qX dE ut115 sz114 ?_)
  refine oG (qF (Zn a n k) (Zn a n k) ft114_0 sz3 ?_)
  refine oG (qL (.i (((endsL a n).getD k dE).sec)) ag3 ?_)
  refine mG (.i s) ?_
  refine bG ((.bool ((((endsL a n).getD k dE).sec) == s))) ?_
  refine rU (upd (upd (Zm s a n) 8 (.i (k : Int))) 24 (.b ((((endsL a n).getD k dE).sec) == s))) noOb ?_
  refine awp_cond ((((endsL a n).getD k dE).sec) == s) rfl rfl (fun hc1 => ?_) (fun hc1 => ?_)
  ·skip
   have hf2 := (beq_iff_eq).1 hc1
   refine seqR ?_
   refine mG (.q eEn (endsL a n)) ?_
   refine mG (.i (k : Int)) ?_
   refine mG (.i (k : Int)) ?_
   refine oG (qB (.int .i64 ((k + 1 : Nat) : Int)) (addN om) ?_)
   refine oG (aop_sliceRo (l := k) (hgh := k + 1) (cells' := enc eEn (((endsL a n).take (k + 1)).drop k)) rfl rfl rfl ut115 sz114 rfl ⟨_, rfl⟩ ⟨_, rfl⟩ oo oo (sliceE (f := eEn) (fun _ => rfl) _ _ _) ?_)
   refine mG (.ro ((k + 1) - k) (enc eEn (((endsL a n).take (k + 1)).drop k))) ?_
   refine rU (upd (upd (upd (upd none_ 1 (.i s)) 6 (.ro ((k + 1) - k) (enc eEn (((endsL a n).take (k + 1)).drop k)))) 7 (.q eEn (endsL a n))) 8 (.i (k : Int))) noOb ?_
   refine awp_ret ?_
   exact fret (av := .ro ((k + 1) - k) (enc eEn (((endsL a n).take (k + 1)).drop k))) rfl rfl (by unfold oneE; rw [firstE_stop om hinv (by simpa using hc1), ← take1_drop om, List.drop_take, show k + 1 - k = 1 by omega]; simp; omega)
  have hf3 := (beq_eq_false_iff_ne).1 hc1
  refine awp_skip ?_
  refine regR ?_
  refine mG (.i (k : Int)) ?_
  refine oG (qB (.int .i64 ((k + 1 : Nat) : Int)) (addN om) ?_)
  refine mG (.i ((k + 1 : Nat) : Int)) ?_
  refine op0 ?_
  show _ ∧ _
  refine ⟨by omega, (any_step dE om hinv (by simpa using hc1)), ?_⟩
  exact iN
 have hf4 := of_decide_eq_false hc0
 refine awp_exit ?_
 refine seqR ?_
 refine mG vN ?_
 refine op0 ?_
 refine awp_imp _ (imp_frozen rfl (fun _ h => h) (lee_lend 6 (.ro 0 []) .nil lee_lend0)) ?_
 refine awp_ret ?_
 exact fret (av := .ro 0 []) rfl rfl (by unfold oneE; rw [firstE_none om hinv] <;> rfl)
abbrev Z11 (a : List Sec) (s e : Int) : AV := (.q eEn (endsL a (nodeA a s e)))
abbrev Z10 : Nat → AV := (upd (upd none_ 2 (.pt 51 0)) 3 (.pt 52 0))
abbrev Zz (a : List Sec) (s e : Int) (k : Nat) : Nat → AV := (upd (upd (upd (upd (upd none_ 3 (.pt 3 0)) 4 vN) 8 (.sl 1 0 ((otherK a (nodeA a s e) s e k).length))) 10 (Z11 a s e)) 11 (.i (k : Int)))
abbrev Zx (c : List Pnt) (a : List Sec) (s e : Int) : List AV := [.i ((c.getD (pointI c (nodeA a s e)).toNat dP).node), .i ((c.getD (pointI c (nodeA a s e)).toNat dP).stem), .i ((c.getD (pointI c (nodeA a s e)).toNat dP).left), .i ((c.getD (pointI c (nodeA a s e)).toNat dP).right)]
abbrev Zv (a : List Sec) (s e : Int) (k : Nat) : List AV := [.i (((endsL a (nodeA a s e)).getD k dE).sec), .i (((endsL a (nodeA a s e)).getD k dE).en)]
abbrev Zu (a : List Sec) (s e : Int) (k : Nat) : En := (⟨((endsL a (nodeA a s e)).getD k dE).sec, ((endsL a (nodeA a s e)).getD k dE).en⟩ : En)
abbrev Zt (a : List Sec) (c : List Pnt) (s e : Int) : List AV := (enc eEn ((([] : List En) ++ (oneE a ((c.getD (pointI c (nodeA a s e)).toNat dP).left) (nodeA a s e))) ++ (oneE a ((c.getD (pointI c (nodeA a s e)).toNat dP).right) (nodeA a s e))))
abbrev Zs (a : List Sec) (s e : Int) : Nat → AV := (upd (upd Z10 4 vN) 5 (.i (nodeA a s e)))
abbrev Zr (a : List Sec) (s e : Int) (k : Nat) : Nat → OSt := (updO (updO noOb 1 (.live ⟨(enc eEn (otherK a (nodeA a s e) s e k)), 114, 2⟩)) 3 (.live ⟨[.i s, .i e], 114, 1⟩))
abbrev Zq (a : List Sec) (c : List Pnt) : List AV := [.one, .q eSec a, .one, .q ePnt c, .one, .one, .one, .one, .one, .one]
abbrev Zw (a : List Sec) (c : List Pnt) (s e : Int) : Nat → OSt := (updO (updO noOb 51 (.live ⟨(Zq a c), 39, 1⟩)) 52 (.live ⟨[.i s, .i e], 114, 1⟩))
abbrev Zp (a : List Sec) (c : List Pnt) (s e : Int) : Nat → OSt := (updO (updO (Zw a c s e) 53 (.live ⟨[.i 0, .i 0, .i 0, .i 0], 100, 1⟩)) 53 (.live ⟨(Zx c a s e), 100, 1⟩))
abbrev Zy (a : List Sec) (c : List Pnt) (s e : Int) : Nat → OSt := (updO (updO (updO (Zp a c s e) 54 (.live ⟨[], 114, 2⟩)) 54 .dead) 55 (.live ⟨(enc eEn (([] : List En) ++ (oneE a ((c.getD (pointI c (nodeA a s e)).toNat dP).left) (nodeA a s e)))), 114, 2⟩))
theorem r05_Around (a : List Sec) (c : List Pnt) (s e : Int) (hs : a.length ≤ 65536) (hp : c.length ≤ 65536) : Fn Try.prog 51 [.agg [.one, .ro a.length (enc eSec a), .one, .ro c.length (enc ePnt c), .one, .one, .one, .one, .one, .one], .agg [.v (.int .i64 s), .v (.int .i64 e)]] (.ro ((aroundL a c s e).length) (enc eEn (aroundL a c s e))) := by
 refine fnE_of_body (N := 92) Try.func51 rfl rfl (resOf1 rfl) (by simp) (fun w0 X hL_ => ?_)
 refine seqR ?_
 refine oG (qW 51 ?_)
 refine oG (qW 52 ?_)
 refine mG vN ?_
 refine op0 ?_
 refine seqR ?_
 refine oG (qLB (Zq a c) ag39 sz39 ?_)
 refine oG (qLB [.i s, .i e] ag114 sz114 ?_)
 refine oG (qC (r05_node a s e oo) bd61 ?_)
 refine mG (.tup [.i (nodeA a s e), .b (!noNode a s e)]) ?_
 refine oG (qE ?_)
 refine oG (qE ?_)
 refine mG (.i (nodeA a s e)) ?_
 refine mG (.b (!noNode a s e)) ?_
 refine rU (upd (Zs a s e) 6 (.b (!noNode a s e))) (Zw a c s e) ?_
 refine awp_seq ?_
 refine seqR ?_
 refine mG (.b (!noNode a s e)) ?_
 refine oG (aop_not rfl rfl rfl rfl ?_)
 refine op0 ?_
 refine awp_cond (!(!noNode a s e)) rfl rfl (fun hc0 => ?_) (fun hc0 => ?_)
 ·skip
  have hf1 := not_t hc0
  have hn : noNode a s e = true := by simpa using hc0
  refine seqR ?_
  refine mG vN ?_
  refine op0 ?_
  refine awp_imp _ (imp_frozen rfl (fun _ h => h) (lee_lend 4 (.ro 0 []) .nil lee_lend0)) ?_
  refine awp_ret ?_
  exact fret (av := .ro 0 []) rfl rfl (by rw [around_no hn]; rfl)
 have hf2 := not_f hc0
 have hn : noNode a s e = false := by simpa using hc0
 have hr_ := pointI_range c (nodeA a s e)
 refine awp_skip ?_
 refine seqR ?_
 refine oG (qLB (Zq a c) ag39 sz39 ?_)
 refine mG (.i (nodeA a s e)) ?_
 refine oG (qC (r05_Point c (nodeA a s e) oo) bd62 ?_)
 refine mG (.i (pointI c (nodeA a s e))) ?_
 refine rU (upd (Zs a s e) 7 (.i (pointI c (nodeA a s e)))) (Zw a c s e) ?_
 refine seqR ?_
 refine mG vN ?_
 refine op0 ?_
 refine awp_seq ?_
 refine seqR ?_
 refine mG (.i (pointI c (nodeA a s e))) ?_
 refine bG ((.bool (decide ((pointI c (nodeA a s e)) ≥ 0)))) ?_
 refine op0 ?_
 refine awp_cond (decide ((pointI c (nodeA a s e)) ≥ 0)) rfl rfl (fun hc1 => ?_) (fun hc1 => ?_)
 ·skip
  have hf3 := of_decide_eq_true hc1
  have hi : 0 ≤ pointI c (nodeA a s e) := by simpa using hc1
  have ho1 := oneE_len a (c.getD (pointI c (nodeA a s e)).toNat dP).left (nodeA a s e)
  have ho2 := oneE_len a (c.getD (pointI c (nodeA a s e)).toNat dP).right (nodeA a s e)
  refine seqR ?_
  refine fG (.pt 51 3) ft39_3 sz37 ?_
  refine oG (qL (.q ePnt c) ag37 ?_)
  refine mG (.i (pointI c (nodeA a s e))) ?_
  refine oG (aop_ixI dP rfl rfl rfl ut37 sz100 rfl rfl (fun _ => rfl) rfl om oo ?_)
  refine oG (qLB (Zx c a s e) ag100 sz100 ?_)
  refine oG (aop_alloc 53 rfl rfl rfl rfl ze100 rfl ?_)
  refine oG (qS sz100 ?_)
  refine rU (upd (upd (Zs a s e) 8 vN) 9 (.pt 53 0)) (Zp a c s e) ?_
  refine awp_seq ?_
  refine seqR ?_
  refine fG (.pt 52 0) ft114_0 sz3 ?_
  refine oG (qL (.i s) ag3 ?_)
  refine fG (.pt 53 1) ft100_1 sz3 ?_
  refine oG (qL (.i ((c.getD (pointI c (nodeA a s e)).toNat dP).stem)) ag3 ?_)
  refine bG ((.bool (s == ((c.getD (pointI c (nodeA a s e)).toNat dP).stem)))) ?_
  refine rU (upd (upd (upd (Zs a s e) 8 vN) 9 (.pt 53 0)) 34 (.b (s == ((c.getD (pointI c (nodeA a s e)).toNat dP).stem)))) (Zp a c s e) ?_
  refine awp_cond (s == ((c.getD (pointI c (nodeA a s e)).toNat dP).stem)) rfl rfl (fun hc2 => ?_) (fun hc2 => ?_)
  ·skip
   have hf4 := (beq_iff_eq).1 hc2
   have hq : s = (c.getD (pointI c (nodeA a s e)).toNat dP).stem := by simpa using hc2
   refine seqR ?_
   refine mG vN ?_
   refine oG (qLB (Zq a c) ag39 sz39 ?_)
   refine fG (.pt 53 2) ft100_2 sz3 ?_
   refine oG (qL (.i ((c.getD (pointI c (nodeA a s e)).toNat dP).left)) ag3 ?_)
   refine mG (.i (nodeA a s e)) ?_
   refine oG (qC (r05_one a ((c.getD (pointI c (nodeA a s e)).toNat dP).left) (nodeA a s e) oo) bd63 ?_)
   refine oG (aop_adopt 35 54 114 2 rfl rfl (aop_appE (f := eEn) (l := ([] : List En)) (l2 := oneE a ((c.getD (pointI c (nodeA a s e)).toNat dP).left) (nodeA a s e)) 55 rfl rfl rfl rfl ut115 in114 rfl (by decide) rfl rfl rfl rfl rfl rfl (fun _ => rfl) rfl rfl rfl oo oo rfl ?_))
   refine mG (.sl 55 0 ((([] : List En) ++ (oneE a ((c.getD (pointI c (nodeA a s e)).toNat dP).left) (nodeA a s e))).length)) ?_
   refine rU (upd (upd (Zs a s e) 8 (.sl 55 0 ((([] : List En) ++ (oneE a ((c.getD (pointI c (nodeA a s e)).toNat dP).left) (nodeA a s e))).length))) 9 (.pt 53 0)) (Zy a c s e) ?_
   refine seqR ?_
   refine mG (.sl 55 0 ((([] : List En) ++ (oneE a ((c.getD (pointI c (nodeA a s e)).toNat dP).left) (nodeA a s e))).length)) ?_
   refine oG (qLB (Zq a c) ag39 sz39 ?_)
   refine fG (.pt 53 3) ft100_3 sz3 ?_
   refine oG (qL (.i ((c.getD (pointI c (nodeA a s e)).toNat dP).right)) ag3 ?_)
   refine mG (.i (nodeA a s e)) ?_
   refine oG (qC (r05_one a ((c.getD (pointI c (nodeA a s e)).toNat dP).right) (nodeA a s e) oo) bd63 ?_)
   refine oG (aop_appE (f := eEn) (l := ([] : List En) ++ (oneE a ((c.getD (pointI c (nodeA a s e)).toNat dP).left) (nodeA a s e))) (l2 := oneE a ((c.getD (pointI c (nodeA a s e)).toNat dP).right) (nodeA a s e)) 56 rfl rfl rfl rfl ut115 in114 rfl (by decide) rfl rfl rfl rfl rfl rfl (fun _ => rfl) rfl rfl rfl oo oo rfl ?_)
   refine mG (.sl 56 0 (((([] : List En) ++ (oneE a ((c.getD (pointI c (nodeA a s e)).toNat dP).left) (nodeA a s e))) ++ (oneE a ((c.getD (pointI c (nodeA a s e)).toNat dP).right) (nodeA a s e))).length)) ?_
   refine rU (upd (upd (upd (upd Z10 4 (.sl 56 0 (((([] : List En) ++ (oneE a ((c.getD (pointI c (nodeA a s e)).toNat dP).left) (nodeA a s e))) ++ (oneE a ((c.getD (pointI c (nodeA a s e)).toNat dP).right) (nodeA a s e))).length))) 5 (.i (nodeA a s e))) 8 (.sl 55 0 ((([] : List En) ++ (oneE a ((c.getD (pointI c (nodeA a s e)).toNat dP).left) (nodeA a s e))).length))) 9 (.pt 53 0)) (updO (updO (Zy a c s e) 55 .dead) 56 (.live ⟨(Zt a c s e), 114, 2⟩)) ?_
   refine awp_imp _ (imp_frozen rfl (fun _ h => h) (lee_lend 4 (.q eEn ((([] : List En) ++ (oneE a ((c.getD (pointI c (nodeA a s e)).toNat dP).left) (nodeA a s e))) ++ (oneE a ((c.getD (pointI c (nodeA a s e)).toNat dP).right) (nodeA a s e)))) (lend_s (id := 56) (n := ((([] : List En) ++ (oneE a ((c.getD (pointI c (nodeA a s e)).toNat dP).left) (nodeA a s e))) ++ (oneE a ((c.getD (pointI c (nodeA a s e)).toNat dP).right) (nodeA a s e))).length) (o := ⟨(Zt a c s e), 114, 2⟩) rfl (enc_len (fun _ => rfl) (by first | rfl | (simp; done)))) lee_lend0)) ?_
   refine awp_ret ?_
   exact fret (av := .ro (((([] : List En) ++ (oneE a ((c.getD (pointI c (nodeA a s e)).toNat dP).left) (nodeA a s e))) ++ (oneE a ((c.getD (pointI c (nodeA a s e)).toNat dP).right) (nodeA a s e))).length) (Zt a c s e)) rfl rfl (by rw [around_stem hn hi hq]; rfl)
  have hf5 := (beq_eq_false_iff_ne).1 hc2
  have hq : ¬ s = (c.getD (pointI c (nodeA a s e)).toNat dP).stem := by simpa using hc2
  refine awp_skip ?_
  refine awp_seq ?_
  refine seqR ?_
  refine fG (.pt 52 0) ft114_0 sz3 ?_
  refine oG (qL (.i s) ag3 ?_)
  refine fG (.pt 53 2) ft100_2 sz3 ?_
  refine oG (qL (.i ((c.getD (pointI c (nodeA a s e)).toNat dP).left)) ag3 ?_)
  refine bG ((.bool (s == ((c.getD (pointI c (nodeA a s e)).toNat dP).left)))) ?_
  refine mG (.b (s == ((c.getD (pointI c (nodeA a s e)).toNat dP).left))) ?_
  refine aops_grp 6 60 (.b ((s == ((c.getD (pointI c (nodeA a s e)).toNat dP).left)) || (s == ((c.getD (pointI c (nodeA a s e)).toNat dP).right)))) ?_ ?_
  ·refine (Bool.eq_false_or_eq_true (s == ((c.getD (pointI c (nodeA a s e)).toNat dP).left))).elim (fun hg6 => ?_) (fun hg6 => ?_)
   ·skip
    have hf7 := (beq_iff_eq).1 hg6
    refine nG hg6 ?_
    refine nG hg6 ?_
    refine nG hg6 ?_
    refine nG hg6 ?_
    refine nG hg6 ?_
    refine oG (qP (s == ((c.getD (pointI c (nodeA a s e)).toNat dP).left)) (.b true) hg6 ?_)
    refine op0 ?_
    exact imp_env (lee_both 60 _ _ (by rw [hg6] <;> rfl) lO)
   have hf8 := (beq_eq_false_iff_ne).1 hg6
   refine oY hg6 (qF (.pt 52 0) (.pt 52 0) ft114_0 sz3 ?_)
   refine oY hg6 (qL (.i s) ag3 ?_)
   refine oY hg6 (qF (.pt 53 0) (.pt 53 3) ft100_3 sz3 ?_)
   refine oY hg6 (qL (.i ((c.getD (pointI c (nodeA a s e)).toNat dP).right)) ag3 ?_)
   refine oY hg6 (qB (.bool (s == ((c.getD (pointI c (nodeA a s e)).toNat dP).right))) rfl ?_)
   refine oG (qP (s == ((c.getD (pointI c (nodeA a s e)).toNat dP).left)) (.b (s == ((c.getD (pointI c (nodeA a s e)).toNat dP).right))) hg6 ?_)
   refine op0 ?_
   exact imp_env (lee_both 60 _ _ (by rw [hg6] <;> rfl) lO)
  refine op0 ?_
  refine rT (upd (upd (upd (Zs a s e) 8 vN) 9 (.pt 53 0)) 60 (.b ((s == ((c.getD (pointI c (nodeA a s e)).toNat dP).left)) || (s == ((c.getD (pointI c (nodeA a s e)).toNat dP).right))))) (Zp a c s e) ?_
  refine awp_cond ((s == ((c.getD (pointI c (nodeA a s e)).toNat dP).left)) || (s == ((c.getD (pointI c (nodeA a s e)).toNat dP).right))) rfl rfl (fun hc3 => ?_) (fun hc3 => ?_)
  ·skip
   have hl : s = (c.getD (pointI c (nodeA a s e)).toNat dP).left ∨ s = (c.getD (pointI c (nodeA a s e)).toNat dP).right := by simpa using hc3
   refine seqR ?_
   refine oG (qLB (Zq a c) ag39 sz39 ?_)
   refine fG (.pt 53 1) ft100_1 sz3 ?_
   refine oG (qL (.i ((c.getD (pointI c (nodeA a s e)).toNat dP).stem)) ag3 ?_)
   refine mG (.i (nodeA a s e)) ?_
   refine oG (qC (r05_one a ((c.getD (pointI c (nodeA a s e)).toNat dP).stem) (nodeA a s e) oo) bd63 ?_)
   refine mG (.q eEn (oneE a ((c.getD (pointI c (nodeA a s e)).toNat dP).stem) (nodeA a s e))) ?_
   refine rU (upd (upd (upd Z10 4 (.q eEn (oneE a ((c.getD (pointI c (nodeA a s e)).toNat dP).stem) (nodeA a s e)))) 5 (.i (nodeA a s e))) 8 vN) (Zp a c s e) ?_
   refine awp_ret ?_
   exact fret (av := .ro ((oneE a ((c.getD (pointI c (nodeA a s e)).toNat dP).stem) (nodeA a s e)).length) (enc eEn (oneE a ((c.getD (pointI c (nodeA a s e)).toNat dP).stem) (nodeA a s e)))) rfl rfl (by rw [around_leg hn hi hq hl])
  obtain ⟨hf9a, hf9b⟩ := or_f hc3
  have hf10 := (beq_eq_false_iff_ne).1 hf9a
  have hf11 := (beq_eq_false_iff_ne).1 hf9b
  have hl : ¬ (s = (c.getD (pointI c (nodeA a s e)).toNat dP).left ∨ s = (c.getD (pointI c (nodeA a s e)).toNat dP).right) := by simpa using hc3
  refine awp_skip ?_
  refine seqR ?_
  refine mG vN ?_
  refine op0 ?_
  refine awp_imp _ (imp_frozen rfl (fun _ h => h) (lee_lend 4 (.ro 0 []) .nil lee_lend0)) ?_
  refine awp_ret ?_
  exact fret (av := .ro 0 []) rfl rfl (by rw [around_off hn hi hq hl]; rfl)
 have hf12 := of_decide_eq_false hc1
 have hi : ¬ 0 ≤ pointI c (nodeA a s e) := by simpa using hc1
 have hle0 := endsL_len a (nodeA a s e)
 refine awp_skip ?_
 refine seqR ?_
 refine oG (qLB (Zq a c) ag39 sz39 ?_)
 refine mG (.i (nodeA a s e)) ?_
 refine oG (qC (r05_Ends a (nodeA a s e) oo) bd64 ?_)
 refine mG (Z11 a s e) ?_
 refine rU (upd (upd (upd (upd none_ 3 (.pt 52 0)) 4 vN) 8 vN) 10 (Z11 a s e)) (Zw a c s e) ?_
 refine awp_seq ?_
 refine seqR ?_
 refine mG (.i 0) ?_
 refine op0 ?_
 refine awp_block ?_
 refine awp_countI (fun k => ⟨(Zz a s e k), (Zr a s e k)⟩) (fun k => True) ((endsL a (nodeA a s e)).length) ?_ trivial (fun k hk_k hinv => ?_)
 ·skip
  refine (imp_adopt 8 57 114 2 rfl rfl).trans ?_
  exact iL [(57, 1), (52, 3)] [((57, 1), .live _), ((52, 3), .live _)] ⟨row_no (o := ⟨[], 114, 2⟩) rfl rfl, row_no rfl rfl, trivial⟩
 have hle := otherK_len a (nodeA a s e) s e k
 refine awp_seq ?_
 refine seqR ?_
 refine mG (.i (k : Int)) ?_
 refine mG (Z11 a s e) ?_
 refine oG (qN ut115 ?_)
 refine bG ((.bool (decide ((k : Int) < ((endsL a (nodeA a s e)).length : Int))))) ?_
 refine rU (upd (Zz a s e k) 72 (.b (decide ((k : Int) < ((endsL a (nodeA a s e)).length : Int))))) (Zr a s e k) ?_
 refine awp_cond (decide ((k : Int) < ((endsL a (nodeA a s e)).length : Int))) rfl rfl (fun hc4 => ?_) (fun hc4 => ?_)
 ·skip
  have hf13 := of_decide_eq_true hc4
  refine awp_skip ?_
  refine awp_seq ?_
  refine awp_block ?_
  refine awp_seq ?_
  refine aD 6 [(80, .b (!(decide ((((endsL a (nodeA a s e)).getD k dE).sec) = s ∧ (((endsL a (nodeA a s e)).getD k dE).en) = e)))), (79, .agg [.i s, .i e]), (78, .agg (Zv a s e k)), (77, .rp (((Zv a s e k) : List AV) ++ ((enc eEn (endsL a (nodeA a s e))).drop ((k + 1) * 2)))), (76, .i (k : Int)), (75, .q eEn (endsL a (nodeA a s e)))] mixed ?_ ?_
  ·refine ⟨?_, ?_, ?_, ?_, ?_, ?_, trivial⟩
   ·exact sMv
   ·exact sMv
   ·exact (sIx dE ut115 sz114)
   ·exact dW 78 fun st hob hE => aop_ldB (cells' := (Zv a s e k)) rfl rfl rfl ag114 sz114 (hE 77 rfl) rfl rfl rfl (by rw [hob]; rfl)
   ·exact sLB [.i s, .i e] ag114 sz114
   exact dW 80 fun st hob hE => aop_eqS2 (r := (!(decide ((((endsL a (nodeA a s e)).getD k dE).sec) = s ∧ (((endsL a (nodeA a s e)).getD k dE).en) = e)))) rfl rfl rfl (hE 78 rfl) (hE 79 rfl) es114 ut3 ut3 ag3 ag3 (.inr ⟨rfl, rfl⟩) (by rw [hob]; rfl)
  refine op0 ?_
  refine awp_cond (!(decide ((((endsL a (nodeA a s e)).getD k dE).sec) = s ∧ (((endsL a (nodeA a s e)).getD k dE).en) = e))) rfl rfl (fun hc5 => ?_) (fun hc5 => ?_)
  ·skip
   refine regR ?_
   refine mG (.sl 1 0 ((otherK a (nodeA a s e) s e k).length)) ?_
   refine mG (Z11 a s e) ?_
   refine mG (.i (k : Int)) ?_
   refine oG (qX dE ut115 sz114 ?_)
   refine oG (qLB (Zv a s e k) ag114 sz114 ?_)
   refine oG (aop_lit rfl rfl rfl ut115 iz114 (by decide) (by decide) rfl rfl ?_)
   refine oG (aop_app1 (f := eEn) (l := otherK a (nodeA a s e) s e k) 58 (Zu a s e k) rfl rfl rfl rfl ut115 in114 rfl (by decide) rfl rfl rfl rfl rfl rfl (fun _ => rfl) rfl rfl oo oo rfl ?_)
   refine mG (.sl 58 0 (((otherK a (nodeA a s e) s e k) ++ [(Zu a s e k)]).length)) ?_
   refine op0 ?_
   refine rT (upd (upd (upd (upd (upd none_ 3 (.pt 3 0)) 4 vN) 8 (.sl 58 0 (((otherK a (nodeA a s e) s e k) ++ [(Zu a s e k)]).length))) 10 (Z11 a s e)) 11 (.i (k : Int))) (updO (updO (Zr a s e k) 1 .dead) 58 (.live ⟨(enc eEn ((otherK a (nodeA a s e) s e k) ++ [(Zu a s e k)])), 114, 2⟩)) ?_
   refine regR ?_
   refine mG (.i (k : Int)) ?_
   refine oG (qB (.int .i64 ((k + 1 : Nat) : Int)) (addN om) ?_)
   refine mG (.i ((k + 1 : Nat) : Int)) ?_
   refine op0 ?_
   show _ ∧ _
   have hs_ : otherK a (nodeA a s e) s e (k + 1) = otherK a (nodeA a s e) s e k ++ [(endsL a (nodeA a s e)).getD k dE] := filter_on dE om hc5
   refine ⟨by omega, trivial, ?_⟩
   exact iL [(58, 1), (3, 3)] [((58, 1), .live _), ((3, 3), .live _)] ⟨row_no rfl (by exact congrArg (fun l_ => LObj.mk (enc eEn l_) 114 2) hs_), row_no rfl rfl, trivial⟩ (he := (sS rfl (sS rfl (sM (by exact congrArg (AV.sl 1 0) (congrArg List.length hs_.symm)) (sS rfl (sM rfl sr_none))))))
  refine awp_skip ?_
  refine regR ?_
  refine mG (.i (k : Int)) ?_
  refine oG (qB (.int .i64 ((k + 1 : Nat) : Int)) (addN om) ?_)
  refine mG (.i ((k + 1 : Nat) : Int)) ?_
  refine op0 ?_
  show _ ∧ _
  have hs_ : otherK a (nodeA a s e) s e (k + 1) = otherK a (nodeA a s e) s e k := filter_off dE om hc5
  refine ⟨by omega, trivial, ?_⟩
  exact iL [(1, 1), (3, 3)] [((1, 1), .live _), ((3, 3), .live _)] ⟨row_no rfl (by exact congrArg (fun l_ => LObj.mk (enc eEn l_) 114 2) hs_), row_no rfl rfl, trivial⟩ (he := (sS rfl (sS rfl (sM (by exact congrArg (AV.sl 1 0) (congrArg List.length hs_.symm)) (sS rfl (sM rfl sr_none))))))
 have hf14 := of_decide_eq_false hc4
 refine awp_exit ?_
 refine awp_seq ?_
 refine seqR ?_
 refine mG (.sl 1 0 ((otherK a (nodeA a s e) s e k).length)) ?_
 refine oG (aop_len rfl rfl rfl rfl ut115 (len_sl rfl) ?_)
 refine bG ((.bool (((otherK a (nodeA a s e) s e k).length : Int) != 1))) ?_
 refine op0 ?_
 refine awp_cond (((otherK a (nodeA a s e) s e k).length : Int) != 1) rfl rfl (fun hc6 => ?_) (fun hc6 => ?_)
 ·skip
  have hf15 := (bne_iff_ne).1 hc6
  have hlen : ¬ (otherE a (nodeA a s e) s e).length = 1 := by rw [← otherK_all (k := k) om]; simp at hc6; omega
  refine seqR ?_
  refine mG vN ?_
  refine rU (upd (upd none_ 4 vN) 8 (.sl 1 0 ((otherK a (nodeA a s e) s e k).length))) (Zr a s e k) ?_
  refine awp_imp _ (imp_frozen rfl (fun _ h => h) (lee_lend 4 (.ro 0 []) .nil lee_lend0)) ?_
  refine awp_ret ?_
  exact fret (av := .ro 0 []) rfl rfl (by rw [around_many hn hi hlen]; rfl)
 have hf16 := (bne_eq_false_iff_eq).1 hc6
 have hlen : (otherE a (nodeA a s e) s e).length = 1 := by rw [← otherK_all (k := k) om]; simp at hc6; omega
 refine awp_skip ?_
 refine seqR ?_
 refine mG (.sl 1 0 ((otherK a (nodeA a s e) s e k).length)) ?_
 refine mG (.sl 1 0 ((otherK a (nodeA a s e) s e k).length)) ?_
 refine rU (upd none_ 4 (.sl 1 0 ((otherK a (nodeA a s e) s e k).length))) (Zr a s e k) ?_
 refine awp_imp _ (imp_frozen rfl (fun _ h => h) (lee_lend 4 (.q eEn (otherK a (nodeA a s e) s e k)) (lend_s (id := 1) (n := (otherK a (nodeA a s e) s e k).length) (o := ⟨(enc eEn (otherK a (nodeA a s e) s e k)), 114, 2⟩) rfl (enc_len (fun _ => rfl) (by first | rfl | (simp; done)))) lee_lend0)) ?_
 refine awp_ret ?_
 exact fret (av := .ro ((otherK a (nodeA a s e) s e k).length) (enc eEn (otherK a (nodeA a s e) s e k))) rfl rfl (by rw [around_one hn hi hlen, otherK_all om])
abbrev Z1d (a : List Sec) (c : List Pnt) (d : List Int) (s e : Int) (k : Nat) : List AV := [.i (((aroundL a c ((wst a c d s e k).s) ((wst a c d s e k).e)).getD (legK d (aroundL a c (wst a c d s e k).s (wst a c d s e k).e).length k) dE).en)]
abbrev Z1c (a : List Sec) (c : List Pnt) (d : List Int) (s e : Int) (k : Nat) : List AV := (enc eI ((wst a c d s e k).out))
abbrev Z1b (d : List Int) (g : Int) : Nat → AV := (upd (upd (upd none_ 3 (.q eU8 d)) 4 (.i g)) 5 (.pt 3 0))
abbrev Z1a (a : List Sec) (c : List Pnt) : List AV := [.one, .q eSec a, .one, .q ePnt c, .one, .one, .one, .one, .one, .one]
abbrev Z19 (a : List Sec) (c : List Pnt) (d : List Int) (s e : Int) (k : Nat) : List AV := (enc eEn (aroundL a c ((wst a c d s e k).s) ((wst a c d s e k).e)))
abbrev Z18 (d : List Int) (g : Int) (a : List Sec) (c : List Pnt) (s e : Int) (k : Nat) : Nat → AV := (upd (upd (upd (upd (Z1b d g) 10 vN) 11 (.sl 1 0 ((wst a c d s e k).out.length))) 12 (.pt 2 0)) 13 (.i (k : Int)))
abbrev Z17 (a : List Sec) (c : List Pnt) (d : List Int) (s e : Int) (k : Nat) : List AV := [.i (((aroundL a c ((wst a c d s e k).s) ((wst a c d s e k).e)).getD (legK d (aroundL a c (wst a c d s e k).s (wst a c d s e k).e).length k) dE).sec), .i (1 - (((aroundL a c ((wst a c d s e k).s) ((wst a c d s e k).e)).getD (legK d (aroundL a c (wst a c d s e k).s (wst a c d s e k).e).length k) dE).en))]
abbrev Z16 (a : List Sec) (c : List Pnt) (d : List Int) (s e : Int) (k : Nat) : AV := (.q eEn (aroundL a c ((wst a c d s e k).s) ((wst a c d s e k).e)))
abbrev Z15 (a : List Sec) (c : List Pnt) (d : List Int) (s e : Int) (k : Nat) : List AV := [.i (((aroundL a c ((wst a c d s e k).s) ((wst a c d s e k).e)).getD (legK d (aroundL a c (wst a c d s e k).s (wst a c d s e k).e).length k) dE).sec), .i (((aroundL a c ((wst a c d s e k).s) ((wst a c d s e k).e)).getD (legK d (aroundL a c (wst a c d s e k).s (wst a c d s e k).e).length k) dE).en)]
abbrev Z14 (d : List Int) (g : Int) (a : List Sec) (c : List Pnt) (s e : Int) (k : Nat) : Nat → AV := (upd (Z18 d g a c s e k) 14 (Z16 a c d s e k))
abbrev Z13 (a : List Sec) (c : List Pnt) (d : List Int) (s e : Int) (k : Nat) : Nat → OSt := (updO (updO (updO noOb 1 (.live ⟨(Z1c a c d s e k), 3, 1⟩)) 2 (.live ⟨[.i ((wst a c d s e k).s), .i ((wst a c d s e k).e)], 114, 1⟩)) 3 (.live ⟨(Z1a a c), 39, 1⟩))
abbrev Z12 (a : List Sec) (c : List Pnt) (d : List Int) (s e : Int) (k : Nat) : AV := (.rp (((Z15 a c d s e k) : List AV) ++ ((Z19 a c d s e k).drop (((legK d (aroundL a c (wst a c d s e k).s (wst a c d s e k).e).length k) + 1) * 2))))
theorem r05_Walk (a : List Sec) (c : List Pnt) (s e : Int) (d : List Int) (g : Int) (hs : a.length ≤ 65536) (hp : c.length ≤ 65536) (ht : d.length ≤ 65536) (hm : g ≤ 65536) (hu : ∀ x, x ∈ d → 0 ≤ x ∧ x ≤ 255) : Fn Try.prog 27 [.agg [.one, .ro a.length (enc eSec a), .one, .ro c.length (enc ePnt c), .one, .one, .one, .one, .one, .one], .v (.int .i64 s), .v (.int .i64 e), .ro d.length (enc eU8 d), .v (.int .i64 g)] (.ro ((walkL a c s e d g).length) (enc eI (walkL a c s e d g))) := by
 refine fnE_of_body (N := 75) Try.func27 rfl rfl (resOf1 rfl) (by simp) (fun w0 X hL_ => ?_)
 refine seqR ?_
 refine oG (qW 51 ?_)
 refine mG vN ?_
 refine op0 ?_
 refine seqR ?_
 refine mG (.i s) ?_
 refine oG (aop_litO 52 rfl rfl rfl ut48 iz3 (by decide) (by decide) rfl rfl rfl rfl ?_)
 refine mG (.sl 52 0 1) ?_
 refine rU (upd (upd (upd (upd (upd (upd (upd none_ 1 (.i s)) 2 (.i e)) 3 (.q eU8 d)) 4 (.i g)) 5 (.pt 51 0)) 10 vN) 11 (.sl 52 0 1)) (updO (updO noOb 51 (.live ⟨(Z1a a c), 39, 1⟩)) 52 (.live ⟨[.i s], 3, 1⟩)) ?_
 refine seqR ?_
 refine mG (.i s) ?_
 refine mG (.i e) ?_
 refine oG (qD pl114 ?_)
 refine oG (aop_alloc 53 rfl rfl rfl rfl ze114 rfl ?_)
 refine oG (qS sz114 ?_)
 refine rU (upd (upd (upd (upd (upd (upd none_ 3 (.q eU8 d)) 4 (.i g)) 5 (.pt 51 0)) 10 vN) 11 (.sl 52 0 1)) 12 (.pt 53 0)) (updO (updO (updO (updO noOb 51 (.live ⟨(Z1a a c), 39, 1⟩)) 52 (.live ⟨[.i s], 3, 1⟩)) 53 (.live ⟨[.i 0, .i 0], 114, 1⟩)) 53 (.live ⟨[.i s, .i e], 114, 1⟩)) ?_
 refine awp_seq ?_
 refine seqR ?_
 refine mG (.i 0) ?_
 refine op0 ?_
 refine awp_block ?_
 refine awp_countI (fun k => ⟨(Z18 d g a c s e k), (Z13 a c d s e k)⟩) (fun k => walkR a c d s e g (g.toNat - k) k = walkL a c s e d g) (g.toNat) ?_ rfl (fun k hk_k hinv => ?_)
 ·skip
  exact iL [(52, 1), (53, 2), (51, 3)] [((52, 1), .live _), ((53, 2), .live _), ((51, 3), .live _)] ⟨row_no rfl rfl, row_no rfl rfl, row_no rfl rfl, trivial⟩
 have hwl := wst_len a c d s e k
 have hxl := aroundL_len a c (wst a c d s e k).s (wst a c d s e k).e
 refine awp_seq ?_
 refine seqR ?_
 refine mG (.sl 1 0 ((wst a c d s e k).out.length)) ?_
 refine oG (aop_len rfl rfl rfl rfl ut48 (len_sl rfl) ?_)
 refine mG (.i g) ?_
 refine bG ((.bool (decide (((wst a c d s e k).out.length : Int) < g)))) ?_
 refine rU (upd (Z18 d g a c s e k) 24 (.b (decide (((wst a c d s e k).out.length : Int) < g)))) (Z13 a c d s e k) ?_
 refine awp_cond (decide (((wst a c d s e k).out.length : Int) < g)) rfl rfl (fun hc0 => ?_) (fun hc0 => ?_)
 ·skip
  have hf1 := of_decide_eq_true hc0
  have hlt : ((k : Int) + 1 < g) := by omega
  refine awp_skip ?_
  refine awp_seq ?_
  refine awp_block ?_
  refine seqR ?_
  refine oG (qLB (Z1a a c) ag39 sz39 ?_)
  refine oG (qLB [.i ((wst a c d s e k).s), .i ((wst a c d s e k).e)] ag114 sz114 ?_)
  refine oG (qJ (r05_Around a c ((wst a c d s e k).s) ((wst a c d s e k).e) oo oo) bd51 ?_)
  refine mG (Z16 a c d s e k) ?_
  refine rU (Z14 d g a c s e k) (Z13 a c d s e k) ?_
  refine awp_seq ?_
  refine seqR ?_
  refine mG (Z16 a c d s e k) ?_
  refine oG (qN ut115 ?_)
  refine bG ((.bool (((aroundL a c ((wst a c d s e k).s) ((wst a c d s e k).e)).length : Int) == 0))) ?_
  refine op0 ?_
  refine awp_cond (((aroundL a c ((wst a c d s e k).s) ((wst a c d s e k).e)).length : Int) == 0) rfl rfl (fun hc1 => ?_) (fun hc1 => ?_)
  ·skip
   have hf2 := (beq_iff_eq).1 hc1
   have hx0 : (aroundL a c (wst a c d s e k).s (wst a c d s e k).e).length = 0 := by simpa using hc1
   refine seqR ?_
   refine mG (.sl 1 0 ((wst a c d s e k).out.length)) ?_
   refine mG (.sl 1 0 ((wst a c d s e k).out.length)) ?_
   refine rU (upd (upd (upd (upd (upd (Z1b d g) 10 (.sl 1 0 ((wst a c d s e k).out.length))) 11 (.sl 1 0 ((wst a c d s e k).out.length))) 12 (.pt 2 0)) 13 (.i (k : Int))) 14 (Z16 a c d s e k)) (Z13 a c d s e k) ?_
   refine awp_imp _ (imp_frozen rfl (fun _ h => h) (lee_lend 10 (.ro ((wst a c d s e k).out.length) (Z1c a c d s e k)) (lend_s (id := 1) (n := (wst a c d s e k).out.length) (o := ⟨(Z1c a c d s e k), 3, 1⟩) rfl (enc_len (fun _ => rfl) (by first | rfl | (simp; done)))) lee_lend0)) ?_
   refine awp_ret ?_
   exact fret (av := .ro ((wst a c d s e k).out.length) (Z1c a c d s e k)) rfl rfl (by rw [← hinv, walkR_stop (wstop_none hx0)])
  have hf3 := (beq_eq_false_iff_ne).1 hc1
  have hx0 : ¬ (aroundL a c (wst a c d s e k).s (wst a c d s e k).e).length = 0 := by simpa using hc1
  have hlk : legK d (aroundL a c (wst a c d s e k).s (wst a c d s e k).e).length k < (aroundL a c (wst a c d s e k).s (wst a c d s e k).e).length := legK_lt om
  have hye := around_en (getD_mem dE hlk)
  refine awp_skip ?_
  refine seqR ?_
  refine mG (.i 0) ?_
  refine rU (upd (Z14 d g a c s e k) 15 (.i 0)) (Z13 a c d s e k) ?_
  refine awp_seq ?_
  refine seqR ?_
  refine mG (.i (k : Int)) ?_
  refine mG (.q eU8 d) ?_
  refine oG (qN ut27 ?_)
  refine bG ((.bool (decide ((k : Int) < (d.length : Int))))) ?_
  refine rU (upd (upd (Z14 d g a c s e k) 15 (.i 0)) 37 (.b (decide ((k : Int) < (d.length : Int))))) (Z13 a c d s e k) ?_
  refine cutG ⟨(upd (Z14 d g a c s e k) 15 (.i ((legK d (aroundL a c (wst a c d s e k).s (wst a c d s e k).e).length k : Nat) : Int))), (Z13 a c d s e k)⟩ (fun s h => h) ?_ ?_
  ·skip
   refine awp_cond (decide ((k : Int) < (d.length : Int))) rfl rfl (fun hc2 => ?_) (fun hc2 => ?_)
   ·skip
    have hf4 := of_decide_eq_true hc2
    have htk : k < d.length := by simpa using hc2
    have hu0 := hu _ (getD_mem 0 htk)
    refine regR ?_
    refine mG (.q eU8 d) ?_
    refine mG (.i (k : Int)) ?_
    refine oG (qX (0 : Int) ut27 sz5 ?_)
    refine oG (qL (.v (.int .u8 (d.getD k 0))) ag5 ?_)
    refine oG (aop_conv' rfl rfl rfl ut5 ut3 rfl (IntWalk.i64_in _ om) ?_)
    refine mG (Z16 a c d s e k) ?_
    refine oG (qN ut115 ?_)
    refine oG (aop_binI (u := (.int .i64 ((d.getD k 0) % ((aroundL a c ((wst a c d s e k).s) ((wst a c d s e k).e)).length : Int)))) rfl rfl rfl rfl rfl (by show _ ≠ _; omega) (remI om) ?_)
    refine mG (.i ((d.getD k 0) % ((aroundL a c ((wst a c d s e k).s) ((wst a c d s e k).e)).length : Int))) ?_
    refine op0 ?_
    show Imp _ _ _
    exact iL [(1, 1), (2, 2), (3, 3)] [((1, 1), .live _), ((2, 2), .live _), ((3, 3), .live _)] ⟨row_no rfl rfl, row_no rfl rfl, row_no rfl rfl, trivial⟩ (he := (sS (by exact congrArg (fun n_ : Int => AV.v (.int .i64 n_)) (by first | exact legK_on htk hu0.1 | exact legK_off htk)) (sS rfl (sS rfl (sM rfl (sM rfl (sS rfl (sM rfl (sS rfl (sS rfl sr_none))))))))))
   have hf5 := of_decide_eq_false hc2
   have htk : ¬ k < d.length := by simpa using hc2
   refine awp_skip ?_
   show Imp _ _ _
   exact iL [(1, 1), (2, 2), (3, 3)] [((1, 1), .live _), ((2, 2), .live _), ((3, 3), .live _)] ⟨row_no rfl rfl, row_no rfl rfl, row_no rfl rfl, trivial⟩ (he := (sS (by exact congrArg (fun n_ : Int => AV.v (.int .i64 n_)) (by first | exact legK_on htk hu0.1 | exact legK_off htk)) (sS rfl (sS rfl (sM rfl (sM rfl (sS rfl (sM rfl (sS rfl (sS rfl sr_none))))))))))
  refine awp_seq ?_
  refine seqR ?_
  refine mG (.sl 1 0 ((wst a c d s e k).out.length)) ?_
  refine mG (Z16 a c d s e k) ?_
  refine mG (.i ((legK d (aroundL a c (wst a c d s e k).s (wst a c d s e k).e).length k : Nat) : Int)) ?_
  refine oG (qX dE ut115 sz114 ?_)
  refine oG (qF (Z12 a c d s e k) (Z12 a c d s e k) ft114_0 sz3 ?_)
  refine oG (qL (.i (((aroundL a c ((wst a c d s e k).s) ((wst a c d s e k).e)).getD (legK d (aroundL a c (wst a c d s e k).s (wst a c d s e k).e).length k) dE).sec)) ag3 ?_)
  refine oG (callL_ (r01_Has ((wst a c d s e k).out) (((aroundL a c ((wst a c d s e k).s) ((wst a c d s e k).e)).getD (legK d (aroundL a c (wst a c d s e k).s (wst a c d s e k).e).length k) dE).sec) oo) rfl rfl rfl rfl rfl bd52 (lends_cons (lend_s (id := 1) (n := (wst a c d s e k).out.length) (o := ⟨(Z1c a c d s e k), 3, 1⟩) rfl (enc_len (fun _ => rfl) (by first | rfl | (simp; done)))) lS) ?_)
  refine rU (upd (upd (Z14 d g a c s e k) 15 (.i ((legK d (aroundL a c (wst a c d s e k).s (wst a c d s e k).e).length k : Nat) : Int))) 52 (.b (decide ((((aroundL a c ((wst a c d s e k).s) ((wst a c d s e k).e)).getD (legK d (aroundL a c (wst a c d s e k).s (wst a c d s e k).e).length k) dE).sec) ∈ ((wst a c d s e k).out))))) (Z13 a c d s e k) ?_
  refine awp_cond (decide ((((aroundL a c ((wst a c d s e k).s) ((wst a c d s e k).e)).getD (legK d (aroundL a c (wst a c d s e k).s (wst a c d s e k).e).length k) dE).sec) ∈ ((wst a c d s e k).out))) rfl rfl (fun hc3 => ?_) (fun hc3 => ?_)
  ·skip
   have hse : (wnext a c d k (wst a c d s e k)).sec ∈ (wst a c d s e k).out := of_decide_eq_true hc3
   refine seqR ?_
   refine mG (.sl 1 0 ((wst a c d s e k).out.length)) ?_
   refine mG (.sl 1 0 ((wst a c d s e k).out.length)) ?_
   refine op0 ?_
   refine awp_imp _ (imp_frozen rfl (fun _ h => h) (lee_lend 10 (.ro ((wst a c d s e k).out.length) (Z1c a c d s e k)) (lend_s (id := 1) (n := (wst a c d s e k).out.length) (o := ⟨(Z1c a c d s e k), 3, 1⟩) rfl (enc_len (fun _ => rfl) (by first | rfl | (simp; done)))) lee_lend0)) ?_
   refine awp_ret ?_
   exact fret (av := .ro ((wst a c d s e k).out.length) (Z1c a c d s e k)) rfl rfl (by rw [← hinv, walkR_stop (wstop_seen hse)])
  have hns : ¬ (wnext a c d k (wst a c d s e k)).sec ∈ (wst a c d s e k).out := of_decide_eq_false hc3
  refine awp_skip ?_
  refine seqR ?_
  refine mG (.sl 1 0 ((wst a c d s e k).out.length)) ?_
  refine mG (Z16 a c d s e k) ?_
  refine mG (.i ((legK d (aroundL a c (wst a c d s e k).s (wst a c d s e k).e).length k : Nat) : Int)) ?_
  refine oG (qX dE ut115 sz114 ?_)
  refine oG (qF (Z12 a c d s e k) (Z12 a c d s e k) ft114_0 sz3 ?_)
  refine oG (qL (.i (((aroundL a c ((wst a c d s e k).s) ((wst a c d s e k).e)).getD (legK d (aroundL a c (wst a c d s e k).s (wst a c d s e k).e).length k) dE).sec)) ag3 ?_)
  refine oG (aop_lit rfl rfl rfl ut48 iz3 (by decide) (by decide) rfl rfl ?_)
  refine oG (aop_app1 (f := eI) (l := (wst a c d s e k).out) 54 (((aroundL a c ((wst a c d s e k).s) ((wst a c d s e k).e)).getD (legK d (aroundL a c (wst a c d s e k).s (wst a c d s e k).e).length k) dE).sec : Int) rfl rfl rfl rfl ut48 in3 rfl (by decide) rfl rfl rfl rfl rfl rfl (fun _ => rfl) rfl rfl oo oo rfl ?_)
  refine mG (.sl 54 0 ((((wst a c d s e k).out) ++ [(((aroundL a c ((wst a c d s e k).s) ((wst a c d s e k).e)).getD (legK d (aroundL a c (wst a c d s e k).s (wst a c d s e k).e).length k) dE).sec : Int)]).length)) ?_
  refine rU (upd (upd (upd (upd (upd (upd (Z1b d g) 10 vN) 11 (.sl 54 0 ((((wst a c d s e k).out) ++ [(((aroundL a c ((wst a c d s e k).s) ((wst a c d s e k).e)).getD (legK d (aroundL a c (wst a c d s e k).s (wst a c d s e k).e).length k) dE).sec : Int)]).length))) 12 (.pt 2 0)) 13 (.i (k : Int))) 14 (Z16 a c d s e k)) 15 (.i ((legK d (aroundL a c (wst a c d s e k).s (wst a c d s e k).e).length k : Nat) : Int))) (updO (updO (Z13 a c d s e k) 1 .dead) 54 (.live ⟨(enc eI (((wst a c d s e k).out) ++ [(((aroundL a c ((wst a c d s e k).s) ((wst a c d s e k).e)).getD (legK d (aroundL a c (wst a c d s e k).s (wst a c d s e k).e).length k) dE).sec : Int)])), 3, 1⟩)) ?_
  refine aD 12 [(73, .agg (Z17 a c d s e k)), (72, .i (1 - (((aroundL a c ((wst a c d s e k).s) ((wst a c d s e k).e)).getD (legK d (aroundL a c (wst a c d s e k).s (wst a c d s e k).e).length k) dE).en))), (71, .i (((aroundL a c ((wst a c d s e k).s) ((wst a c d s e k).e)).getD (legK d (aroundL a c (wst a c d s e k).s (wst a c d s e k).e).length k) dE).en)), (70, .rp (((Z1d a c d s e k) : List AV) ++ ((Z19 a c d s e k).drop (((legK d (aroundL a c (wst a c d s e k).s (wst a c d s e k).e).length k) + 1) * 2)))), (69, .rp (((Z15 a c d s e k) : List AV) ++ ((Z19 a c d s e k).drop (((legK d (aroundL a c (wst a c d s e k).s (wst a c d s e k).e).length k) + 1) * 2)))), (68, .i ((legK d (aroundL a c (wst a c d s e k).s (wst a c d s e k).e).length k : Nat) : Int)), (67, .q eEn (aroundL a c ((wst a c d s e k).s) ((wst a c d s e k).e))), (66, .i (((aroundL a c ((wst a c d s e k).s) ((wst a c d s e k).e)).getD (legK d (aroundL a c (wst a c d s e k).s (wst a c d s e k).e).length k) dE).sec)), (65, .rp (((Z15 a c d s e k) : List AV) ++ ((Z19 a c d s e k).drop (((legK d (aroundL a c (wst a c d s e k).s (wst a c d s e k).e).length k) + 1) * 2)))), (64, .rp (((Z15 a c d s e k) : List AV) ++ ((Z19 a c d s e k).drop (((legK d (aroundL a c (wst a c d s e k).s (wst a c d s e k).e).length k) + 1) * 2)))), (63, .i ((legK d (aroundL a c (wst a c d s e k).s (wst a c d s e k).e).length k : Nat) : Int)), (62, .q eEn (aroundL a c ((wst a c d s e k).s) ((wst a c d s e k).e)))] mixed ?_ ?_
  ·refine ⟨?_, ?_, ?_, ?_, ?_, ?_, ?_, ?_, ?_, ?_, ?_, ?_, trivial⟩
   ·exact sMv
   ·exact sMv
   ·exact (sIx dE ut115 sz114)
   ·exact sF (Z12 a c d s e k) (Z12 a c d s e k) ft114_0 sz3
   ·exact (sLd ag3)
   ·exact sMv
   ·exact sMv
   ·exact (sIx dE ut115 sz114)
   ·exact sF (Z12 a c d s e k) (.rp (((Z1d a c d s e k) : List AV) ++ ((Z19 a c d s e k).drop (((legK d (aroundL a c (wst a c d s e k).s (wst a c d s e k).e).length k) + 1) * 2)))) ft114_1 sz3
   ·exact (sLd ag3)
   ·exact sB (.int .i64 (1 - (((aroundL a c ((wst a c d s e k).s) ((wst a c d s e k).e)).getD (legK d (aroundL a c (wst a c d s e k).s (wst a c d s e k).e).length k) dE).en))) (subI om)
   exact dW 73 fun st hob hE => aop_build rfl rfl rfl pl114 (by simp only [partsA, List.map, evA, hE 66 rfl, hE 72 rfl]; rfl) (by rw [hob]; rfl)
  refine oG (qS sz114 ?_)
  refine op0 ?_
  refine regR ?_
  refine mG (.i (k : Int)) ?_
  refine oG (qB (.int .i64 ((k + 1 : Nat) : Int)) (addN om) ?_)
  refine mG (.i ((k + 1 : Nat) : Int)) ?_
  refine op0 ?_
  show _ ∧ _
  refine ⟨by omega, (walkR_go (wstop_go om hx0 hns) om hinv), ?_⟩
  exact iL [(54, 1), (2, 2), (3, 3)] [((54, 1), .live _), ((2, 2), .live _), ((3, 3), .live _)] ⟨row_no rfl (by exact congrArg (fun l_ => LObj.mk (enc eI l_) 3 1) rfl), row_no (o := ⟨(Z17 a c d s e k), 114, 1⟩) rfl rfl, row_no rfl rfl, trivial⟩
 have hf6 := of_decide_eq_false hc0
 refine awp_exit ?_
 refine seqR ?_
 refine mG (.sl 1 0 ((wst a c d s e k).out.length)) ?_
 refine mG (.sl 1 0 ((wst a c d s e k).out.length)) ?_
 refine op0 ?_
 refine awp_imp _ (imp_frozen rfl (fun _ h => h) (lee_lend 10 (.ro ((wst a c d s e k).out.length) (Z1c a c d s e k)) (lend_s (id := 1) (n := (wst a c d s e k).out.length) (o := ⟨(Z1c a c d s e k), 3, 1⟩) rfl (enc_len (fun _ => rfl) (by first | rfl | (simp; done)))) lee_lend0)) ?_
 refine awp_ret ?_
 exact fret (av := .ro ((wst a c d s e k).out.length) (Z1c a c d s e k)) rfl rfl (by rw [← hinv, walkR_stop (wstop_len om)])
theorem ag22 : aggT Try.prog 22 = some false := by kernel_rfl
theorem ag34 : aggT Try.prog 34 = some false := by kernel_rfl
theorem ag36 : aggT Try.prog 36 = some false := by kernel_rfl
theorem ag48 : aggT Try.prog 48 = some false := by kernel_rfl
theorem ft25_0 : fieldT Try.prog 25 0 = some (5, 0) := by kernel_rfl
theorem ft25_1 : fieldT Try.prog 25 1 = some (5, 1) := by kernel_rfl
theorem ft25_2 : fieldT Try.prog 25 2 = some (5, 2) := by kernel_rfl
theorem ft25_3 : fieldT Try.prog 25 3 = some (22, 3) := by kernel_rfl
theorem ft25_4 : fieldT Try.prog 25 4 = some (22, 4) := by kernel_rfl
theorem ft25_5 : fieldT Try.prog 25 5 = some (5, 5) := by kernel_rfl
theorem ft25_6 : fieldT Try.prog 25 6 = some (5, 6) := by kernel_rfl
theorem ft25_7 : fieldT Try.prog 25 7 = some (5, 7) := by kernel_rfl
theorem ft39_0 : fieldT Try.prog 39 0 = some (34, 0) := by kernel_rfl
theorem ft39_2 : fieldT Try.prog 39 2 = some (36, 2) := by kernel_rfl
theorem ft39_5 : fieldT Try.prog 39 5 = some (3, 5) := by kernel_rfl
theorem ft39_6 : fieldT Try.prog 39 6 = some (2, 6) := by kernel_rfl
theorem ft39_7 : fieldT Try.prog 39 7 = some (2, 7) := by kernel_rfl
theorem ft39_8 : fieldT Try.prog 39 8 = some (2, 8) := by kernel_rfl
theorem ft39_9 : fieldT Try.prog 39 9 = some (2, 9) := by kernel_rfl
theorem in102 : (Try.prog.info? 102).map (fun i => (i.zero, i.size, i.bytes)) = some (some (.agg #[(.int .i64 0), (.int .i64 0), (.int .i64 0)]), 3, 24) := by kernel_rfl
theorem in48 : (Try.prog.info? 48).map (fun i => (i.zero, i.size, i.bytes)) = some (some (.slice none 0 0), 1, 24) := by kernel_rfl
theorem in95 : (Try.prog.info? 95).map (fun i => (i.zero, i.size, i.bytes)) = some (some (.complex .f64 0 0), 1, 16) := by kernel_rfl
theorem in98 : (Try.prog.info? 98).map (fun i => (i.zero, i.size, i.bytes)) = some (some (.agg #[(.int .i64 0), (.int .i64 0)]), 2, 16) := by kernel_rfl
theorem iz100 : (Try.prog.info? 100).map (fun i => (i.zero, i.size)) = some (some (.agg #[(.int .i64 0), (.int .i64 0), (.int .i64 0), (.int .i64 0)]), 4) := by kernel_rfl
theorem iz102 : (Try.prog.info? 102).map (fun i => (i.zero, i.size)) = some (some (.agg #[(.int .i64 0), (.int .i64 0), (.int .i64 0)]), 3) := by kernel_rfl
theorem iz48 : (Try.prog.info? 48).map (fun i => (i.zero, i.size)) = some (some (.slice none 0 0), 1) := by kernel_rfl
theorem iz95 : (Try.prog.info? 95).map (fun i => (i.zero, i.size)) = some (some (.complex .f64 0 0), 1) := by kernel_rfl
theorem iz98 : (Try.prog.info? 98).map (fun i => (i.zero, i.size)) = some (some (.agg #[(.int .i64 0), (.int .i64 0)]), 2) := by kernel_rfl
theorem pl100 : placesOf Try.prog 100 = some ((.agg #[(.int .i64 0), (.int .i64 0), (.int .i64 0), (.int .i64 0)]), fun i => ([(0, 1), (1, 1), (2, 1), (3, 1)] : List (Nat × Nat)).toArray[i]?) := by kernel_rfl
theorem pl102 : placesOf Try.prog 102 = some ((.agg #[(.int .i64 0), (.int .i64 0), (.int .i64 0)]), fun i => ([(0, 1), (1, 1), (2, 1)] : List (Nat × Nat)).toArray[i]?) := by kernel_rfl
theorem pl98 : placesOf Try.prog 98 = some ((.agg #[(.int .i64 0), (.int .i64 0)]), fun i => some (i * 1, 1)) := by kernel_rfl
theorem sz2 : (Try.prog.info? 2).map (·.size) = some 1 := by kernel_rfl
theorem sz22 : (Try.prog.info? 22).map (·.size) = some 1 := by kernel_rfl
theorem sz34 : (Try.prog.info? 34).map (·.size) = some 1 := by kernel_rfl
theorem sz36 : (Try.prog.info? 36).map (·.size) = some 1 := by kernel_rfl
theorem sz48 : (Try.prog.info? 48).map (·.size) = some 1 := by kernel_rfl
theorem sz98 : (Try.prog.info? 98).map (·.size) = some 2 := by kernel_rfl
theorem ut2 : Try.prog.underlying 2 = some (.int .i64) := by kernel_rfl
theorem ut22 : Try.prog.underlying 22 = some (.int .u16) := by kernel_rfl
theorem ut34 : Try.prog.underlying 34 = some (.slice 95) := by kernel_rfl
theorem ut36 : Try.prog.underlying 36 = some (.slice 48) := by kernel_rfl
theorem ut96 : Try.prog.underlying 96 = some (.float .f64) := by kernel_rfl
theorem ut97 : Try.prog.underlying 97 = some (.slice 98) := by kernel_rfl
theorem ut98 : Try.prog.underlying 98 = some (.array 2 3) := by kernel_rfl
theorem ze39 : (Try.prog.info? 39).bind (·.zero) = some (.agg #[(.slice none 0 0), (.slice none 0 0), (.slice none 0 0), (.slice none 0 0), (.slice none 0 0), (.int .i64 0), (.int .i64 0), (.int .i64 0), (.int .i64 0), (.int .i64 0)]) := by kernel_rfl
theorem cxf0 : ∀ n ∈ units, (cxE .mul ((4611686018427387904, 0) : Nat × Nat) ((fuI (n), 0) : Nat × Nat)).isSome = true := by decide +kernel
theorem cxf1 : ∀ n ∈ units, (cxE .add (cx .mul ((4611686018427387904, 0) : Nat × Nat) ((fuI (n), 0) : Nat × Nat)) ((0, fuI (n)) : Nat × Nat)).isSome = true := by decide +kernel
theorem cxf2 : ∀ n ∈ units, (cxE .sub (cx .mul ((4611686018427387904, 0) : Nat × Nat) ((fuI (n), 0) : Nat × Nat)) ((0, fuI (n)) : Nat × Nat)).isSome = true := by decide +kernel
theorem cxf3 : ∀ n ∈ units, (cxE .mul ((4613937818241073152, 0) : Nat × Nat) ((fuI (n), 0) : Nat × Nat)).isSome = true := by decide +kernel
theorem cxf4 : ∀ n ∈ units, (cxE .quo ((0, fuI (n)) : Nat × Nat) ((4611686018427387904, 0) : Nat × Nat)).isSome = true := by decide +kernel
theorem cxf5 : ∀ n ∈ units, (cxE .add (cx .mul ((4613937818241073152, 0) : Nat × Nat) ((fuI (n), 0) : Nat × Nat)) (cx .quo ((0, fuI (n)) : Nat × Nat) ((4611686018427387904, 0) : Nat × Nat))).isSome = true := by decide +kernel
theorem cxf6 : ∀ n ∈ units, (cxE .sub (cx .mul ((4613937818241073152, 0) : Nat × Nat) ((fuI (n), 0) : Nat × Nat)) (cx .quo ((0, fuI (n)) : Nat × Nat) ((4611686018427387904, 0) : Nat × Nat))).isSome = true := by decide +kernel
theorem cxf7 : ∀ n ∈ units, (cxE .mul ((4616189618054758400, 0) : Nat × Nat) ((fuI (n), 0) : Nat × Nat)).isSome = true := by decide +kernel
theorem cxf8 : ∀ n ∈ units, (cxE .mul ((4617315517961601024, 0) : Nat × Nat) ((fuI (n), 0) : Nat × Nat)).isSome = true := by decide +kernel
theorem cxf9 : ∀ n ∈ units, (cxE .mul ((4618441417868443648, 0) : Nat × Nat) ((fuI (n), 0) : Nat × Nat)).isSome = true := by decide +kernel
theorem cxf10 : ∀ n ∈ units, (cxE .add (cx .mul ((4613937818241073152, 0) : Nat × Nat) ((fuI (n), 0) : Nat × Nat)) ((0, fuI (n)) : Nat × Nat)).isSome = true := by decide +kernel
theorem cxf11 : ∀ n ∈ units, (cxE .sub (cx .mul ((4613937818241073152, 0) : Nat × Nat) ((fuI (n), 0) : Nat × Nat)) ((0, fuI (n)) : Nat × Nat)).isSome = true := by decide +kernel
theorem cxf12 : ∀ n ∈ units, (cxE .add (cx .mul ((4616189618054758400, 0) : Nat × Nat) ((fuI (n), 0) : Nat × Nat)) ((0, fuI (n)) : Nat × Nat)).isSome = true := by decide +kernel
theorem cxf13 : ∀ n ∈ units, (cxE .sub (cx .mul ((4616189618054758400, 0) : Nat × Nat) ((fuI (n), 0) : Nat × Nat)) ((0, fuI (n)) : Nat × Nat)).isSome = true := by decide +kernel
abbrev Z2c : Nat → AV := (upd (upd none_ 1 (.pt 2 0)) 2 (.pt 3 0))
abbrev Z2b : List AV := [.i 2, .i 1, .i 2, .i 3, .i 5, .i 6, .i 4, .i 5]
abbrev Z26 (c : Int) (k2 : Nat) (d : Int) : List AV := [.i ((2 * (10 * (1 + (c % 20)))) + ((k2 : Int) % 3)), .i (((mkEnds d).getD k2 dR).a), .i (((mkEnds d).getD k2 dR).b)]
abbrev Z25 : LObj := ⟨[.one, vN, vN, .ro 0 [], vN, .i 0, .i 0, .i 0, .i 0, .i 0], 39, 1⟩
abbrev Z24 (d c : Int) (k2 : Nat) : LObj := ⟨[.one, .sl 4 0 ((mkSecsK d c k2).length), .sl 62 0 (0 + 1), .q ePnt (mkPts d), vN, .i 0, .i 0, .i 0, .i 0, .i 0], 39, 1⟩
abbrev Z23 (d : Int) (k2 : Nat) : List AV := [.i (((mkEnds d).getD k2 dR).a), .i (((mkEnds d).getD k2 dR).b)]
abbrev Z22 : AV := (.ro 3 [.i 0, .i 1, .i 1, .i 2, .i 3, .i 1])
abbrev Z21 : LObj := ⟨[.one, vN, vN, .ro 1 [.i 2, .i 1, .i 3, .i 2], vN, .i 0, .i 0, .i 0, .i 0, .i 0], 39, 1⟩
abbrev Z20 : LObj := ⟨[.one, vN, vN, .ro 1 [.i 1, .i 0, .i 1, .i 2], vN, .i 0, .i 0, .i 0, .i 0, .i 0], 39, 1⟩
abbrev Z1z (k0 : Nat) : LObj := ⟨[.sl 55 0 (((List.replicate k0 ()) ++ [(() : Unit)]).length), vN, vN, vN, vN, .i 0, .i 0, .i 0, .i 0, .i 0], 39, 1⟩
abbrev Z1x (k1 : Nat) : Pr := (⟨(k1 : Int), ((k1 + 1 : Nat) : Int)⟩ : Pr)
abbrev Z1v : LObj := ⟨[.one, vN, vN, .ro 2 Z2b, vN, .i 0, .i 0, .i 0, .i 0, .i 0], 39, 1⟩
abbrev Z1u : AV := (.ro 6 [.i 0, .i 1, .i 2, .i 1, .i 2, .i 3, .i 2, .i 4, .i 3, .i 5, .i 4, .i 6])
abbrev Z1t (c : Int) (k2 : Nat) (d : Int) : Sec := (⟨(2 * (10 * (1 + (c % 20)))) + ((k2 : Int) % 3), ((mkEnds d).getD k2 dR).a, ((mkEnds d).getD k2 dR).b⟩ : Sec)
abbrev Z1s (k0 : Nat) : LObj := ⟨[.sl 4 0 ((List.replicate k0 ()).length), vN, vN, vN, vN, .i 0, .i 0, .i 0, .i 0, .i 0], 39, 1⟩
abbrev Z1q : AV := (.ro 8 [.i 0, .i 1, .i 1, .i 2, .i 2, .i 3, .i 2, .i 4, .i 5, .i 3, .i 4, .i 5, .i 5, .i 6, .i 6, .i 7])
abbrev Z1o (d c : Int) (k2 : Nat) : LObj := ⟨(enc eSec (mkSecsK d c k2)), 102, 3⟩
abbrev Z1m (c : Int) : Nat → AV := (upd (upd (upd none_ 1 (.pt 51 0)) 2 (.pt 52 0)) 3 (.i (10 * (1 + (c % 20)))))
abbrev Z1j (c : Int) : Nat → AV := (upd (upd Z2c 3 (.i (10 * (1 + (c % 20))))) 6 (.pt 1 0))
abbrev Z1h (c : Int) : List AV := [.v (.complex .f64 (((0, 0) : Nat × Nat)).1 (((0, 0) : Nat × Nat)).2), .v (.complex .f64 (((fuI (10 * (1 + (c % 20))), 0) : Nat × Nat)).1 (((fuI (10 * (1 + (c % 20))), 0) : Nat × Nat)).2), .v (.complex .f64 (cx .add (cx .mul ((4611686018427387904, 0) : Nat × Nat) ((fuI (10 * (1 + (c % 20))), 0) : Nat × Nat)) ((0, fuI (10 * (1 + (c % 20)))) : Nat × Nat)).1 (cx .add (cx .mul ((4611686018427387904, 0) : Nat × Nat) ((fuI (10 * (1 + (c % 20))), 0) : Nat × Nat)) ((0, fuI (10 * (1 + (c % 20)))) : Nat × Nat)).2), .v (.complex .f64 (cx .sub (cx .mul ((4611686018427387904, 0) : Nat × Nat) ((fuI (10 * (1 + (c % 20))), 0) : Nat × Nat)) ((0, fuI (10 * (1 + (c % 20)))) : Nat × Nat)).1 (cx .sub (cx .mul ((4611686018427387904, 0) : Nat × Nat) ((fuI (10 * (1 + (c % 20))), 0) : Nat × Nat)) ((0, fuI (10 * (1 + (c % 20)))) : Nat × Nat)).2)]
abbrev Z1g (c : Int) : List AV := [.v (.complex .f64 (((0, 0) : Nat × Nat)).1 (((0, 0) : Nat × Nat)).2), .v (.complex .f64 (((fuI (10 * (1 + (c % 20))), 0) : Nat × Nat)).1 (((fuI (10 * (1 + (c % 20))), 0) : Nat × Nat)).2), .v (.complex .f64 (cx .mul ((4611686018427387904, 0) : Nat × Nat) ((fuI (10 * (1 + (c % 20))), 0) : Nat × Nat)).1 (cx .mul ((4611686018427387904, 0) : Nat × Nat) ((fuI (10 * (1 + (c % 20))), 0) : Nat × Nat)).2), .v (.complex .f64 (cx .add (cx .mul ((4613937818241073152, 0) : Nat × Nat) ((fuI (10 * (1 + (c % 20))), 0) : Nat × Nat)) ((0, fuI (10 * (1 + (c % 20)))) : Nat × Nat)).1 (cx .add (cx .mul ((4613937818241073152, 0) : Nat × Nat) ((fuI (10 * (1 + (c % 20))), 0) : Nat × Nat)) ((0, fuI (10 * (1 + (c % 20)))) : Nat × Nat)).2), .v (.complex .f64 (cx .sub (cx .mul ((4613937818241073152, 0) : Nat × Nat) ((fuI (10 * (1 + (c % 20))), 0) : Nat × Nat)) ((0, fuI (10 * (1 + (c % 20)))) : Nat × Nat)).1 (cx .sub (cx .mul ((4613937818241073152, 0) : Nat × Nat) ((fuI (10 * (1 + (c % 20))), 0) : Nat × Nat)) ((0, fuI (10 * (1 + (c % 20)))) : Nat × Nat)).2), .v (.complex .f64 (cx .add (cx .mul ((4616189618054758400, 0) : Nat × Nat) ((fuI (10 * (1 + (c % 20))), 0) : Nat × Nat)) ((0, fuI (10 * (1 + (c % 20)))) : Nat × Nat)).1 (cx .add (cx .mul ((4616189618054758400, 0) : Nat × Nat) ((fuI (10 * (1 + (c % 20))), 0) : Nat × Nat)) ((0, fuI (10 * (1 + (c % 20)))) : Nat × Nat)).2), .v (.complex .f64 (cx .sub (cx .mul ((4616189618054758400, 0) : Nat × Nat) ((fuI (10 * (1 + (c % 20))), 0) : Nat × Nat)) ((0, fuI (10 * (1 + (c % 20)))) : Nat × Nat)).1 (cx .sub (cx .mul ((4616189618054758400, 0) : Nat × Nat) ((fuI (10 * (1 + (c % 20))), 0) : Nat × Nat)) ((0, fuI (10 * (1 + (c % 20)))) : Nat × Nat)).2)]
abbrev Z1f (c : Int) : List AV := [.v (.complex .f64 (((0, 0) : Nat × Nat)).1 (((0, 0) : Nat × Nat)).2), .v (.complex .f64 (((fuI (10 * (1 + (c % 20))), 0) : Nat × Nat)).1 (((fuI (10 * (1 + (c % 20))), 0) : Nat × Nat)).2), .v (.complex .f64 (cx .mul ((4611686018427387904, 0) : Nat × Nat) ((fuI (10 * (1 + (c % 20))), 0) : Nat × Nat)).1 (cx .mul ((4611686018427387904, 0) : Nat × Nat) ((fuI (10 * (1 + (c % 20))), 0) : Nat × Nat)).2), .v (.complex .f64 (cx .add (cx .mul ((4613937818241073152, 0) : Nat × Nat) ((fuI (10 * (1 + (c % 20))), 0) : Nat × Nat)) (cx .quo ((0, fuI (10 * (1 + (c % 20)))) : Nat × Nat) ((4611686018427387904, 0) : Nat × Nat))).1 (cx .add (cx .mul ((4613937818241073152, 0) : Nat × Nat) ((fuI (10 * (1 + (c % 20))), 0) : Nat × Nat)) (cx .quo ((0, fuI (10 * (1 + (c % 20)))) : Nat × Nat) ((4611686018427387904, 0) : Nat × Nat))).2), .v (.complex .f64 (cx .sub (cx .mul ((4613937818241073152, 0) : Nat × Nat) ((fuI (10 * (1 + (c % 20))), 0) : Nat × Nat)) (cx .quo ((0, fuI (10 * (1 + (c % 20)))) : Nat × Nat) ((4611686018427387904, 0) : Nat × Nat))).1 (cx .sub (cx .mul ((4613937818241073152, 0) : Nat × Nat) ((fuI (10 * (1 + (c % 20))), 0) : Nat × Nat)) (cx .quo ((0, fuI (10 * (1 + (c % 20)))) : Nat × Nat) ((4611686018427387904, 0) : Nat × Nat))).2), .v (.complex .f64 (cx .mul ((4616189618054758400, 0) : Nat × Nat) ((fuI (10 * (1 + (c % 20))), 0) : Nat × Nat)).1 (cx .mul ((4616189618054758400, 0) : Nat × Nat) ((fuI (10 * (1 + (c % 20))), 0) : Nat × Nat)).2), .v (.complex .f64 (cx .mul ((4617315517961601024, 0) : Nat × Nat) ((fuI (10 * (1 + (c % 20))), 0) : Nat × Nat)).1 (cx .mul ((4617315517961601024, 0) : Nat × Nat) ((fuI (10 * (1 + (c % 20))), 0) : Nat × Nat)).2), .v (.complex .f64 (cx .mul ((4618441417868443648, 0) : Nat × Nat) ((fuI (10 * (1 + (c % 20))), 0) : Nat × Nat)).1 (cx .mul ((4618441417868443648, 0) : Nat × Nat) ((fuI (10 * (1 + (c % 20))), 0) : Nat × Nat)).2)]
abbrev Z1e (d c y g r t w jn : Int) : List AV := [.v (.int .u8 d), .v (.int .u8 c), .v (.int .u8 y), .v (.int .u16 g), .v (.int .u16 r), .v (.int .u8 t), .v (.int .u8 w), .v (.int .u8 jn), .one]
abbrev Z2a (c : Int) : LObj := ⟨[.ro 7 (Z1g c), vN, vN, vN, vN, .i 0, .i 0, .i 0, .i 0, .i 0], 39, 1⟩
abbrev Z29 (c : Int) : LObj := ⟨[.ro 8 (Z1f c), vN, vN, vN, vN, .i 0, .i 0, .i 0, .i 0, .i 0], 39, 1⟩
abbrev Z28 (c : Int) : LObj := ⟨[.ro 4 (Z1h c), vN, vN, vN, vN, .i 0, .i 0, .i 0, .i 0, .i 0], 39, 1⟩
abbrev Z27 (c d : Int) : Nat → AV := (upd (upd (Z1j c) 7 vN) 8 (.i ((rowN d : Nat) : Int)))
abbrev Z1y (c : Int) : Nat → AV := (upd (Z1m c) 6 (.pt 53 0))
abbrev Z1w (c : Int) : Nat → AV := (upd (Z1m c) 4 (.v (.complex .f64 (((fuI (10 * (1 + (c % 20))), 0) : Nat × Nat)).1 (((fuI (10 * (1 + (c % 20))), 0) : Nat × Nat)).2)))
abbrev Z1r (c d : Int) : Nat → AV := (upd (Z1j c) 7 (.q ePr (mkEnds d)))
abbrev Z1p (d c y g r t w jn : Int) : Nat → OSt := (updO (updO noOb 51 (.live ⟨(Z1e d c y g r t w jn), 25, 1⟩)) 52 (.live ⟨[vN, vN, vN, vN, vN, .i 0, .i 0, .i 0, .i 0, .i 0], 39, 1⟩))
abbrev Z1n (c : Int) : Nat → AV := (upd (Z1w c) 5 (.v (.complex .f64 (((0, fuI (10 * (1 + (c % 20)))) : Nat × Nat)).1 (((0, fuI (10 * (1 + (c % 20)))) : Nat × Nat)).2)))
abbrev Z1l (d c : Int) (k2 : Nat) (y g r t w jn : Int) : Nat → OSt := (updO (updO (updO (updO noOb 1 (.live ⟨[.one, .sl 4 0 ((mkSecsK d c k2).length), vN, .q ePnt (mkPts d), vN, .i 0, .i 0, .i 0, .i 0, .i 0], 39, 1⟩)) 2 (.live ⟨(Z1e d c y g r t w jn), 25, 1⟩)) 3 (.live ⟨[vN, vN, vN, vN, vN, .i 0, .i 0, .i 0, .i 0, .i 0], 39, 1⟩)) 4 (.live (Z1o d c k2)))
abbrev Z1k (k0 : Nat) (d c y g r t w jn : Int) : Nat → OSt := (updO (updO (updO (updO noOb 1 (.live (Z1s k0))) 2 (.live ⟨(Z1e d c y g r t w jn), 25, 1⟩)) 3 (.live ⟨[vN, vN, vN, vN, vN, .i 0, .i 0, .i 0, .i 0, .i 0], 39, 1⟩)) 4 (.live ⟨(enc eC (List.replicate k0 ())), 95, 1⟩))
abbrev Z1i (d c y g r t w jn : Int) : Nat → OSt := (updO (Z1p d c y g r t w jn) 53 (.live ⟨[vN, vN, vN, vN, vN, .i 0, .i 0, .i 0, .i 0, .i 0], 39, 1⟩))
theorem r04_Make (d c y g r t w jn : Int) (hf : 0 ≤ d ∧ d ≤ 255) (hl : 0 ≤ c ∧ c ≤ 255) (hs : 0 ≤ y ∧ y ≤ 255) (hm : 0 ≤ g ∧ g ≤ 65535) (hw : 0 ≤ r ∧ r ≤ 65535) (hc : 0 ≤ t ∧ t ≤ 255) (hy : 0 ≤ w ∧ w ≤ 255) (hj : 0 ≤ jn ∧ jn ≤ 255) : Fn Try.prog 25 [.agg [.v (.int .u8 d), .v (.int .u8 c), .v (.int .u8 y), .v (.int .u16 g), .v (.int .u16 r), .v (.int .u8 t), .v (.int .u8 w), .v (.int .u8 jn), .one]] (.agg [.one, .ro ((mkSecs d c).length) (enc eSec (mkSecs d c)), .ro ((mkParts d jn).length) (enc eIL (mkParts d jn)), .ro ((mkPts d).length) (enc ePnt (mkPts d)), vN, .v (.int .i64 (1 + y % (2 * (10 * (1 + c % 20))))), .v (.int .i64 (1 + g % 1000)), .v (.int .i64 (1 + r % 1000)), .v (.int .i64 (1 + t)), .v (.int .i64 (w % 4))]) := by
 have hunit := unit_in c
 have hel := mkEnds_len d
 refine fnC_of_body (N := 250) Try.func25 rfl rfl (by simp) (fun w0 X hL_ => ?_)
 refine seqR ?_
 refine oG (qW 51 ?_)
 refine oG (aop_alloc 52 rfl rfl rfl rfl ze39 rfl ?_)
 refine op0 ?_
 refine seqR ?_
 refine fG (.pt 51 1) ft25_1 sz5 ?_
 refine oG (qL (.v (.int .u8 c)) ag5 ?_)
 refine oG (aop_binI (u := (.int .u8 (c % 20))) rfl rfl rfl rfl rfl (by show _ ≠ _; decide) (remI om) ?_)
 refine oG (aop_conv' rfl rfl rfl ut5 ut3 rfl (IntWalk.i64_in _ om) ?_)
 refine oG (qB (.int .i64 (1 + (c % 20))) (addI om) ?_)
 refine oG (qB (.int .i64 (10 * (1 + (c % 20)))) (mulI om) ?_)
 refine mG (.i (10 * (1 + (c % 20)))) ?_
 refine rU (Z1m c) (Z1p d c y g r t w jn) ?_
 refine seqR ?_
 refine mG (.i (10 * (1 + (c % 20)))) ?_
 refine oG (aop_toFloat rfl rfl rfl ut3 ut96 rfl ?_)
 refine oG (aop_complex rfl rfl rfl rfl rfl rfl ?_)
 refine mG (.v (.complex .f64 (((fuI (10 * (1 + (c % 20))), 0) : Nat × Nat)).1 (((fuI (10 * (1 + (c % 20))), 0) : Nat × Nat)).2)) ?_
 refine rU (Z1w c) (Z1p d c y g r t w jn) ?_
 refine seqR ?_
 refine mG (.i (10 * (1 + (c % 20)))) ?_
 refine oG (aop_toFloat rfl rfl rfl ut3 ut96 rfl ?_)
 refine oG (aop_complex rfl rfl rfl rfl rfl rfl ?_)
 refine mG (.v (.complex .f64 (((0, fuI (10 * (1 + (c % 20)))) : Nat × Nat)).1 (((0, fuI (10 * (1 + (c % 20)))) : Nat × Nat)).2)) ?_
 refine rU (Z1n c) (Z1p d c y g r t w jn) ?_
 refine seqR ?_
 refine oG (aop_alloc 53 rfl rfl rfl rfl ze39 rfl ?_)
 refine op0 ?_
 refine seqR ?_
 refine mG vN ?_
 refine op0 ?_
 refine awp_seq ?_
 refine seqR ?_
 refine fG (.pt 51 0) ft25_0 sz5 ?_
 refine oG (qL (.v (.int .u8 d)) ag5 ?_)
 refine oG (aop_binI (u := (.int .u8 (d % 4))) rfl rfl rfl rfl rfl (by show _ ≠ _; decide) (remI om) ?_)
 refine rU (upd (upd (upd (Z1n c) 6 (.pt 53 0)) 7 vN) 27 (.v (.int .u8 (d % 4)))) (Z1i d c y g r t w jn) ?_
 refine awp_block ?_
 refine seqR ?_
 refine bG ((.bool ((d % 4) == 0))) ?_
 refine mG (.b ((d % 4) == 0)) ?_
 refine op0 ?_
 refine cutG ⟨(Z1r c d), (updO (updO (updO noOb 1 (.live ⟨[.one, vN, vN, .q ePnt (mkPts d), vN, .i 0, .i 0, .i 0, .i 0, .i 0], 39, 1⟩)) 2 (.live ⟨(Z1e d c y g r t w jn), 25, 1⟩)) 3 (.live ⟨[vN, vN, vN, vN, vN, .i 0, .i 0, .i 0, .i 0, .i 0], 39, 1⟩))⟩ (fun s h => h) ?_ ?_
 ·skip
  refine awp_cond ((d % 4) == 0) rfl rfl (fun hc0 => ?_) (fun hc0 => ?_)
  ·skip
   have hf1 := (beq_iff_eq).1 hc0
   have h4 : d % 4 = 0 := by simpa using hc0
   have hE := (ends0 h4).1
   have hP := (ends0 h4).2
   have hri := rowN_int hf
   refine seqR ?_
   refine fG (.pt 51 0) ft25_0 sz5 ?_
   refine oG (qL (.v (.int .u8 d)) ag5 ?_)
   refine oG (aop_binI (u := (.int .u8 (d / 4))) rfl rfl rfl rfl rfl (by show _ ≠ _; decide) (quoU8 om) ?_)
   refine oG (aop_binI (u := (.int .u8 ((d / 4) % 6))) rfl rfl rfl rfl rfl (by show _ ≠ _; decide) (remI om) ?_)
   refine oG (aop_conv' rfl rfl rfl ut5 ut3 rfl (IntWalk.i64_in _ om) ?_)
   refine oG (qB (.int .i64 ((rowN d : Nat) : Int)) (by rw [rowN_int hf]; exact addI om) ?_)
   refine mG (.i ((rowN d : Nat) : Int)) ?_
   refine rU (upd (upd (Z1y c) 7 vN) 8 (.i ((rowN d : Nat) : Int))) (Z1i d c y g r t w jn) ?_
   refine awp_seq ?_
   refine seqR ?_
   refine mG (.i 0) ?_
   refine op0 ?_
   refine awp_block ?_
   refine awp_countI (fun k0 => ⟨(upd (Z27 c d) 9 (.i (k0 : Int))), (Z1k k0 d c y g r t w jn)⟩) (fun k0 => True) (rowN d + 1) ?_ trivial (fun k0 hk_k0 hinv => ?_)
   ·skip
    refine (imp_adoptC 53 0 54 95 1 rfl rfl rfl rfl).trans ?_
    exact iL [(53, 1), (51, 2), (52, 3), (54, 4)] [((53, 1), .live _), ((51, 2), .live _), ((52, 3), .live _), ((54, 4), .live _)] ⟨row_map (o := ⟨[.sl 54 0 0, vN, vN, vN, vN, .i 0, .i 0, .i 0, .i 0, .i 0], 39, 1⟩) rfl (om_ (lm_cons rfl (lm_cons (am_no (a := vN)) (lm_cons (am_no (a := vN)) (lm_cons (am_no (a := vN)) (lm_cons (am_no (a := vN)) (lm_cons (am_no (a := .i 0)) (lm_cons (am_no (a := .i 0)) (lm_cons (am_no (a := .i 0)) (lm_cons (am_no (a := .i 0)) (lm_cons (am_no (a := .i 0)) lm_nil))))))))))) (oks_cons (.sl _ _ _ (by simp)) (oks_cons (ok_no (a := vN)) (oks_cons (ok_no (a := vN)) (oks_cons (ok_no (a := vN)) (oks_cons (ok_no (a := vN)) (oks_cons (ok_no (a := .i 0)) (oks_cons (ok_no (a := .i 0)) (oks_cons (ok_no (a := .i 0)) (oks_cons (ok_no (a := .i 0)) (oks_cons (ok_no (a := .i 0)) oks_nil)))))))))), row_no rfl rfl, row_no rfl rfl, row_no (o := ⟨[], 95, 1⟩) rfl rfl, trivial⟩
   have hrl : (List.replicate k0 ()).length = k0 := by simp
   refine awp_seq ?_
   refine seqR ?_
   refine mG (.i (k0 : Int)) ?_
   refine mG (.i ((rowN d : Nat) : Int)) ?_
   refine bG ((.bool (decide ((k0 : Int) ≤ ((rowN d : Nat) : Int))))) ?_
   refine op0 ?_
   refine awp_cond (decide ((k0 : Int) ≤ ((rowN d : Nat) : Int))) rfl rfl (fun hc1 => ?_) (fun hc1 => ?_)
   ·skip
    have hf2 := of_decide_eq_true hc1
    refine awp_skip ?_
    refine awp_seq ?_
    refine awp_block ?_
    refine regR ?_
    refine fG (.pt 1 0) ft39_0 sz34 ?_
    refine oG (qL (.sl 4 0 ((List.replicate k0 ()).length)) ag34 ?_)
    refine mG (.i (10 * (1 + (c % 20)))) ?_
    refine mG (.i (k0 : Int)) ?_
    refine oG (qB (.int .i64 (10 * (1 + c % 20) * (k0 : Int))) (mulI (mulB om om)) ?_)
    refine oG (aop_toFloat rfl rfl rfl ut3 ut96 rfl ?_)
    refine oG (aop_complexOne rfl rfl rfl rfl rfl rfl ?_)
    refine oG (aop_lit rfl rfl rfl ut34 iz95 (by decide) (by decide) rfl rfl ?_)
    refine oG (aop_app1 (f := eC) (l := List.replicate k0 ()) 55 (() : Unit) rfl rfl rfl rfl ut34 in95 rfl (by decide) rfl rfl rfl rfl rfl rfl (fun _ => rfl) rfl rfl oo oo rfl ?_)
    refine fG (.pt 1 0) ft39_0 sz34 ?_
    refine oG (qS sz34 ?_)
    refine op0 ?_
    refine rT (upd (Z27 c d) 9 (.i (k0 : Int))) (updO (updO (updO (Z1k k0 d c y g r t w jn) 4 .dead) 55 (.live ⟨(enc eC ((List.replicate k0 ()) ++ [(() : Unit)])), 95, 1⟩)) 1 (.live (Z1z k0))) ?_
    refine regR ?_
    refine mG (.i (k0 : Int)) ?_
    refine oG (qB (.int .i64 ((k0 + 1 : Nat) : Int)) (addN om) ?_)
    refine mG (.i ((k0 + 1 : Nat) : Int)) ?_
    refine op0 ?_
    show _ ∧ _
    have hs_ : List.replicate (k0 + 1) () = List.replicate k0 () ++ [()] := List.replicate_succ'
    refine ⟨by omega, trivial, ?_⟩
    exact iL [(1, 1), (2, 2), (3, 3), (55, 4)] [((1, 1), .live _), ((2, 2), .live _), ((3, 3), .live _), ((55, 4), .live _)] ⟨row_map (o := (Z1z k0)) rfl (by (try simp only [Z2b, Z2a, Z29, Z28, Z26, Z25, Z24, Z23, Z21, Z20, Z1z, Z1v, Z1s, Z1o, Z1h, Z1g, Z1f, Z1e]); rw [hs_]; exact (om_ (lm_cons rfl (lm_cons (am_no (a := vN)) (lm_cons (am_no (a := vN)) (lm_cons (am_no (a := vN)) (lm_cons (am_no (a := vN)) (lm_cons (am_no (a := .i 0)) (lm_cons (am_no (a := .i 0)) (lm_cons (am_no (a := .i 0)) (lm_cons (am_no (a := .i 0)) (lm_cons (am_no (a := .i 0)) lm_nil)))))))))))) (oks_cons (.sl _ _ _ (by simp)) (oks_cons (ok_no (a := vN)) (oks_cons (ok_no (a := vN)) (oks_cons (ok_no (a := vN)) (oks_cons (ok_no (a := vN)) (oks_cons (ok_no (a := .i 0)) (oks_cons (ok_no (a := .i 0)) (oks_cons (ok_no (a := .i 0)) (oks_cons (ok_no (a := .i 0)) (oks_cons (ok_no (a := .i 0)) oks_nil)))))))))), row_no rfl rfl, row_no rfl rfl, row_no rfl (by exact congrArg (fun l_ => LObj.mk (enc eC l_) 95 1) hs_), trivial⟩
   have hf3 := of_decide_eq_false hc1
   refine awp_exit ?_
   refine seqR ?_
   refine mG (.i 0) ?_
   refine rU (upd (Z27 c d) 10 (.i 0)) (Z1k k0 d c y g r t w jn) ?_
   refine awp_block ?_
   refine awp_countI (fun k1 => ⟨(upd (upd (upd (Z1j c) 7 (.sl 5 0 ((rowE k1).length))) 8 (.i ((rowN d : Nat) : Int))) 10 (.i (k1 : Int))), (updO (Z1k k0 d c y g r t w jn) 5 (.live ⟨(enc ePr (rowE k1)), 98, 2⟩))⟩) (fun k1 => True) (rowN d) ?_ trivial (fun k1 hk_k1 hinv => ?_)
   ·skip
    refine (imp_adopt 7 56 98 2 rfl rfl).trans ?_
    exact iL [(1, 1), (2, 2), (3, 3), (4, 4), (56, 5)] [((1, 1), .live _), ((2, 2), .live _), ((3, 3), .live _), ((4, 4), .live _), ((56, 5), .live _)] ⟨row_map (o := (Z1s k0)) rfl (om_ (lm_cons rfl (lm_cons (am_no (a := vN)) (lm_cons (am_no (a := vN)) (lm_cons (am_no (a := vN)) (lm_cons (am_no (a := vN)) (lm_cons (am_no (a := .i 0)) (lm_cons (am_no (a := .i 0)) (lm_cons (am_no (a := .i 0)) (lm_cons (am_no (a := .i 0)) (lm_cons (am_no (a := .i 0)) lm_nil))))))))))) (oks_cons (.sl _ _ _ (by simp)) (oks_cons (ok_no (a := vN)) (oks_cons (ok_no (a := vN)) (oks_cons (ok_no (a := vN)) (oks_cons (ok_no (a := vN)) (oks_cons (ok_no (a := .i 0)) (oks_cons (ok_no (a := .i 0)) (oks_cons (ok_no (a := .i 0)) (oks_cons (ok_no (a := .i 0)) (oks_cons (ok_no (a := .i 0)) oks_nil)))))))))), row_no rfl rfl, row_no rfl rfl, row_no rfl rfl, row_no (o := ⟨[], 98, 2⟩) rfl rfl, trivial⟩
   have hrw := rowE_len k1
   refine awp_seq ?_
   refine seqR ?_
   refine mG (.i (k1 : Int)) ?_
   refine mG (.i ((rowN d : Nat) : Int)) ?_
   refine bG ((.bool (decide ((k1 : Int) < ((rowN d : Nat) : Int))))) ?_
   refine op0 ?_
   refine awp_cond (decide ((k1 : Int) < ((rowN d : Nat) : Int))) rfl rfl (fun hc2 => ?_) (fun hc2 => ?_)
   ·skip
    have hf4 := of_decide_eq_true hc2
    refine awp_skip ?_
    refine awp_seq ?_
    refine awp_block ?_
    refine regR ?_
    refine mG (.sl 5 0 ((rowE k1).length)) ?_
    refine mG (.i (k1 : Int)) ?_
    refine mG (.i (k1 : Int)) ?_
    refine oG (qB (.int .i64 ((k1 + 1 : Nat) : Int)) (addN om) ?_)
    refine oG (qD pl98 ?_)
    refine oG (aop_lit rfl rfl rfl ut97 iz98 (by decide) (by decide) rfl rfl ?_)
    refine oG (aop_app1 (f := ePr) (l := rowE k1) 57 (Z1x k1) rfl rfl rfl rfl ut97 in98 rfl (by decide) rfl rfl rfl rfl rfl rfl (fun _ => rfl) rfl rfl oo oo rfl ?_)
    refine mG (.sl 57 0 (((rowE k1) ++ [(Z1x k1)]).length)) ?_
    refine op0 ?_
    refine rT (upd (upd (upd (Z1j c) 7 (.sl 57 0 (((rowE k1) ++ [(Z1x k1)]).length))) 8 (.i ((rowN d : Nat) : Int))) 10 (.i (k1 : Int))) (updO (updO (updO (Z1k k0 d c y g r t w jn) 5 (.live ⟨(enc ePr (rowE k1)), 98, 2⟩)) 5 .dead) 57 (.live ⟨(enc ePr ((rowE k1) ++ [(Z1x k1)])), 98, 2⟩)) ?_
    refine regR ?_
    refine mG (.i (k1 : Int)) ?_
    refine oG (qB (.int .i64 ((k1 + 1 : Nat) : Int)) (addN om) ?_)
    refine mG (.i ((k1 + 1 : Nat) : Int)) ?_
    refine op0 ?_
    show _ ∧ _
    refine ⟨by omega, trivial, ?_⟩
    exact iL [(1, 1), (2, 2), (3, 3), (4, 4), (57, 5)] [((1, 1), .live _), ((2, 2), .live _), ((3, 3), .live _), ((4, 4), .live _), ((57, 5), .live _)] ⟨row_map (o := (Z1s k0)) rfl (om_ (lm_cons rfl (lm_cons (am_no (a := vN)) (lm_cons (am_no (a := vN)) (lm_cons (am_no (a := vN)) (lm_cons (am_no (a := vN)) (lm_cons (am_no (a := .i 0)) (lm_cons (am_no (a := .i 0)) (lm_cons (am_no (a := .i 0)) (lm_cons (am_no (a := .i 0)) (lm_cons (am_no (a := .i 0)) lm_nil))))))))))) (oks_cons (.sl _ _ _ (by simp)) (oks_cons (ok_no (a := vN)) (oks_cons (ok_no (a := vN)) (oks_cons (ok_no (a := vN)) (oks_cons (ok_no (a := vN)) (oks_cons (ok_no (a := .i 0)) (oks_cons (ok_no (a := .i 0)) (oks_cons (ok_no (a := .i 0)) (oks_cons (ok_no (a := .i 0)) (oks_cons (ok_no (a := .i 0)) oks_nil)))))))))), row_no rfl rfl, row_no rfl rfl, row_no rfl rfl, row_no rfl (by exact congrArg (fun l_ => LObj.mk (enc ePr l_) 98 2) rfl), trivial⟩
   have hf5 := of_decide_eq_false hc2
   have hkk : k1 = rowN d := by omega
   refine awp_exit ?_
   show Imp _ _ _
   refine (frz_ [2, 3, 1] [(2, ⟨(Z1e d c y g r t w jn), 25, 1⟩), (3, ⟨[vN, vN, vN, vN, vN, .i 0, .i 0, .i 0, .i 0, .i 0], 39, 1⟩), (1, Z25)] rfl (fun _ h => h) ⟨keep_cells (cs := (Z1e d c y g r t w jn)) (by simp) rfl rfl fzA, keep_cells (cs := [vN, vN, vN, vN, vN, .i 0, .i 0, .i 0, .i 0, .i 0]) (by simp) rfl rfl fzA, keep_cells (cs := [.sl 4 0 ((List.replicate k0 ()).length), vN, vN, vN, vN, .i 0, .i 0, .i 0, .i 0, .i 0]) (by simp) rfl rfl (frzs_cons (.inr (.one _ rfl)) (frzs_cons (.inl rfl) (frzs_cons (.inl rfl) (frzs_cons (.inr .nil) fzA)))), trivial⟩ (fz_lend 7 (.q ePr (rowE k1)) (lend_s (id := 5) (n := (rowE k1).length) (o := ⟨(enc ePr (rowE k1)), 98, 2⟩) rfl (enc_len (fun _ => rfl) (by first | rfl | (simp; done)))) (fz_same 6 (.pt 1 0) rfl (fz_same 3 (.i (10 * (1 + (c % 20)))) rfl (fz_same 2 (.pt 3 0) rfl (fz_same 1 (.pt 2 0) rfl fz_none)))))).trans ?_
   exact iL [(1, 1), (2, 2), (3, 3)] [((1, 1), .live _), ((2, 2), .live _), ((3, 3), .live _)] ⟨row_no (o := Z25) rfl (by rw [hP]; rfl), row_no (o := ⟨(Z1e d c y g r t w jn), 25, 1⟩) rfl rfl, row_no (o := ⟨[vN, vN, vN, vN, vN, .i 0, .i 0, .i 0, .i 0, .i 0], 39, 1⟩) rfl rfl, trivial⟩ (he := (sS (by first | (rw [hE]; rfl) | (rw [hE, ← hkk]; rfl)) (sM rfl (sS rfl (sM rfl (sM rfl sr_none))))))
  have hf6 := (beq_eq_false_iff_ne).1 hc0
  have h40 : ¬ d % 4 = 0 := by simpa using hc0
  refine seqR ?_
  refine bG ((.bool ((d % 4) == 1))) ?_
  refine mG (.b ((d % 4) == 1)) ?_
  refine rU (upd (upd (upd (upd (Z1n c) 6 (.pt 53 0)) 7 vN) 27 (.v (.int .u8 (d % 4)))) 94 (.b ((d % 4) == 1))) (Z1i d c y g r t w jn) ?_
  refine awp_cond ((d % 4) == 1) rfl rfl (fun hc3 => ?_) (fun hc3 => ?_)
  ·skip
   have hf7 := (beq_iff_eq).1 hc3
   have h4 : d % 4 = 1 := by simpa using hc3
   have hE := (ends1 h4).1
   have hP := (ends1 h4).2
   refine seqR ?_
   refine mG (.v (.complex .f64 (((fuI (10 * (1 + (c % 20))), 0) : Nat × Nat)).1 (((fuI (10 * (1 + (c % 20))), 0) : Nat × Nat)).2)) ?_
   refine mG (.v (.complex .f64 (((fuI (10 * (1 + (c % 20))), 0) : Nat × Nat)).1 (((fuI (10 * (1 + (c % 20))), 0) : Nat × Nat)).2)) ?_
   refine oG (aop_cx ((4611686018427387904, 0) : Nat × Nat) ((fuI (10 * (1 + (c % 20))), 0) : Nat × Nat) rfl rfl rfl rfl rfl (by simp) (cxf0 _ hunit) ?_)
   refine mG (.v (.complex .f64 (((0, fuI (10 * (1 + (c % 20)))) : Nat × Nat)).1 (((0, fuI (10 * (1 + (c % 20)))) : Nat × Nat)).2)) ?_
   refine oG (aop_cx (cx .mul ((4611686018427387904, 0) : Nat × Nat) ((fuI (10 * (1 + (c % 20))), 0) : Nat × Nat)) ((0, fuI (10 * (1 + (c % 20)))) : Nat × Nat) rfl rfl rfl rfl rfl (by simp) (cxf1 _ hunit) ?_)
   refine mG (.v (.complex .f64 (((fuI (10 * (1 + (c % 20))), 0) : Nat × Nat)).1 (((fuI (10 * (1 + (c % 20))), 0) : Nat × Nat)).2)) ?_
   refine oG (aop_cx ((4611686018427387904, 0) : Nat × Nat) ((fuI (10 * (1 + (c % 20))), 0) : Nat × Nat) rfl rfl rfl rfl rfl (by simp) (cxf0 _ hunit) ?_)
   refine mG (.v (.complex .f64 (((0, fuI (10 * (1 + (c % 20)))) : Nat × Nat)).1 (((0, fuI (10 * (1 + (c % 20)))) : Nat × Nat)).2)) ?_
   refine oG (aop_cx (cx .mul ((4611686018427387904, 0) : Nat × Nat) ((fuI (10 * (1 + (c % 20))), 0) : Nat × Nat)) ((0, fuI (10 * (1 + (c % 20)))) : Nat × Nat) rfl rfl rfl rfl rfl (by simp) (cxf2 _ hunit) ?_)
   refine oG (aop_lit rfl rfl rfl ut34 iz95 (by decide) (by decide) rfl rfl ?_)
   refine fG (.pt 53 0) ft39_0 sz34 ?_
   refine oG (qS sz34 ?_)
   refine rU (upd (Z1y c) 7 vN) (updO (Z1i d c y g r t w jn) 53 (.live (Z28 c))) ?_
   refine seqR ?_
   refine oG (qD pl98 ?_)
   refine oG (qD pl98 ?_)
   refine oG (qD pl98 ?_)
   refine oG (aop_lit rfl rfl rfl ut97 iz98 (by decide) (by decide) rfl rfl ?_)
   refine mG Z22 ?_
   refine rU (upd (Z1y c) 7 Z22) (updO (Z1i d c y g r t w jn) 53 (.live (Z28 c))) ?_
   refine regR ?_
   refine oG (qD pl100 ?_)
   refine oG (aop_lit rfl rfl rfl ut37 iz100 (by decide) (by decide) rfl rfl ?_)
   refine fG (.pt 53 3) ft39_3 sz37 ?_
   refine oG (qS sz37 ?_)
   refine op0 ?_
   show Imp _ _ _
   refine (frz_ [51, 52, 53] [(51, ⟨(Z1e d c y g r t w jn), 25, 1⟩), (52, ⟨[vN, vN, vN, vN, vN, .i 0, .i 0, .i 0, .i 0, .i 0], 39, 1⟩), (53, Z20)] rfl (fun _ h => h) ⟨keep_cells (cs := (Z1e d c y g r t w jn)) (by simp) rfl rfl fzA, keep_cells (cs := [vN, vN, vN, vN, vN, .i 0, .i 0, .i 0, .i 0, .i 0]) (by simp) rfl rfl fzA, keep_cells (cs := [.ro 4 (Z1h c), vN, vN, .ro 1 [.i 1, .i 0, .i 1, .i 2], vN, .i 0, .i 0, .i 0, .i 0, .i 0]) (by simp) rfl rfl (frzs_cons (.inr (.one _ rfl)) fzA), trivial⟩ (fz_same 7 Z22 rfl (fz_same 6 (.pt 53 0) rfl (fz_same 3 (.i (10 * (1 + (c % 20)))) rfl (fz_same 2 (.pt 52 0) rfl (fz_same 1 (.pt 51 0) rfl fz_none)))))).trans ?_
   exact iL [(53, 1), (51, 2), (52, 3)] [((53, 1), .live _), ((51, 2), .live _), ((52, 3), .live _)] ⟨row_no (o := Z20) rfl (by rw [hP]; rfl), row_no (o := ⟨(Z1e d c y g r t w jn), 25, 1⟩) rfl rfl, row_no (o := ⟨[vN, vN, vN, vN, vN, .i 0, .i 0, .i 0, .i 0, .i 0], 39, 1⟩) rfl rfl, trivial⟩ (he := (sS (by first | (rw [hE]; rfl) | (rw [hE, ← hkk]; rfl)) (sM rfl (sS rfl (sM rfl (sM rfl sr_none))))))
  have hf8 := (beq_eq_false_iff_ne).1 hc3
  have h41 : ¬ d % 4 = 1 := by simpa using hc3
  refine seqR ?_
  refine bG ((.bool ((d % 4) == 2))) ?_
  refine mG (.b ((d % 4) == 2)) ?_
  refine op0 ?_
  refine awp_cond ((d % 4) == 2) rfl rfl (fun hc4 => ?_) (fun hc4 => ?_)
  ·skip
   have hf9 := (beq_iff_eq).1 hc4
   have h4 : d % 4 = 2 := by simpa using hc4
   have hE := (ends2 h4).1
   have hP := (ends2 h4).2
   refine seqR ?_
   refine mG (.v (.complex .f64 (((fuI (10 * (1 + (c % 20))), 0) : Nat × Nat)).1 (((fuI (10 * (1 + (c % 20))), 0) : Nat × Nat)).2)) ?_
   refine mG (.v (.complex .f64 (((fuI (10 * (1 + (c % 20))), 0) : Nat × Nat)).1 (((fuI (10 * (1 + (c % 20))), 0) : Nat × Nat)).2)) ?_
   refine oG (aop_cx ((4611686018427387904, 0) : Nat × Nat) ((fuI (10 * (1 + (c % 20))), 0) : Nat × Nat) rfl rfl rfl rfl rfl (by simp) (cxf0 _ hunit) ?_)
   refine mG (.v (.complex .f64 (((fuI (10 * (1 + (c % 20))), 0) : Nat × Nat)).1 (((fuI (10 * (1 + (c % 20))), 0) : Nat × Nat)).2)) ?_
   refine oG (aop_cx ((4613937818241073152, 0) : Nat × Nat) ((fuI (10 * (1 + (c % 20))), 0) : Nat × Nat) rfl rfl rfl rfl rfl (by simp) (cxf3 _ hunit) ?_)
   refine mG (.v (.complex .f64 (((0, fuI (10 * (1 + (c % 20)))) : Nat × Nat)).1 (((0, fuI (10 * (1 + (c % 20)))) : Nat × Nat)).2)) ?_
   refine oG (aop_cx ((0, fuI (10 * (1 + (c % 20)))) : Nat × Nat) ((4611686018427387904, 0) : Nat × Nat) rfl rfl rfl rfl rfl (by simp) (cxf4 _ hunit) ?_)
   refine oG (aop_cx (cx .mul ((4613937818241073152, 0) : Nat × Nat) ((fuI (10 * (1 + (c % 20))), 0) : Nat × Nat)) (cx .quo ((0, fuI (10 * (1 + (c % 20)))) : Nat × Nat) ((4611686018427387904, 0) : Nat × Nat)) rfl rfl rfl rfl rfl (by simp) (cxf5 _ hunit) ?_)
   refine mG (.v (.complex .f64 (((fuI (10 * (1 + (c % 20))), 0) : Nat × Nat)).1 (((fuI (10 * (1 + (c % 20))), 0) : Nat × Nat)).2)) ?_
   refine oG (aop_cx ((4613937818241073152, 0) : Nat × Nat) ((fuI (10 * (1 + (c % 20))), 0) : Nat × Nat) rfl rfl rfl rfl rfl (by simp) (cxf3 _ hunit) ?_)
   refine mG (.v (.complex .f64 (((0, fuI (10 * (1 + (c % 20)))) : Nat × Nat)).1 (((0, fuI (10 * (1 + (c % 20)))) : Nat × Nat)).2)) ?_
   refine oG (aop_cx ((0, fuI (10 * (1 + (c % 20)))) : Nat × Nat) ((4611686018427387904, 0) : Nat × Nat) rfl rfl rfl rfl rfl (by simp) (cxf4 _ hunit) ?_)
   refine oG (aop_cx (cx .mul ((4613937818241073152, 0) : Nat × Nat) ((fuI (10 * (1 + (c % 20))), 0) : Nat × Nat)) (cx .quo ((0, fuI (10 * (1 + (c % 20)))) : Nat × Nat) ((4611686018427387904, 0) : Nat × Nat)) rfl rfl rfl rfl rfl (by simp) (cxf6 _ hunit) ?_)
   refine mG (.v (.complex .f64 (((fuI (10 * (1 + (c % 20))), 0) : Nat × Nat)).1 (((fuI (10 * (1 + (c % 20))), 0) : Nat × Nat)).2)) ?_
   refine oG (aop_cx ((4616189618054758400, 0) : Nat × Nat) ((fuI (10 * (1 + (c % 20))), 0) : Nat × Nat) rfl rfl rfl rfl rfl (by simp) (cxf7 _ hunit) ?_)
   refine mG (.v (.complex .f64 (((fuI (10 * (1 + (c % 20))), 0) : Nat × Nat)).1 (((fuI (10 * (1 + (c % 20))), 0) : Nat × Nat)).2)) ?_
   refine oG (aop_cx ((4617315517961601024, 0) : Nat × Nat) ((fuI (10 * (1 + (c % 20))), 0) : Nat × Nat) rfl rfl rfl rfl rfl (by simp) (cxf8 _ hunit) ?_)
   refine mG (.v (.complex .f64 (((fuI (10 * (1 + (c % 20))), 0) : Nat × Nat)).1 (((fuI (10 * (1 + (c % 20))), 0) : Nat × Nat)).2)) ?_
   refine oG (aop_cx ((4618441417868443648, 0) : Nat × Nat) ((fuI (10 * (1 + (c % 20))), 0) : Nat × Nat) rfl rfl rfl rfl rfl (by simp) (cxf9 _ hunit) ?_)
   refine oG (aop_lit rfl rfl rfl ut34 iz95 (by decide) (by decide) rfl rfl ?_)
   refine fG (.pt 53 0) ft39_0 sz34 ?_
   refine oG (qS sz34 ?_)
   refine rU (upd (Z1y c) 7 vN) (updO (Z1i d c y g r t w jn) 53 (.live (Z29 c))) ?_
   refine seqR ?_
   refine oG (qD pl98 ?_)
   refine oG (qD pl98 ?_)
   refine oG (qD pl98 ?_)
   refine oG (qD pl98 ?_)
   refine oG (qD pl98 ?_)
   refine oG (qD pl98 ?_)
   refine oG (qD pl98 ?_)
   refine oG (qD pl98 ?_)
   refine oG (aop_lit rfl rfl rfl ut97 iz98 (by decide) (by decide) rfl rfl ?_)
   refine mG Z1q ?_
   refine rU (upd (Z1y c) 7 Z1q) (updO (Z1i d c y g r t w jn) 53 (.live (Z29 c))) ?_
   refine regR ?_
   refine oG (qD pl100 ?_)
   refine oG (qD pl100 ?_)
   refine oG (aop_lit rfl rfl rfl ut37 iz100 (by decide) (by decide) rfl rfl ?_)
   refine fG (.pt 53 3) ft39_3 sz37 ?_
   refine oG (qS sz37 ?_)
   refine op0 ?_
   show Imp _ _ _
   refine (frz_ [51, 52, 53] [(51, ⟨(Z1e d c y g r t w jn), 25, 1⟩), (52, ⟨[vN, vN, vN, vN, vN, .i 0, .i 0, .i 0, .i 0, .i 0], 39, 1⟩), (53, Z1v)] rfl (fun _ h => h) ⟨keep_cells (cs := (Z1e d c y g r t w jn)) (by simp) rfl rfl fzA, keep_cells (cs := [vN, vN, vN, vN, vN, .i 0, .i 0, .i 0, .i 0, .i 0]) (by simp) rfl rfl fzA, keep_cells (cs := [.ro 8 (Z1f c), vN, vN, .ro 2 Z2b, vN, .i 0, .i 0, .i 0, .i 0, .i 0]) (by simp) rfl rfl (frzs_cons (.inr (.one _ rfl)) fzA), trivial⟩ (fz_same 7 Z1q rfl (fz_same 6 (.pt 53 0) rfl (fz_same 3 (.i (10 * (1 + (c % 20)))) rfl (fz_same 2 (.pt 52 0) rfl (fz_same 1 (.pt 51 0) rfl fz_none)))))).trans ?_
   exact iL [(53, 1), (51, 2), (52, 3)] [((53, 1), .live _), ((51, 2), .live _), ((52, 3), .live _)] ⟨row_no (o := Z1v) rfl (by rw [hP]; rfl), row_no (o := ⟨(Z1e d c y g r t w jn), 25, 1⟩) rfl rfl, row_no (o := ⟨[vN, vN, vN, vN, vN, .i 0, .i 0, .i 0, .i 0, .i 0], 39, 1⟩) rfl rfl, trivial⟩ (he := (sS (by first | (rw [hE]; rfl) | (rw [hE, ← hkk]; rfl)) (sM rfl (sS rfl (sM rfl (sM rfl sr_none))))))
  have hf10 := (beq_eq_false_iff_ne).1 hc4
  have h42 : ¬ d % 4 = 2 := by simpa using hc4
  have hE := (ends3 h40 h41 h42).1
  have hP := (ends3 h40 h41 h42).2
  refine seqR ?_
  refine mG (.v (.complex .f64 (((fuI (10 * (1 + (c % 20))), 0) : Nat × Nat)).1 (((fuI (10 * (1 + (c % 20))), 0) : Nat × Nat)).2)) ?_
  refine mG (.v (.complex .f64 (((fuI (10 * (1 + (c % 20))), 0) : Nat × Nat)).1 (((fuI (10 * (1 + (c % 20))), 0) : Nat × Nat)).2)) ?_
  refine oG (aop_cx ((4611686018427387904, 0) : Nat × Nat) ((fuI (10 * (1 + (c % 20))), 0) : Nat × Nat) rfl rfl rfl rfl rfl (by simp) (cxf0 _ hunit) ?_)
  refine mG (.v (.complex .f64 (((fuI (10 * (1 + (c % 20))), 0) : Nat × Nat)).1 (((fuI (10 * (1 + (c % 20))), 0) : Nat × Nat)).2)) ?_
  refine oG (aop_cx ((4613937818241073152, 0) : Nat × Nat) ((fuI (10 * (1 + (c % 20))), 0) : Nat × Nat) rfl rfl rfl rfl rfl (by simp) (cxf3 _ hunit) ?_)
  refine mG (.v (.complex .f64 (((0, fuI (10 * (1 + (c % 20)))) : Nat × Nat)).1 (((0, fuI (10 * (1 + (c % 20)))) : Nat × Nat)).2)) ?_
  refine oG (aop_cx (cx .mul ((4613937818241073152, 0) : Nat × Nat) ((fuI (10 * (1 + (c % 20))), 0) : Nat × Nat)) ((0, fuI (10 * (1 + (c % 20)))) : Nat × Nat) rfl rfl rfl rfl rfl (by simp) (cxf10 _ hunit) ?_)
  refine mG (.v (.complex .f64 (((fuI (10 * (1 + (c % 20))), 0) : Nat × Nat)).1 (((fuI (10 * (1 + (c % 20))), 0) : Nat × Nat)).2)) ?_
  refine oG (aop_cx ((4613937818241073152, 0) : Nat × Nat) ((fuI (10 * (1 + (c % 20))), 0) : Nat × Nat) rfl rfl rfl rfl rfl (by simp) (cxf3 _ hunit) ?_)
  refine mG (.v (.complex .f64 (((0, fuI (10 * (1 + (c % 20)))) : Nat × Nat)).1 (((0, fuI (10 * (1 + (c % 20)))) : Nat × Nat)).2)) ?_
  refine oG (aop_cx (cx .mul ((4613937818241073152, 0) : Nat × Nat) ((fuI (10 * (1 + (c % 20))), 0) : Nat × Nat)) ((0, fuI (10 * (1 + (c % 20)))) : Nat × Nat) rfl rfl rfl rfl rfl (by simp) (cxf11 _ hunit) ?_)
  refine mG (.v (.complex .f64 (((fuI (10 * (1 + (c % 20))), 0) : Nat × Nat)).1 (((fuI (10 * (1 + (c % 20))), 0) : Nat × Nat)).2)) ?_
  refine oG (aop_cx ((4616189618054758400, 0) : Nat × Nat) ((fuI (10 * (1 + (c % 20))), 0) : Nat × Nat) rfl rfl rfl rfl rfl (by simp) (cxf7 _ hunit) ?_)
  refine mG (.v (.complex .f64 (((0, fuI (10 * (1 + (c % 20)))) : Nat × Nat)).1 (((0, fuI (10 * (1 + (c % 20)))) : Nat × Nat)).2)) ?_
  refine oG (aop_cx (cx .mul ((4616189618054758400, 0) : Nat × Nat) ((fuI (10 * (1 + (c % 20))), 0) : Nat × Nat)) ((0, fuI (10 * (1 + (c % 20)))) : Nat × Nat) rfl rfl rfl rfl rfl (by simp) (cxf12 _ hunit) ?_)
  refine mG (.v (.complex .f64 (((fuI (10 * (1 + (c % 20))), 0) : Nat × Nat)).1 (((fuI (10 * (1 + (c % 20))), 0) : Nat × Nat)).2)) ?_
  refine oG (aop_cx ((4616189618054758400, 0) : Nat × Nat) ((fuI (10 * (1 + (c % 20))), 0) : Nat × Nat) rfl rfl rfl rfl rfl (by simp) (cxf7 _ hunit) ?_)
  refine mG (.v (.complex .f64 (((0, fuI (10 * (1 + (c % 20)))) : Nat × Nat)).1 (((0, fuI (10 * (1 + (c % 20)))) : Nat × Nat)).2)) ?_
  refine oG (aop_cx (cx .mul ((4616189618054758400, 0) : Nat × Nat) ((fuI (10 * (1 + (c % 20))), 0) : Nat × Nat)) ((0, fuI (10 * (1 + (c % 20)))) : Nat × Nat) rfl rfl rfl rfl rfl (by simp) (cxf13 _ hunit) ?_)
  refine oG (aop_lit rfl rfl rfl ut34 iz95 (by decide) (by decide) rfl rfl ?_)
  refine fG (.pt 53 0) ft39_0 sz34 ?_
  refine oG (qS sz34 ?_)
  refine rU (upd (Z1y c) 7 vN) (updO (Z1i d c y g r t w jn) 53 (.live (Z2a c))) ?_
  refine seqR ?_
  refine oG (qD pl98 ?_)
  refine oG (qD pl98 ?_)
  refine oG (qD pl98 ?_)
  refine oG (qD pl98 ?_)
  refine oG (qD pl98 ?_)
  refine oG (qD pl98 ?_)
  refine oG (aop_lit rfl rfl rfl ut97 iz98 (by decide) (by decide) rfl rfl ?_)
  refine mG Z1u ?_
  refine rU (upd (Z1y c) 7 Z1u) (updO (Z1i d c y g r t w jn) 53 (.live (Z2a c))) ?_
  refine regR ?_
  refine oG (qD pl100 ?_)
  refine oG (aop_lit rfl rfl rfl ut37 iz100 (by decide) (by decide) rfl rfl ?_)
  refine fG (.pt 53 3) ft39_3 sz37 ?_
  refine oG (qS sz37 ?_)
  refine op0 ?_
  show Imp _ _ _
  refine (frz_ [51, 52, 53] [(51, ⟨(Z1e d c y g r t w jn), 25, 1⟩), (52, ⟨[vN, vN, vN, vN, vN, .i 0, .i 0, .i 0, .i 0, .i 0], 39, 1⟩), (53, Z21)] rfl (fun _ h => h) ⟨keep_cells (cs := (Z1e d c y g r t w jn)) (by simp) rfl rfl fzA, keep_cells (cs := [vN, vN, vN, vN, vN, .i 0, .i 0, .i 0, .i 0, .i 0]) (by simp) rfl rfl fzA, keep_cells (cs := [.ro 7 (Z1g c), vN, vN, .ro 1 [.i 2, .i 1, .i 3, .i 2], vN, .i 0, .i 0, .i 0, .i 0, .i 0]) (by simp) rfl rfl (frzs_cons (.inr (.one _ rfl)) fzA), trivial⟩ (fz_same 7 Z1u rfl (fz_same 6 (.pt 53 0) rfl (fz_same 3 (.i (10 * (1 + (c % 20)))) rfl (fz_same 2 (.pt 52 0) rfl (fz_same 1 (.pt 51 0) rfl fz_none)))))).trans ?_
  exact iL [(53, 1), (51, 2), (52, 3)] [((53, 1), .live _), ((51, 2), .live _), ((52, 3), .live _)] ⟨row_no (o := Z21) rfl (by rw [hP]; rfl), row_no (o := ⟨(Z1e d c y g r t w jn), 25, 1⟩) rfl rfl, row_no (o := ⟨[vN, vN, vN, vN, vN, .i 0, .i 0, .i 0, .i 0, .i 0], 39, 1⟩) rfl rfl, trivial⟩ (he := (sS (by first | (rw [hE]; rfl) | (rw [hE, ← hkk]; rfl)) (sM rfl (sS rfl (sM rfl (sM rfl sr_none))))))
 refine awp_seq ?_
 refine seqR ?_
 refine mG (.i 0) ?_
 refine op0 ?_
 refine awp_block ?_
 refine awp_countI (fun k2 => ⟨(upd (Z1r c d) 11 (.i (k2 : Int))), (Z1l d c k2 y g r t w jn)⟩) (fun k2 => True) ((mkEnds d).length) ?_ trivial (fun k2 hk_k2 hinv => ?_)
 ·skip
  refine (imp_adoptC 1 1 58 102 3 rfl rfl rfl rfl).trans ?_
  exact iL [(1, 1), (2, 2), (3, 3), (58, 4)] [((1, 1), .live _), ((2, 2), .live _), ((3, 3), .live _), ((58, 4), .live _)] ⟨row_map (o := ⟨[.one, .sl 58 0 0, vN, .q ePnt (mkPts d), vN, .i 0, .i 0, .i 0, .i 0, .i 0], 39, 1⟩) rfl (om_ (lm_cons (am_no (a := .one)) (lm_cons rfl (lm_cons (am_no (a := vN)) (lm_cons (am_no (a := .q ePnt (mkPts d))) (lm_cons (am_no (a := vN)) (lm_cons (am_no (a := .i 0)) (lm_cons (am_no (a := .i 0)) (lm_cons (am_no (a := .i 0)) (lm_cons (am_no (a := .i 0)) (lm_cons (am_no (a := .i 0)) lm_nil))))))))))) (oks_cons (ok_no (a := .one)) (oks_cons (.sl _ _ _ (by simp)) (oks_cons (ok_no (a := vN)) (oks_cons (ok_no (a := .q ePnt (mkPts d))) (oks_cons (ok_no (a := vN)) (oks_cons (ok_no (a := .i 0)) (oks_cons (ok_no (a := .i 0)) (oks_cons (ok_no (a := .i 0)) (oks_cons (ok_no (a := .i 0)) (oks_cons (ok_no (a := .i 0)) oks_nil)))))))))), row_no rfl rfl, row_no rfl rfl, row_no (o := ⟨[], 102, 3⟩) rfl rfl, trivial⟩
 have hml := mkSecsK_len d c k2
 refine awp_seq ?_
 refine seqR ?_
 refine mG (.i (k2 : Int)) ?_
 refine mG (.q ePr (mkEnds d)) ?_
 refine oG (qN ut97 ?_)
 refine bG ((.bool (decide ((k2 : Int) < ((mkEnds d).length : Int))))) ?_
 refine rU (upd (upd (Z1r c d) 11 (.i (k2 : Int))) 153 (.b (decide ((k2 : Int) < ((mkEnds d).length : Int))))) (Z1l d c k2 y g r t w jn) ?_
 refine awp_cond (decide ((k2 : Int) < ((mkEnds d).length : Int))) rfl rfl (fun hc5 => ?_) (fun hc5 => ?_)
 ·skip
  have hf11 := of_decide_eq_true hc5
  refine awp_skip ?_
  refine awp_seq ?_
  refine awp_block ?_
  refine aD 19 [(174, .ro 1 (Z26 c k2 d)), (173, .agg (Z26 c k2 d)), (172, .i (((mkEnds d).getD k2 dR).b)), (171, .rp (([.i (((mkEnds d).getD k2 dR).b)] : List AV) ++ ((enc ePr (mkEnds d)).drop ((k2 + 1) * 2)))), (170, .rp (((Z23 d k2) : List AV) ++ ((enc ePr (mkEnds d)).drop ((k2 + 1) * 2)))), (169, .i (k2 : Int)), (168, .q ePr (mkEnds d)), (167, .i (((mkEnds d).getD k2 dR).a)), (166, .rp (((Z23 d k2) : List AV) ++ ((enc ePr (mkEnds d)).drop ((k2 + 1) * 2)))), (165, .rp (((Z23 d k2) : List AV) ++ ((enc ePr (mkEnds d)).drop ((k2 + 1) * 2)))), (164, .i (k2 : Int)), (163, .q ePr (mkEnds d)), (162, .i ((2 * (10 * (1 + (c % 20)))) + ((k2 : Int) % 3))), (161, .i ((k2 : Int) % 3)), (160, .i (k2 : Int)), (159, .i (2 * (10 * (1 + (c % 20))))), (158, .i (10 * (1 + (c % 20)))), (157, .sl 4 0 ((mkSecsK d c k2).length)), (156, .pt 1 1)] mixed ?_ ?_
  ·iterate 19 (refine ⟨?_, ?_⟩; rotate_left)
   trivial
   ·exact sF (.pt 1 0) (.pt 1 1) ft39_1 sz35
   ·exact sL ag35
   ·exact sMv
   ·exact sB (.int .i64 (2 * (10 * (1 + (c % 20))))) (mulI om)
   ·exact sMv
   ·exact dW 161 fun st hob hE => aop_binI (u := (.int .i64 ((k2 : Int) % 3))) rfl rfl rfl (hE 160 rfl) rfl (by show _ ≠ _; decide) (remI om) (by rw [hob]; rfl)
   ·exact sB (.int .i64 ((2 * (10 * (1 + (c % 20)))) + ((k2 : Int) % 3))) (addI om)
   ·exact sMv
   ·exact sMv
   ·exact (sIx dR ut97 sz98)
   ·exact dW 166 fun st hob hE => aop_ixArr (i := 0) rfl rfl rfl ut98 sz3 (hE 165 rfl) rfl (by decide) (by rw [hob]; rfl)
   ·exact (sLd ag3)
   ·exact sMv
   ·exact sMv
   ·exact (sIx dR ut97 sz98)
   ·exact dW 171 fun st hob hE => aop_ixArr (i := 1) rfl rfl rfl ut98 sz3 (hE 170 rfl) rfl (by decide) (by rw [hob]; rfl)
   ·exact (sLd ag3)
   ·exact dW 173 fun st hob hE => aop_build rfl rfl rfl pl102 (by simp only [partsA, List.map, evA, hE 162 rfl, hE 167 rfl, hE 172 rfl]; rfl) (by rw [hob]; rfl)
   exact dW 174 fun st hob hE => aop_lit rfl rfl rfl ut35 iz102 (by decide) (by decide) (by simp only [partsA, List.map, evA, hE 173 rfl]; rfl) rfl (by rw [hob]; rfl)
  refine oG (aop_app1 (f := eSec) (l := mkSecsK d c k2) 59 (Z1t c k2 d) rfl rfl rfl rfl ut35 in102 rfl (by decide) rfl rfl rfl rfl rfl rfl (fun _ => rfl) rfl rfl oo oo rfl ?_)
  refine fG (.pt 1 1) ft39_1 sz35 ?_
  refine oG (qS sz35 ?_)
  refine op0 ?_
  refine regR ?_
  refine mG (.i (k2 : Int)) ?_
  refine oG (qB (.int .i64 ((k2 + 1 : Nat) : Int)) (addN om) ?_)
  refine mG (.i ((k2 + 1 : Nat) : Int)) ?_
  refine op0 ?_
  show _ ∧ _
  refine ⟨by omega, trivial, ?_⟩
  exact iL [(1, 1), (2, 2), (3, 3), (59, 4)] [((1, 1), .live _), ((2, 2), .live _), ((3, 3), .live _), ((59, 4), .live _)] ⟨row_map (o := ⟨[.one, .sl 59 0 (((mkSecsK d c k2) ++ [(Z1t c k2 d)]).length), vN, .q ePnt (mkPts d), vN, .i 0, .i 0, .i 0, .i 0, .i 0], 39, 1⟩) rfl (om_ (lm_cons (am_no (a := .one)) (lm_cons rfl (lm_cons (am_no (a := vN)) (lm_cons (am_no (a := .q ePnt (mkPts d))) (lm_cons (am_no (a := vN)) (lm_cons (am_no (a := .i 0)) (lm_cons (am_no (a := .i 0)) (lm_cons (am_no (a := .i 0)) (lm_cons (am_no (a := .i 0)) (lm_cons (am_no (a := .i 0)) lm_nil))))))))))) (oks_cons (ok_no (a := .one)) (oks_cons (.sl _ _ _ (by simp)) (oks_cons (ok_no (a := vN)) (oks_cons (ok_no (a := .q ePnt (mkPts d))) (oks_cons (ok_no (a := vN)) (oks_cons (ok_no (a := .i 0)) (oks_cons (ok_no (a := .i 0)) (oks_cons (ok_no (a := .i 0)) (oks_cons (ok_no (a := .i 0)) (oks_cons (ok_no (a := .i 0)) oks_nil)))))))))), row_no rfl rfl, row_no rfl rfl, row_no (o := ⟨(enc eSec ((mkSecsK d c k2) ++ [(Z1t c k2 d)])), 102, 3⟩) rfl (by exact congrArg (fun l_ => LObj.mk (enc eSec l_) 102 3) rfl), trivial⟩
 have hf12 := of_decide_eq_false hc5
 have hk2 : k2 = (mkEnds d).length := by omega
 have hml := mkSecsK_len d c k2
 refine awp_exit ?_
 refine awp_seq ?_
 refine seqR ?_
 refine mG (.i 0) ?_
 refine op0 ?_
 refine awp_block ?_
 refine awp_peelI (fun k3 => ⟨(upd (Z1r c d) 12 (.i ((k3 + 1 : Nat) : Int))), (updO (updO (updO (updO (updO (updO noOb 1 (.live ⟨[.one, .sl 4 0 ((mkSecsK d c k2).length), .sl 5 0 (partN jn k3), .q ePnt (mkPts d), vN, .i 0, .i 0, .i 0, .i 0, .i 0], 39, 1⟩)) 2 (.live ⟨(Z1e d c y g r t w jn), 25, 1⟩)) 3 (.live ⟨[vN, vN, vN, vN, vN, .i 0, .i 0, .i 0, .i 0, .i 0], 39, 1⟩)) 4 (.live (Z1o d c k2))) 5 (.live ⟨(enc eIL (partD jn (k3 + 1)) ++ [.sl 6 0 ((partD.partT jn (k3 + 1)).length)]), 48, 1⟩)) 6 (.live ⟨(enc eI (partD.partT jn (k3 + 1))), 3, 1⟩))⟩) (fun k3 => True) ((mkEnds d).length - 1) ?_ (fun k3 hk_k3 hinv => ?_)
 ·skip
  refine awp_seq ?_
  refine seqR ?_
  refine mG (.i 0) ?_
  refine mG (.q ePr (mkEnds d)) ?_
  refine oG (qN ut97 ?_)
  refine bG ((.bool (decide (0 < ((mkEnds d).length : Int))))) ?_
  refine rU (upd (upd (Z1r c d) 12 (.i 0)) 180 (.b (decide (0 < ((mkEnds d).length : Int))))) (Z1l d c k2 y g r t w jn) ?_
  refine awp_cond (decide (0 < ((mkEnds d).length : Int))) rfl rfl (fun hc6 => ?_) (fun hc6 => ?_)
  ·skip
   have hf13 := of_decide_eq_true hc6
   refine awp_skip ?_
   refine awp_seq ?_
   refine awp_block ?_
   refine seqR ?_
   refine mG (.i 0) ?_
   refine bG ((.bool (decide ((0 : Int) > 0)))) ?_
   refine mG (.b (decide ((0 : Int) > 0))) ?_
   refine aops_grp 8 193 (.b ((decide ((0 : Int) > 0)) && (((jn.fdiv (2 ^ (0))) % 2) == 1))) ?_ ?_
   ·refine (Bool.eq_false_or_eq_true (decide ((0 : Int) > 0))).elim (fun hg14 => ?_) (fun hg14 => ?_)
    ·skip
     have hf15 := of_decide_eq_true hg14
     refine oY hg14 (qF (.pt 2 0) (.pt 2 7) ft25_7 sz5 ?_)
     refine oY hg14 (qL (.v (.int .u8 jn)) ag5 ?_)
     refine oY hg14 (qM (.i 0) ?_)
     refine oY hg14 (aop_binI (u := (.int .i64 (0 % 8))) rfl rfl rfl rfl rfl (by show _ ≠ _; decide) (remI om) ?_)
     refine oY hg14 (aop_shr (n := 0) rfl rfl rfl rfl rfl (by show _ ≤ 8; omega) ?_)
     refine oY hg14 (aop_binI (u := (.int .u8 ((jn.fdiv (2 ^ (0))) % 2))) rfl rfl rfl rfl rfl (by show _ ≠ _; decide) (remFdiv hj _) ?_)
     refine oY hg14 (qB (.bool (((jn.fdiv (2 ^ (0))) % 2) == 1)) rfl ?_)
     refine oG (qP (decide ((0 : Int) > 0)) (.b (((jn.fdiv (2 ^ (0))) % 2) == 1)) hg14 ?_)
     refine op0 ?_
     exact imp_env (lee_both 193 _ _ (by rw [hg14] <;> rfl) lO)
    have hf16 := of_decide_eq_false hg14
    refine nG hg14 ?_
    refine nG hg14 ?_
    refine nG hg14 ?_
    refine nG hg14 ?_
    refine nG hg14 ?_
    refine nG hg14 ?_
    refine nG hg14 ?_
    refine oG (qP (decide ((0 : Int) > 0)) (.b false) hg14 ?_)
    refine op0 ?_
    exact imp_env (lee_both 193 _ _ (by rw [hg14] <;> rfl) lO)
   refine op0 ?_
   refine awp_cond ((decide ((0 : Int) > 0)) && (((jn.fdiv (2 ^ (0))) % 2) == 1)) rfl rfl (fun hc7 => ?_) (fun hc7 => ?_)
   ·skip
    obtain ⟨hf17a, hf17b⟩ := and_t hc7
    have hf18 := of_decide_eq_true hf17a
    have hf19 := (beq_iff_eq).1 hf17b
    exfalso; simp at hc7
   refine regR ?_
   refine fG (.pt 1 2) ft39_2 sz36 ?_
   refine oG (qL vN ag36 ?_)
   refine mG (.i 0) ?_
   refine oG (aop_litO 60 rfl rfl rfl ut48 iz3 (by decide) (by decide) rfl rfl rfl rfl ?_)
   refine oG (aop_lit rfl rfl rfl ut36 iz48 (by decide) (by decide) rfl rfl ?_)
   refine oG (aop_adopt 213 61 48 1 rfl rfl (aop_append 62 rfl rfl rfl rfl ut36 in48 rfl (by decide) rfl rfl rfl rfl (by simp [enc_length (f := eIL) (s := 1) (fun _ => rfl), partN]) rfl rfl om om rfl rfl ?_))
   refine fG (.pt 1 2) ft39_2 sz36 ?_
   refine oG (qS sz36 ?_)
   refine op0 ?_
   refine rT (upd (Z1r c d) 12 (.i 0)) (updO (updO (updO (updO (updO (Z1l d c k2 y g r t w jn) 60 (.live ⟨[.i 0], 3, 1⟩)) 61 (.live ⟨[], 48, 1⟩)) 61 .dead) 62 (.live ⟨[.sl 60 0 1], 48, 1⟩)) 1 (.live (Z24 d c k2))) ?_
   refine regR ?_
   refine mG (.i 0) ?_
   refine oG (qB (.int .i64 (0 + 1)) (addI om) ?_)
   refine mG (.i (0 + 1)) ?_
   refine op0 ?_
   show _ ∧ _
   refine ⟨trivial, ?_⟩
   exact iL [(1, 1), (2, 2), (3, 3), (4, 4), (62, 5), (60, 6)] [((1, 1), .live _), ((2, 2), .live _), ((3, 3), .live _), ((4, 4), .live _), ((62, 5), .live _), ((60, 6), .live _)] ⟨row_map (o := (Z24 d c k2)) rfl (by rw [partN_zero]; exact (om_ (lm_cons (am_no (a := .one)) (lm_cons rfl (lm_cons rfl (lm_cons (am_no (a := .q ePnt (mkPts d))) (lm_cons (am_no (a := vN)) (lm_cons (am_no (a := .i 0)) (lm_cons (am_no (a := .i 0)) (lm_cons (am_no (a := .i 0)) (lm_cons (am_no (a := .i 0)) (lm_cons (am_no (a := .i 0)) lm_nil)))))))))))) (oks_cons (ok_no (a := .one)) (oks_cons (.sl _ _ _ (by simp)) (oks_cons (.sl _ _ _ (by simp)) (oks_cons (ok_no (a := .q ePnt (mkPts d))) (oks_cons (ok_no (a := vN)) (oks_cons (ok_no (a := .i 0)) (oks_cons (ok_no (a := .i 0)) (oks_cons (ok_no (a := .i 0)) (oks_cons (ok_no (a := .i 0)) (oks_cons (ok_no (a := .i 0)) oks_nil)))))))))), row_no rfl rfl, row_no rfl rfl, row_no rfl rfl, row_map (o := ⟨[.sl 60 0 1], 48, 1⟩) rfl (by rw [partD_one, partT_one]; exact (om_ (lm_cons rfl lm_nil))) (oks_cons (.sl _ _ _ (by simp)) oks_nil), row_no rfl (by rw [partT_one]; rfl), trivial⟩
  have hf20 := of_decide_eq_false hc6
  exfalso; simp at hc6; omega
 have hpn := partN_le jn k3
 have hpt := partT_len jn (k3 + 1)
 refine awp_seq ?_
 refine seqR ?_
 refine mG (.i ((k3 + 1 : Nat) : Int)) ?_
 refine mG (.q ePr (mkEnds d)) ?_
 refine oG (qN ut97 ?_)
 refine bG ((.bool (decide (((k3 + 1 : Nat) : Int) < ((mkEnds d).length : Int))))) ?_
 refine rU (upd (upd (Z1r c d) 12 (.i ((k3 + 1 : Nat) : Int))) 180 (.b (decide (((k3 + 1 : Nat) : Int) < ((mkEnds d).length : Int))))) (updO (updO (updO (updO (updO (updO noOb 1 (.live ⟨[.one, .sl 4 0 ((mkSecsK d c k2).length), .sl 5 0 (partN jn k3), .q ePnt (mkPts d), vN, .i 0, .i 0, .i 0, .i 0, .i 0], 39, 1⟩)) 2 (.live ⟨(Z1e d c y g r t w jn), 25, 1⟩)) 3 (.live ⟨[vN, vN, vN, vN, vN, .i 0, .i 0, .i 0, .i 0, .i 0], 39, 1⟩)) 4 (.live (Z1o d c k2))) 5 (.live ⟨(enc eIL (partD jn (k3 + 1)) ++ [.sl 6 0 ((partD.partT jn (k3 + 1)).length)]), 48, 1⟩)) 6 (.live ⟨(enc eI (partD.partT jn (k3 + 1))), 3, 1⟩)) ?_
 refine awp_cond (decide (((k3 + 1 : Nat) : Int) < ((mkEnds d).length : Int))) rfl rfl (fun hc8 => ?_) (fun hc8 => ?_)
 ·skip
  have hf21 := of_decide_eq_true hc8
  refine awp_skip ?_
  refine awp_seq ?_
  refine awp_block ?_
  refine seqR ?_
  refine mG (.i ((k3 + 1 : Nat) : Int)) ?_
  refine bG ((.bool (decide (((k3 + 1 : Nat) : Int) > 0)))) ?_
  refine mG (.b (decide (((k3 + 1 : Nat) : Int) > 0))) ?_
  refine aops_grp 8 193 (.b ((decide (((k3 + 1 : Nat) : Int) > 0)) && (((jn.fdiv (2 ^ ((k3 + 1) % 8))) % 2) == 1))) ?_ ?_
  ·refine (Bool.eq_false_or_eq_true (decide (((k3 + 1 : Nat) : Int) > 0))).elim (fun hg22 => ?_) (fun hg22 => ?_)
   ·skip
    have hf23 := of_decide_eq_true hg22
    refine oY hg22 (qF (.pt 2 0) (.pt 2 7) ft25_7 sz5 ?_)
    refine oY hg22 (qL (.v (.int .u8 jn)) ag5 ?_)
    refine oY hg22 (qM (.i ((k3 + 1 : Nat) : Int)) ?_)
    refine oY hg22 (aop_binI (u := (.int .i64 (((k3 + 1 : Nat) : Int) % 8))) rfl rfl rfl rfl rfl (by show _ ≠ _; decide) (remI om) ?_)
    refine oY hg22 (aop_shr (n := (k3 + 1) % 8) rfl rfl rfl rfl rfl (by show _ ≤ 8; omega) ?_)
    refine oY hg22 (aop_binI (u := (.int .u8 ((jn.fdiv (2 ^ ((k3 + 1) % 8))) % 2))) rfl rfl rfl rfl rfl (by show _ ≠ _; decide) (remFdiv hj _) ?_)
    refine oY hg22 (qB (.bool (((jn.fdiv (2 ^ ((k3 + 1) % 8))) % 2) == 1)) rfl ?_)
    refine oG (qP (decide (((k3 + 1 : Nat) : Int) > 0)) (.b (((jn.fdiv (2 ^ ((k3 + 1) % 8))) % 2) == 1)) hg22 ?_)
    refine op0 ?_
    exact imp_env (lee_both 193 _ _ (by rw [hg22] <;> rfl) lO)
   have hf24 := of_decide_eq_false hg22
   refine nG hg22 ?_
   refine nG hg22 ?_
   refine nG hg22 ?_
   refine nG hg22 ?_
   refine nG hg22 ?_
   refine nG hg22 ?_
   refine nG hg22 ?_
   refine oG (qP (decide (((k3 + 1 : Nat) : Int) > 0)) (.b false) hg22 ?_)
   refine op0 ?_
   exact imp_env (lee_both 193 _ _ (by rw [hg22] <;> rfl) lO)
  refine op0 ?_
  refine awp_cond ((decide (((k3 + 1 : Nat) : Int) > 0)) && (((jn.fdiv (2 ^ ((k3 + 1) % 8))) % 2) == 1)) rfl rfl (fun hc9 => ?_) (fun hc9 => ?_)
  ·skip
   obtain ⟨hf25a, hf25b⟩ := and_t hc9
   have hf26 := of_decide_eq_true hf25a
   have hf27 := (beq_iff_eq).1 hf25b
   have hjn : joinB jn (k3 + 1) = true := (joinB_int jn (k3 + 1)).trans hc9
   refine awp_drawZ (m := 17) (fun b => (updO (updO (updO (updO (updO (updO (updO noOb 1 (.live ⟨[.one, .sl 4 0 ((mkSecsK d c k2).length), .sl 5 0 (partN jn k3), .q ePnt (mkPts d), vN, .i 0, .i 0, .i 0, .i 0, .i 0], 39, 1⟩)) 2 (.live ⟨(Z1e d c y g r t w jn), 25, 1⟩)) 3 (.live ⟨[vN, vN, vN, vN, vN, .i 0, .i 0, .i 0, .i 0, .i 0], 39, 1⟩)) 4 (.live (Z1o d c k2))) 5 (.live ⟨(enc eIL (partD jn (k3 + 1)) ++ [.sl 6 0 ((partD.partT jn (k3 + 1)).length)]), 48, 1⟩)) 6 (cond (b 16) .dead (.live ⟨(enc eI (partD.partT jn (k3 + 1))), 3, 1⟩))) 63 (cond (b 16) (.live ⟨(enc eI ((partD.partT jn (k3 + 1)) ++ [(((k3 + 1 : Nat) : Int) : Int)])), 3, 1⟩) .free))) (updO (updO (updO (updO (updO (updO (updO noOb 1 (.live ⟨[.one, .sl 4 0 ((mkSecsK d c k2).length), .sl 5 0 (partN jn k3), .q ePnt (mkPts d), vN, .i 0, .i 0, .i 0, .i 0, .i 0], 39, 1⟩)) 2 (.live ⟨(Z1e d c y g r t w jn), 25, 1⟩)) 3 (.live ⟨[vN, vN, vN, vN, vN, .i 0, .i 0, .i 0, .i 0, .i 0], 39, 1⟩)) 4 (.live (Z1o d c k2))) 5 (.live ⟨(enc eIL (partD jn (k3 + 1)) ++ [.sl 6 0 ((partD.partT jn (k3 + 1)).length)]), 48, 1⟩)) 6 .dead) 63 (.live ⟨(enc eI ((partD.partT jn (k3 + 1)) ++ [(((k3 + 1 : Nat) : Int) : Int)])), 3, 1⟩)) [16] (funext fun id_ => by by_cases e0_ : id_ = 6 <;> by_cases e1_ : id_ = 63 <;> first | (subst e0_; rfl) | (subst e1_; rfl) | simp only [addO, updO, nbeq_ne e0_, nbeq_ne e1_, cond_false]) (fun b b' h => by simp only [h 16 (by decide)]) (fun b h => by simp only [h 16 (by decide), cond_true]) [(210, .sl 63 0 (((partD.partT jn (k3 + 1)) ++ [(((k3 + 1 : Nat) : Int) : Int)]).length)), (209, .ro 1 [.i ((k3 + 1 : Nat) : Int)]), (208, .i ((k3 + 1 : Nat) : Int)), (207, .sl 6 0 ((partD.partT jn (k3 + 1)).length)), (206, .pt 5 ((partM jn k3) * 1)), (205, .i ((partM jn k3 : Nat) : Int)), (204, .i (partN jn k3 : Int)), (203, .sl 5 0 (partN jn k3)), (202, .pt 1 2), (201, .sl 5 0 (partN jn k3)), (200, .pt 1 2), (199, .i ((partM jn k3 : Nat) : Int)), (198, .i (partN jn k3 : Int)), (197, .sl 5 0 (partN jn k3)), (196, .pt 1 2), (195, .sl 5 0 (partN jn k3)), (194, .pt 1 2)] mixed (by kernel_rfl) ?_ ?_
   ·iterate 17 (refine ⟨?_, ?_⟩; rotate_left)
    trivial
    ·exact sy_pure (by decide) (fun b => sF (.pt 1 0) (.pt 1 2) ft39_2 sz36)
    ·exact sy_pure (by decide) (fun b => sL ag36)
    ·exact sy_pure (by decide) (fun b => sF (.pt 1 0) (.pt 1 2) ft39_2 sz36)
    ·exact sy_pure (by decide) (fun b => sL ag36)
    ·exact sy_pure (by decide) (fun b => dW 198 fun st hob hE => aop_len rfl rfl rfl rfl ut36 (len_sl (hE 197 rfl)) (by rw [hob]; rfl))
    ·exact sy_pure (by decide) (fun b => sB (.int .i64 ((partM jn k3 : Nat) : Int)) (subN1 (partN_M jn k3) om))
    ·exact sy_pure (by decide) (fun b => sF (.pt 1 0) (.pt 1 2) ft39_2 sz36)
    ·exact sy_pure (by decide) (fun b => sL ag36)
    ·exact sy_pure (by decide) (fun b => sF (.pt 1 0) (.pt 1 2) ft39_2 sz36)
    ·exact sy_pure (by decide) (fun b => sL ag36)
    ·exact sy_pure (by decide) (fun b => dW 204 fun st hob hE => aop_len rfl rfl rfl rfl ut36 (len_sl (hE 203 rfl)) (by rw [hob]; rfl))
    ·exact sy_pure (by decide) (fun b => sB (.int .i64 ((partM jn k3 : Nat) : Int)) (subN1 (partN_M jn k3) om))
    ·exact sy_pure (by decide) (fun b => dW 206 fun st hob hE => aop_ixO (k := partM jn k3) rfl rfl rfl ut36 sz48 (hE 201 rfl) (hE 205 rfl) (by rw [partN_M]; omega) (by rw [hob]; rfl))
    ·exact sy_pure (by decide) (fun b => dW 207 fun st hob hE => aop_ld (av := .sl 6 0 ((partD.partT jn (k3 + 1)).length)) (rest := []) rfl rfl rfl ag48 (hE 206 rfl) (ptC_last (pre := enc eIL (partD jn (k3 + 1))) (x := .sl 6 0 ((partD.partT jn (k3 + 1)).length)) (e := 48) (z := 1) (by rw [hob]; rfl) (enc_length (s := 1) (fun _ => rfl) _).symm) (by rw [hob]; rfl))
    ·exact sy_pure (by decide) (fun b => dW 208 fun st hob hE => aop_move (av := .i ((k3 + 1 : Nat) : Int)) (.inl rfl) rfl rfl (hE 12 rfl) (by rw [hob]; rfl))
    ·exact sy_pure (by decide) (fun b => dW 209 fun st hob hE => aop_lit rfl rfl rfl ut48 iz3 (by decide) (by decide) (by simp only [partsA, List.map, evA, hE 208 rfl]; rfl) rfl (by rw [hob]; rfl))
    exact sy_fx (by decide) ⟨rfl, (fun d_ h_ => by cases h_ <;> exact blt_lt rfl), fun b hb_ hdep_ hcl_ st hob hE => by obtain ⟨en_, ob_⟩ := st; have hob_ : ob_ = (updO (updO (updO (updO (updO (updO (updO noOb 1 (.live ⟨[.one, .sl 4 0 ((mkSecsK d c k2).length), .sl 5 0 (partN jn k3), .q ePnt (mkPts d), vN, .i 0, .i 0, .i 0, .i 0, .i 0], 39, 1⟩)) 2 (.live ⟨(Z1e d c y g r t w jn), 25, 1⟩)) 3 (.live ⟨[vN, vN, vN, vN, vN, .i 0, .i 0, .i 0, .i 0, .i 0], 39, 1⟩)) 4 (.live (Z1o d c k2))) 5 (.live ⟨(enc eIL (partD jn (k3 + 1)) ++ [.sl 6 0 ((partD.partT jn (k3 + 1)).length)]), 48, 1⟩)) 6 (.live ⟨(enc eI (partD.partT jn (k3 + 1))), 3, 1⟩)) 63 .free) := Eq.trans hob (by simp only [hb_, cond_false, cond_true]); subst hob_; exact aop_app1 (f := eI) (l := partD.partT jn (k3 + 1)) 63 (((k3 + 1 : Nat) : Int) : Int) rfl rfl rfl rfl ut48 in3 rfl (by decide) (hE 207 rfl) rfl rfl rfl rfl rfl (fun _ => rfl) (hE 209 rfl) rfl oo oo rfl ⟨rfl, fun id_ => by by_cases e0_ : id_ = 6 <;> by_cases e1_ : id_ = 63 <;> first | (subst e0_; rfl) | (subst e1_; rfl) | simp only [addO, updO, nbeq_ne e0_, nbeq_ne e1_, cond_false]⟩⟩
   refine oG (aop_ixO (k := partM jn k3) rfl rfl rfl ut36 sz48 rfl rfl (by rw [partN_M]; omega) ?_)
   refine oG (aop_store (cells' := (enc eIL (partD jn (k3 + 1)) ++ [.sl 63 0 (((partD.partT jn (k3 + 1)) ++ [(((k3 + 1 : Nat) : Int) : Int)]).length)])) rfl rfl rfl sz48 rfl rfl rfl rfl rfl (by simp [partM, enc_length (f := eIL) (s := 1) (fun _ => rfl)]) rfl (spl_last (enc_length (s := 1) (fun _ => rfl) _).symm) ?_)
   refine op0 ?_
   refine rT (upd (Z1r c d) 12 (.i ((k3 + 1 : Nat) : Int))) (updO (updO (updO (updO (updO (updO (updO (updO noOb 1 (.live ⟨[.one, .sl 4 0 ((mkSecsK d c k2).length), .sl 5 0 (partN jn k3), .q ePnt (mkPts d), vN, .i 0, .i 0, .i 0, .i 0, .i 0], 39, 1⟩)) 2 (.live ⟨(Z1e d c y g r t w jn), 25, 1⟩)) 3 (.live ⟨[vN, vN, vN, vN, vN, .i 0, .i 0, .i 0, .i 0, .i 0], 39, 1⟩)) 4 (.live (Z1o d c k2))) 5 (.live ⟨(enc eIL (partD jn (k3 + 1)) ++ [.sl 6 0 ((partD.partT jn (k3 + 1)).length)]), 48, 1⟩)) 6 .dead) 63 (.live ⟨(enc eI ((partD.partT jn (k3 + 1)) ++ [(((k3 + 1 : Nat) : Int) : Int)])), 3, 1⟩)) 5 (.live ⟨(enc eIL (partD jn (k3 + 1)) ++ [.sl 63 0 (((partD.partT jn (k3 + 1)) ++ [(((k3 + 1 : Nat) : Int) : Int)]).length)]), 48, 1⟩)) ?_
   refine regR ?_
   refine mG (.i ((k3 + 1 : Nat) : Int)) ?_
   refine oG (qB (.int .i64 ((k3 + 1 + 1 : Nat) : Int)) (addN om) ?_)
   refine mG (.i ((k3 + 1 + 1 : Nat) : Int)) ?_
   refine op0 ?_
   show _ ∧ _
   have hN := partN_join hjn
   have hD := (parts_join hjn).1
   have hT := (parts_join hjn).2
   refine ⟨by omega, trivial, ?_⟩
   exact iL [(1, 1), (2, 2), (3, 3), (4, 4), (5, 5), (63, 6)] [((1, 1), .live _), ((2, 2), .live _), ((3, 3), .live _), ((4, 4), .live _), ((5, 5), .live _), ((63, 6), .live _)] ⟨row_map (o := ⟨[.one, .sl 4 0 ((mkSecsK d c k2).length), .sl 5 0 (partN jn k3), .q ePnt (mkPts d), vN, .i 0, .i 0, .i 0, .i 0, .i 0], 39, 1⟩) rfl (by rw [hN]; exact (om_ (lm_cons (am_no (a := .one)) (lm_cons rfl (lm_cons rfl (lm_cons (am_no (a := .q ePnt (mkPts d))) (lm_cons (am_no (a := vN)) (lm_cons (am_no (a := .i 0)) (lm_cons (am_no (a := .i 0)) (lm_cons (am_no (a := .i 0)) (lm_cons (am_no (a := .i 0)) (lm_cons (am_no (a := .i 0)) lm_nil)))))))))))) (oks_cons (ok_no (a := .one)) (oks_cons (.sl _ _ _ (by simp)) (oks_cons (.sl _ _ _ (by simp)) (oks_cons (ok_no (a := .q ePnt (mkPts d))) (oks_cons (ok_no (a := vN)) (oks_cons (ok_no (a := .i 0)) (oks_cons (ok_no (a := .i 0)) (oks_cons (ok_no (a := .i 0)) (oks_cons (ok_no (a := .i 0)) (oks_cons (ok_no (a := .i 0)) oks_nil)))))))))), row_no rfl rfl, row_no rfl rfl, row_no rfl rfl, row_map (o := ⟨(enc eIL (partD jn (k3 + 1)) ++ [.sl 63 0 (((partD.partT jn (k3 + 1)) ++ [(((k3 + 1 : Nat) : Int) : Int)]).length)]), 48, 1⟩) rfl (by rw [hD, hT]; exact (om_ (lm_append lm_no (lm_cons rfl lm_nil)))) (oks_append oks_no (oks_cons (.sl _ _ _ (by simp)) oks_nil)), row_no rfl (by exact congrArg (fun l_ => LObj.mk (enc eI l_) 3 1) hT), trivial⟩
  have hjn : joinB jn (k3 + 1) = false := (joinB_int jn (k3 + 1)).trans hc9
  refine regR ?_
  refine fG (.pt 1 2) ft39_2 sz36 ?_
  refine oG (qL (.sl 5 0 (partN jn k3)) ag36 ?_)
  refine mG (.i ((k3 + 1 : Nat) : Int)) ?_
  refine oG (aop_litO 64 rfl rfl rfl ut48 iz3 (by decide) (by decide) rfl rfl rfl rfl ?_)
  refine oG (aop_lit rfl rfl rfl ut36 iz48 (by decide) (by decide) rfl rfl ?_)
  refine oG (aop_append 65 rfl rfl rfl rfl ut36 in48 rfl (by decide) rfl rfl rfl rfl (by simp [enc_length (f := eIL) (s := 1) (fun _ => rfl), partN]) rfl rfl om om rfl (List.append_assoc _ _ _) ?_)
  refine fG (.pt 1 2) ft39_2 sz36 ?_
  refine oG (qS sz36 ?_)
  refine op0 ?_
  refine rT (upd (Z1r c d) 12 (.i ((k3 + 1 : Nat) : Int))) (updO (updO (updO (updO (updO (updO (updO (updO (updO (updO noOb 1 (.live ⟨[.one, .sl 4 0 ((mkSecsK d c k2).length), .sl 5 0 (partN jn k3), .q ePnt (mkPts d), vN, .i 0, .i 0, .i 0, .i 0, .i 0], 39, 1⟩)) 2 (.live ⟨(Z1e d c y g r t w jn), 25, 1⟩)) 3 (.live ⟨[vN, vN, vN, vN, vN, .i 0, .i 0, .i 0, .i 0, .i 0], 39, 1⟩)) 4 (.live (Z1o d c k2))) 5 (.live ⟨(enc eIL (partD jn (k3 + 1)) ++ [.sl 6 0 ((partD.partT jn (k3 + 1)).length)]), 48, 1⟩)) 6 (.live ⟨(enc eI (partD.partT jn (k3 + 1))), 3, 1⟩)) 64 (.live ⟨[.i ((k3 + 1 : Nat) : Int)], 3, 1⟩)) 5 .dead) 65 (.live ⟨(enc eIL (partD jn (k3 + 1)) ++ [.sl 6 0 ((partD.partT jn (k3 + 1)).length), .sl 64 0 1]), 48, 1⟩)) 1 (.live ⟨[.one, .sl 4 0 ((mkSecsK d c k2).length), .sl 65 0 ((partN jn k3) + 1), .q ePnt (mkPts d), vN, .i 0, .i 0, .i 0, .i 0, .i 0], 39, 1⟩)) ?_
  refine regR ?_
  refine mG (.i ((k3 + 1 : Nat) : Int)) ?_
  refine oG (qB (.int .i64 ((k3 + 1 + 1 : Nat) : Int)) (addN om) ?_)
  refine mG (.i ((k3 + 1 + 1 : Nat) : Int)) ?_
  refine op0 ?_
  show _ ∧ _
  have hN := partN_new hjn
  have hD := partD_new hjn
  have hT := (parts_new hjn).2
  refine ⟨by omega, trivial, ?_⟩
  refine (frz_ [2, 3, 1, 4, 65, 64] [(2, ⟨(Z1e d c y g r t w jn), 25, 1⟩), (3, ⟨[vN, vN, vN, vN, vN, .i 0, .i 0, .i 0, .i 0, .i 0], 39, 1⟩), (1, ⟨[.one, .sl 4 0 ((mkSecsK d c k2).length), .sl 65 0 ((partN jn k3) + 1), .q ePnt (mkPts d), vN, .i 0, .i 0, .i 0, .i 0, .i 0], 39, 1⟩), (4, (Z1o d c k2)), (65, ⟨(enc eIL (partD jn (k3 + 1)) ++ [.q eI (partD.partT jn (k3 + 1)), .sl 64 0 1]), 48, 1⟩), (64, ⟨[.i ((k3 + 1 : Nat) : Int)], 3, 1⟩)] rfl (fun _ h => h) ⟨keep_cells (cs := (Z1e d c y g r t w jn)) (by simp) rfl rfl fzA, keep_cells (cs := [vN, vN, vN, vN, vN, .i 0, .i 0, .i 0, .i 0, .i 0]) (by simp) rfl rfl fzA, keep_cells (cs := [.one, .sl 4 0 ((mkSecsK d c k2).length), .sl 65 0 ((partN jn k3) + 1), .q ePnt (mkPts d), vN, .i 0, .i 0, .i 0, .i 0, .i 0]) (by simp) rfl rfl fzA, keep_same (by simp) rfl, keep_cells (cs := (enc eIL (partD jn (k3 + 1)) ++ [.sl 6 0 ((partD.partT jn (k3 + 1)).length), .sl 64 0 1])) (by simp) rfl (by simp) (frzs_pre (frzs_cons (.inr (lend_s (id := 6) (n := (partD.partT jn (k3 + 1)).length) (o := ⟨(enc eI (partD.partT jn (k3 + 1))), 3, 1⟩) rfl (enc_len (fun _ => rfl) (by first | rfl | (simp; done))))) fzA)), keep_same (by simp) rfl, trivial⟩ (fz_same 12 (.i ((k3 + 1 + 1 : Nat) : Int)) rfl (fz_same 7 (.q ePr (mkEnds d)) rfl (fz_same 6 (.pt 1 0) rfl (fz_same 3 (.i (10 * (1 + (c % 20)))) rfl (fz_same 2 (.pt 3 0) rfl (fz_same 1 (.pt 2 0) rfl fz_none))))))).trans ?_
  exact iL [(1, 1), (2, 2), (3, 3), (4, 4), (65, 5), (64, 6)] [((1, 1), .live _), ((2, 2), .live _), ((3, 3), .live _), ((4, 4), .live _), ((65, 5), .live _), ((64, 6), .live _)] ⟨row_map (o := ⟨[.one, .sl 4 0 ((mkSecsK d c k2).length), .sl 65 0 ((partN jn k3) + 1), .q ePnt (mkPts d), vN, .i 0, .i 0, .i 0, .i 0, .i 0], 39, 1⟩) rfl (by rw [hN]; exact (om_ (lm_cons (am_no (a := .one)) (lm_cons rfl (lm_cons rfl (lm_cons (am_no (a := .q ePnt (mkPts d))) (lm_cons (am_no (a := vN)) (lm_cons (am_no (a := .i 0)) (lm_cons (am_no (a := .i 0)) (lm_cons (am_no (a := .i 0)) (lm_cons (am_no (a := .i 0)) (lm_cons (am_no (a := .i 0)) lm_nil)))))))))))) (oks_cons (ok_no (a := .one)) (oks_cons (.sl _ _ _ (by simp)) (oks_cons (.sl _ _ _ (by simp)) (oks_cons (ok_no (a := .q ePnt (mkPts d))) (oks_cons (ok_no (a := vN)) (oks_cons (ok_no (a := .i 0)) (oks_cons (ok_no (a := .i 0)) (oks_cons (ok_no (a := .i 0)) (oks_cons (ok_no (a := .i 0)) (oks_cons (ok_no (a := .i 0)) oks_nil)))))))))), row_no (o := ⟨(Z1e d c y g r t w jn), 25, 1⟩) rfl rfl, row_no (o := ⟨[vN, vN, vN, vN, vN, .i 0, .i 0, .i 0, .i 0, .i 0], 39, 1⟩) rfl rfl, row_no (o := (Z1o d c k2)) rfl rfl, row_map (o := ⟨(enc eIL (partD jn (k3 + 1)) ++ [.q eI (partD.partT jn (k3 + 1)), .sl 64 0 1]), 48, 1⟩) rfl (by rw [hD, hT, enc_snoc, List.append_assoc]; exact (om_ (lm_append lm_no (lm_cons (am_no (a := .q eI (partD.partT jn (k3 + 1)))) (lm_cons rfl lm_nil))))) (oks_append oks_no (oks_cons (ok_no (a := .q eI (partD.partT jn (k3 + 1)))) (oks_cons (.sl _ _ _ (by simp)) oks_nil))), row_no (o := ⟨[.i ((k3 + 1 : Nat) : Int)], 3, 1⟩) rfl (by rw [hT]; rfl), trivial⟩
 have hf28 := of_decide_eq_false hc8
 have hk3 : k3 + 1 = (mkEnds d).length := by omega
 have hmb := modB (a := y) (b := 2 * (10 * (1 + c % 20))) om
 refine awp_exit ?_
 refine seqR ?_
 refine fG (.pt 2 2) ft25_2 sz5 ?_
 refine oG (qL (.v (.int .u8 y)) ag5 ?_)
 refine oG (aop_conv' rfl rfl rfl ut5 ut3 rfl (IntWalk.i64_in _ om) ?_)
 refine mG (.i (10 * (1 + (c % 20)))) ?_
 refine oG (qB (.int .i64 (2 * (10 * (1 + (c % 20))))) (mulI om) ?_)
 refine oG (aop_binI (u := (.int .i64 (y % (2 * (10 * (1 + (c % 20))))))) rfl rfl rfl rfl rfl (by show _ ≠ _; omega) (remI om) ?_)
 refine oG (qB (.int .i64 (1 + (y % (2 * (10 * (1 + (c % 20))))))) (addI om) ?_)
 refine fG (.pt 1 5) ft39_5 sz3 ?_
 refine oG (qS sz3 ?_)
 refine rU (upd Z2c 6 (.pt 1 0)) (updO (updO (updO (updO (updO (updO (updO noOb 1 (.live ⟨[.one, .sl 4 0 ((mkSecsK d c k2).length), .sl 5 0 (partN jn k3), .q ePnt (mkPts d), vN, .i 0, .i 0, .i 0, .i 0, .i 0], 39, 1⟩)) 2 (.live ⟨(Z1e d c y g r t w jn), 25, 1⟩)) 3 (.live ⟨[vN, vN, vN, vN, vN, .i 0, .i 0, .i 0, .i 0, .i 0], 39, 1⟩)) 4 (.live (Z1o d c k2))) 5 (.live ⟨(enc eIL (partD jn (k3 + 1)) ++ [.sl 6 0 ((partD.partT jn (k3 + 1)).length)]), 48, 1⟩)) 6 (.live ⟨(enc eI (partD.partT jn (k3 + 1))), 3, 1⟩)) 1 (.live ⟨[.one, .sl 4 0 ((mkSecsK d c k2).length), .sl 5 0 (partN jn k3), .q ePnt (mkPts d), vN, .i (1 + (y % (2 * (10 * (1 + (c % 20)))))), .i 0, .i 0, .i 0, .i 0], 39, 1⟩)) ?_
 refine awp_seq ?_
 refine awp_drawY (m := 26) (fun b => (updO (updO (updO (updO (updO (updO (updO noOb 1 (.live ⟨[.one, .sl 4 0 ((mkSecsK d c k2).length), .sl 5 0 (partN jn k3), .q ePnt (mkPts d), vN, .i 0, .i 0, .i 0, .i 0, .i 0], 39, 1⟩)) 2 (.live ⟨(Z1e d c y g r t w jn), 25, 1⟩)) 3 (.live ⟨[vN, vN, vN, vN, vN, .i 0, .i 0, .i 0, .i 0, .i 0], 39, 1⟩)) 4 (.live (Z1o d c k2))) 5 (.live ⟨(enc eIL (partD jn (k3 + 1)) ++ [.sl 6 0 ((partD.partT jn (k3 + 1)).length)]), 48, 1⟩)) 6 (.live ⟨(enc eI (partD.partT jn (k3 + 1))), 3, 1⟩)) 1 (.live ⟨[.one, .sl 4 0 ((mkSecsK d c k2).length), .sl 5 0 (partN jn k3), .q ePnt (mkPts d), vN, .i (1 + (y % (2 * (10 * (1 + (c % 20)))))), (cond (b 19) (.i (1 + (g % 1000))) (.i 0)), (cond (b 21) (.i (1 + (r % 1000))) (.i 0)), (cond (b 23) (.i (1 + t)) (.i 0)), (cond (b 25) (.i (w % 4)) (.i 0))], 39, 1⟩))) (updO (updO (updO (updO (updO (updO (updO noOb 1 (.live ⟨[.one, .sl 4 0 ((mkSecsK d c k2).length), .sl 5 0 (partN jn k3), .q ePnt (mkPts d), vN, .i 0, .i 0, .i 0, .i 0, .i 0], 39, 1⟩)) 2 (.live ⟨(Z1e d c y g r t w jn), 25, 1⟩)) 3 (.live ⟨[vN, vN, vN, vN, vN, .i 0, .i 0, .i 0, .i 0, .i 0], 39, 1⟩)) 4 (.live (Z1o d c k2))) 5 (.live ⟨(enc eIL (partD jn (k3 + 1)) ++ [.sl 6 0 ((partD.partT jn (k3 + 1)).length)]), 48, 1⟩)) 6 (.live ⟨(enc eI (partD.partT jn (k3 + 1))), 3, 1⟩)) 1 (.live ⟨[.one, .sl 4 0 ((mkSecsK d c k2).length), .sl 5 0 (partN jn k3), .q ePnt (mkPts d), vN, .i (1 + (y % (2 * (10 * (1 + (c % 20)))))), .i (1 + (g % 1000)), .i (1 + (r % 1000)), .i (1 + t), .i (w % 4)], 39, 1⟩)) [19, 21, 23, 25] rfl (fun b b' h => by simp only [h 19 (by decide), h 21 (by decide), h 23 (by decide), h 25 (by decide)]) (fun b h => by simp only [h 19 (by decide), h 21 (by decide), h 23 (by decide), h 25 (by decide), cond_true]) [(248, .pt 1 9), (247, .pt 1 8), (246, .pt 1 7), (245, .pt 1 6), (244, .i (w % 4)), (243, .v (.int .u8 (w % 4))), (242, .v (.int .u8 w)), (241, .pt 2 6), (240, .i (1 + t)), (239, .i t), (238, .v (.int .u8 t)), (237, .pt 2 5), (236, .i (1 + (r % 1000))), (235, .i (r % 1000)), (234, .v (.int .u16 (r % 1000))), (233, .v (.int .u16 r)), (232, .pt 2 4), (231, .i (1 + (g % 1000))), (230, .i (g % 1000)), (229, .v (.int .u16 (g % 1000))), (228, .v (.int .u16 g)), (227, .pt 2 3)] mixed (by kernel_rfl) ?_ ?_
 ·iterate 26 (refine ⟨?_, ?_⟩; rotate_left)
  trivial
  ·exact sy_pure (by decide) (fun b => sF (.pt 2 0) (.pt 2 3) ft25_3 sz22)
  ·exact sy_pure (by decide) (fun b => sL ag22)
  ·exact sy_pure (by decide) (fun b => dW 229 fun st hob hE => aop_binI (u := (.int .u16 (g % 1000))) rfl rfl rfl (hE 228 rfl) rfl (by show _ ≠ _; decide) (remI om) (by rw [hob]; rfl))
  ·exact sy_pure (by decide) (fun b => dW 230 fun st hob hE => aop_conv' rfl rfl rfl ut22 ut2 (hE 229 rfl) (IntWalk.i64_in _ om) (by rw [hob]; rfl))
  ·exact sy_pure (by decide) (fun b => sB (.int .i64 (1 + (g % 1000))) (addI om))
  ·exact sy_pure (by decide) (fun b => sF (.pt 2 0) (.pt 2 4) ft25_4 sz22)
  ·exact sy_pure (by decide) (fun b => sL ag22)
  ·exact sy_pure (by decide) (fun b => dW 234 fun st hob hE => aop_binI (u := (.int .u16 (r % 1000))) rfl rfl rfl (hE 233 rfl) rfl (by show _ ≠ _; decide) (remI om) (by rw [hob]; rfl))
  ·exact sy_pure (by decide) (fun b => dW 235 fun st hob hE => aop_conv' rfl rfl rfl ut22 ut2 (hE 234 rfl) (IntWalk.i64_in _ om) (by rw [hob]; rfl))
  ·exact sy_pure (by decide) (fun b => sB (.int .i64 (1 + (r % 1000))) (addI om))
  ·exact sy_pure (by decide) (fun b => sF (.pt 2 0) (.pt 2 5) ft25_5 sz5)
  ·exact sy_pure (by decide) (fun b => sL ag5)
  ·exact sy_pure (by decide) (fun b => dW 239 fun st hob hE => aop_conv' rfl rfl rfl ut5 ut2 (hE 238 rfl) (IntWalk.i64_in _ om) (by rw [hob]; rfl))
  ·exact sy_pure (by decide) (fun b => sB (.int .i64 (1 + t)) (addI om))
  ·exact sy_pure (by decide) (fun b => sF (.pt 2 0) (.pt 2 6) ft25_6 sz5)
  ·exact sy_pure (by decide) (fun b => sL ag5)
  ·exact sy_pure (by decide) (fun b => dW 243 fun st hob hE => aop_binI (u := (.int .u8 (w % 4))) rfl rfl rfl (hE 242 rfl) rfl (by show _ ≠ _; decide) (remI om) (by rw [hob]; rfl))
  ·exact sy_pure (by decide) (fun b => dW 244 fun st hob hE => aop_conv' rfl rfl rfl ut5 ut2 (hE 243 rfl) (IntWalk.i64_in _ om) (by rw [hob]; rfl))
  ·exact sy_pure (by decide) (fun b => sF (.pt 1 0) (.pt 1 6) ft39_6 sz2)
  ·exact sy_fx (by decide) ⟨rfl, rfl, fun b hb st hob hE => by obtain ⟨en_, ob_⟩ := st; have hob_ : ob_ = _ := hob; subst hob_; exact aop_store (av := .i (1 + (g % 1000))) (cs := [.i (1 + (g % 1000))]) rfl rfl rfl sz2 (hE 245 rfl) rfl (hE 231 rfl) rfl rfl (Nat.le_of_ble_eq_true rfl) rfl rfl ⟨rfl, updO_pt rfl (fun j hj => by have hb1 := nbeq_ne hj; simp only [updO, hb1, cond_false])⟩⟩
  ·exact sy_pure (by decide) (fun b => sF (.pt 1 0) (.pt 1 7) ft39_7 sz2)
  ·exact sy_fx (by decide) ⟨rfl, rfl, fun b hb st hob hE => by obtain ⟨en_, ob_⟩ := st; have hob_ : ob_ = _ := hob; subst hob_; exact aop_store (av := .i (1 + (r % 1000))) (cs := [.i (1 + (r % 1000))]) rfl rfl rfl sz2 (hE 246 rfl) rfl (hE 236 rfl) rfl rfl (Nat.le_of_ble_eq_true rfl) rfl rfl ⟨rfl, updO_pt rfl (fun j hj => by have hb1 := nbeq_ne hj; simp only [updO, hb1, cond_false])⟩⟩
  ·exact sy_pure (by decide) (fun b => sF (.pt 1 0) (.pt 1 8) ft39_8 sz2)
  ·exact sy_fx (by decide) ⟨rfl, rfl, fun b hb st hob hE => by obtain ⟨en_, ob_⟩ := st; have hob_ : ob_ = _ := hob; subst hob_; exact aop_store (av := .i (1 + t)) (cs := [.i (1 + t)]) rfl rfl rfl sz2 (hE 247 rfl) rfl (hE 240 rfl) rfl rfl (Nat.le_of_ble_eq_true rfl) rfl rfl ⟨rfl, updO_pt rfl (fun j hj => by have hb1 := nbeq_ne hj; simp only [updO, hb1, cond_false])⟩⟩
  ·exact sy_pure (by decide) (fun b => sF (.pt 1 0) (.pt 1 9) ft39_9 sz2)
  exact sy_fx (by decide) ⟨rfl, rfl, fun b hb st hob hE => by obtain ⟨en_, ob_⟩ := st; have hob_ : ob_ = _ := hob; subst hob_; exact aop_store (av := .i (w % 4)) (cs := [.i (w % 4)]) rfl rfl rfl sz2 (hE 248 rfl) rfl (hE 244 rfl) rfl rfl (Nat.le_of_ble_eq_true rfl) rfl rfl ⟨rfl, updO_pt rfl (fun j hj => by have hb1 := nbeq_ne hj; simp only [updO, hb1, cond_false])⟩⟩
 refine op0 ?_
 refine seqR ?_
 refine oG (qLB [.one, .sl 4 0 ((mkSecsK d c k2).length), .sl 5 0 (partN jn k3), .q ePnt (mkPts d), vN, .i (1 + (y % (2 * (10 * (1 + (c % 20)))))), .i (1 + (g % 1000)), .i (1 + (r % 1000)), .i (1 + t), .i (w % 4)] ag39 sz39 ?_)
 refine oG (qS sz39 ?_)
 refine op0 ?_
 refine awp_imp _ ((frz_ [3] [(3, ⟨[.one, .q eSec (mkSecsK d c k2), .ro (partN jn k3) (enc eIL (partD jn (k3 + 1)) ++ [.q eI (partD.partT jn (k3 + 1))]), .q ePnt (mkPts d), vN, .i (1 + (y % (2 * (10 * (1 + (c % 20)))))), .i (1 + (g % 1000)), .i (1 + (r % 1000)), .i (1 + t), .i (w % 4)], 39, 1⟩)] rfl (fun _ h => h) ⟨keep_cells (cs := [.one, .sl 4 0 ((mkSecsK d c k2).length), .sl 5 0 (partN jn k3), .q ePnt (mkPts d), vN, .i (1 + (y % (2 * (10 * (1 + (c % 20)))))), .i (1 + (g % 1000)), .i (1 + (r % 1000)), .i (1 + t), .i (w % 4)]) (by simp) rfl rfl (frzs_cons (.inl rfl) (frzs_cons (.inr (lend_s (id := 4) (n := (mkSecsK d c k2).length) (o := (Z1o d c k2)) rfl (enc_len (fun _ => rfl) (by first | rfl | (simp; done))))) (frzs_cons (.inr (lend_last (id := 5) (j := 6) (pre := enc eIL (partD jn (k3 + 1))) (cs := (enc eI (partD.partT jn (k3 + 1)))) rfl rfl (enc_len (fun _ => rfl) rfl) (by simp [enc_length (f := eIL) (s := 1) (fun _ => rfl), partN]))) fzA))), trivial⟩ (fz_same 2 (.pt 3 0) rfl fz_none))) ?_
 refine awp_ret ?_
 exact fretC (p := 2) rfl rfl ag39 sz39 rfl rfl (Nat.le_of_ble_eq_true rfl) rfl (by rw [mkSecs_end hk2, parts_len hk3, parts_enc hk3]; rfl)
theorem ag23 : aggT Try.prog 23 = some false := by kernel_rfl
theorem ag25 : aggT Try.prog 25 = some true := by kernel_rfl
theorem ag27 : aggT Try.prog 27 = some false := by kernel_rfl
theorem bd25 : bodied Try.prog 25 = true := by kernel_rfl
theorem bd27 : bodied Try.prog 27 = true := by kernel_rfl
theorem ft25_8 : fieldT Try.prog 25 8 = some (23, 8) := by kernel_rfl
theorem ft39_4 : fieldT Try.prog 39 4 = some (36, 4) := by kernel_rfl
theorem sz23 : (Try.prog.info? 23).map (·.size) = some 1 := by kernel_rfl
theorem sz25 : (Try.prog.info? 25).map (·.size) = some 9 := by kernel_rfl
theorem sz27 : (Try.prog.info? 27).map (·.size) = some 1 := by kernel_rfl
theorem ut23 : Try.prog.underlying 23 = some (.slice 27) := by kernel_rfl
abbrev Z2e (k : Nat) : Nat → AV := (upd (upd (upd none_ 1 (.pt 1 0)) 2 (.b false)) 3 (.i (k : Int)))
abbrev Z2d (rs : List (List Int)) : LObj := ⟨[.one, .one, .one, .one, .one, .one, .one, .one, .q eUL rs], 25, 1⟩
theorem r04_Small (rs : List (List Int)) (hn : rs.length ≤ 9223372036854775807) : Fn Try.prog 11 [.agg [.one, .one, .one, .one, .one, .one, .one, .one, .ro rs.length (enc eUL rs)]] (.v (.bool (smallB rs))) := by
 refine fnE_of_body (N := 22) Try.func11 rfl rfl (resOf1 rfl) (by simp) (fun w0 X hL_ => ?_)
 refine seqR ?_
 refine oG (qW 51 ?_)
 refine mG (.b false) ?_
 refine op0 ?_
 refine awp_seq ?_
 refine seqR ?_
 refine mG (.i 0) ?_
 refine op0 ?_
 refine awp_block ?_
 refine awp_countI (fun k => ⟨(Z2e k), (updO noOb 1 (.live (Z2d rs)))⟩) (fun k => (rs.take k).any (fun x => decide (x.length > 10)) = false) (rs.length) ?_ (by simp) (fun k hk_k hinv => ?_)
 ·skip
  exact iI 51 1 (o := (Z2d rs)) rfl
 refine awp_seq ?_
 refine seqR ?_
 refine mG (.i (k : Int)) ?_
 refine fG (.pt 1 8) ft25_8 sz23 ?_
 refine oG (qL (.q eUL rs) ag23 ?_)
 refine oG (qN ut23 ?_)
 refine bG ((.bool (decide ((k : Int) < (rs.length : Int))))) ?_
 refine rU (upd (Z2e k) 8 (.b (decide ((k : Int) < (rs.length : Int))))) (updO noOb 1 (.live (Z2d rs))) ?_
 refine awp_cond (decide ((k : Int) < (rs.length : Int))) rfl rfl (fun hc0 => ?_) (fun hc0 => ?_)
 ·skip
  have hf1 := of_decide_eq_true hc0
  refine awp_skip ?_
  refine awp_seq ?_
  refine awp_block ?_
  refine seqR ?_
  refine fG (.pt 1 8) ft25_8 sz23 ?_
  refine oG (qL (.q eUL rs) ag23 ?_)
  refine mG (.i (k : Int)) ?_
  refine oG (qX [] ut23 sz27 ?_)
  refine oG (qL (.q eU8 (rs.getD k [])) ag27 ?_)
  refine oG (qN ut27 ?_)
  refine bG ((.bool (decide (((rs.getD k []).length : Int) > 10)))) ?_
  refine rU (upd (Z2e k) 17 (.b (decide (((rs.getD k []).length : Int) > 10)))) (updO noOb 1 (.live (Z2d rs))) ?_
  refine awp_cond (decide (((rs.getD k []).length : Int) > 10)) rfl rfl (fun hc1 => ?_) (fun hc1 => ?_)
  ·skip
   have hf2 := of_decide_eq_true hc1
   refine seqR ?_
   refine mG (.b false) ?_
   refine op0 ?_
   refine awp_ret ?_
   exact fret (av := .v (.bool false)) rfl rfl (by rw [smallB_big (k := k) om (by simp at hc1 ⊢; omega)])
  have hf3 := of_decide_eq_false hc1
  refine awp_skip ?_
  refine regR ?_
  refine mG (.i (k : Int)) ?_
  refine oG (qB (.int .i64 ((k + 1 : Nat) : Int)) (addN om) ?_)
  refine mG (.i ((k + 1 : Nat) : Int)) ?_
  refine op0 ?_
  show _ ∧ _
  refine ⟨by omega, (any_step [] om hinv (by simp at hc1 ⊢; omega)), ?_⟩
  exact iI 1 1 rfl
 have hf4 := of_decide_eq_false hc0
 refine awp_exit ?_
 refine seqR ?_
 refine fG (.pt 1 8) ft25_8 sz23 ?_
 refine oG (qL (.q eUL rs) ag23 ?_)
 refine oG (qN ut23 ?_)
 refine bG ((.bool (decide ((rs.length : Int) ≤ 20)))) ?_
 refine mG (.b (decide ((rs.length : Int) ≤ 20))) ?_
 refine rU (upd none_ 2 (.b (decide ((rs.length : Int) ≤ 20)))) (updO noOb 1 (.live (Z2d rs))) ?_
 refine awp_ret ?_
 exact fret (av := .v (.bool (decide ((rs.length : Int) ≤ 20)))) rfl rfl (by rw [smallB_end (k := k) om hinv]; simp; omega)
end Go.Lo
