/- Walks of Go functions in the logic of values: what the law reaches. -/
import Derived.Test.YtdeajfldegcdaaaPFnLsqSo
import Derived.Test.YtdeajfldegcdaaaProg
import Derived.Test.YtdeajfldegcdaaaPFnLsqLoX
import Derived.KernelRfl
import Derived.Test.YtdeajfldegcdaaaPFnLsqDef
import Derived.Test.YtdeajfldegcdaaaPFnLsqLay
import Derived.Test.YtdeajfldegcdaaaPFnLsqGr
import Derived.Test.YtdeajfldegcdaaaPFnLsqPa
import Derived.Test.YtdeajfldegcdaaaPFnLsqSt
import Derived.Test.YtdeajfldegcdaaaPFnLsqDr
import Derived.Test.YtdeajfldegcdaaaPFnLsqTr
import Derived.Test.YtdeajfldegcdaaaPFnLsqTk
import Derived.Test.YtdeajfldegcdaaaPFnLsqAc
import Derived.Test.YtdeajfldegcdaaaPFnLsqTu
set_option linter.unusedVariables false
set_option linter.unusedSimpArgs false
set_option maxRecDepth 10000
set_option maxHeartbeats 16000000
namespace Go.Lo
open Go.Proofs
theorem ag3 : aggT Try.prog 3 = some false := by kernel_rfl
theorem ag4 : aggT Try.prog 4 = some false := by kernel_rfl
theorem ag79 : aggT Try.prog 79 = some true := by kernel_rfl
theorem bd22 : bodied Try.prog 22 = true := by kernel_rfl
theorem ft79_0 : fieldT Try.prog 79 0 = some (3, 0) := by kernel_rfl
theorem ft79_1 : fieldT Try.prog 79 1 = some (4, 1) := by kernel_rfl
theorem in4 : (Try.prog.info? 4).map (fun i => (i.zero, i.size, i.bytes)) = some (some (.bool false), 1, 1) := by kernel_rfl
theorem in79 : (Try.prog.info? 79).map (fun i => (i.zero, i.size, i.bytes)) = some (some (.agg #[(.int .i64 0), (.bool false)]), 2, 16) := by kernel_rfl
theorem iz4 : (Try.prog.info? 4).map (fun i => (i.zero, i.size)) = some (some (.bool false), 1) := by kernel_rfl
theorem iz79 : (Try.prog.info? 79).map (fun i => (i.zero, i.size)) = some (some (.agg #[(.int .i64 0), (.bool false)]), 2) := by kernel_rfl
theorem sz3 : (Try.prog.info? 3).map (·.size) = some 1 := by kernel_rfl
theorem sz4 : (Try.prog.info? 4).map (·.size) = some 1 := by kernel_rfl
theorem sz79 : (Try.prog.info? 79).map (·.size) = some 2 := by kernel_rfl
theorem ut38 : Try.prog.underlying 38 = some (.slice 4) := by kernel_rfl
theorem ut42 : Try.prog.underlying 42 = some (.slice 3) := by kernel_rfl
theorem ut72 : Try.prog.underlying 72 = some (.slice 79) := by kernel_rfl
theorem ze79 : (Try.prog.info? 79).bind (·.zero) = some (.agg #[(.int .i64 0), (.bool false)]) := by kernel_rfl
theorem p_has (a : List Bool) (p : Int) (hl : a.length ≤ 4294967296) : Fn Try.prog 55 [.ro a.length (enc eB a), .v (.int .i64 p)] (.v (.bool (hasB a p))) := by
 refine fnE_of_body (N := 19) Try.func55 rfl rfl (resOf1 rfl) (by simp) (fun w0 X hL_ => ?_)
 refine seqR ?_
 refine mG (.b false) ?_
 refine op0 ?_
 refine seqR ?_
 refine mG (.i p) ?_
 refine bG ((.bool (decide (p ≥ 0)))) ?_
 refine mG (.b (decide (p ≥ 0))) ?_
 refine aops_grp 5 12 (.b ((decide (p ≥ 0)) && (decide (p < (a.length : Int))))) ?_ ?_
 ·refine (Bool.eq_false_or_eq_true (decide (p ≥ 0))).elim (fun hg1 => ?_) (fun hg1 => ?_)
  ·skip
   have hf2 := of_decide_eq_true hg1
   refine oY hg1 (qM (.i p) ?_)
   refine oY hg1 (qM (.q eB a) ?_)
   refine oY hg1 (qN ut38 ?_)
   refine oY hg1 (qB (.bool (decide (p < (a.length : Int)))) rfl ?_)
   refine oG (qP (decide (p ≥ 0)) (.b (decide (p < (a.length : Int)))) hg1 ?_)
   refine op0 ?_
   exact imp_env (lee_both 12 _ _ (by rw [hg1] <;> rfl) lO)
  have hf3 := of_decide_eq_false hg1
  refine nG hg1 ?_
  refine nG hg1 ?_
  refine nG hg1 ?_
  refine nG hg1 ?_
  refine oG (qP (decide (p ≥ 0)) (.b false) hg1 ?_)
  refine op0 ?_
  exact imp_env (lee_both 12 _ _ (by rw [hg1] <;> rfl) lO)
 refine mG (.b ((decide (p ≥ 0)) && (decide (p < (a.length : Int))))) ?_
 refine aops_grp 5 18 (.b (((decide (p ≥ 0)) && (decide (p < (a.length : Int)))) && (a.getD p.toNat false))) ?_ ?_
 ·refine (Bool.eq_false_or_eq_true ((decide (p ≥ 0)) && (decide (p < (a.length : Int))))).elim (fun hg4 => ?_) (fun hg4 => ?_)
  ·skip
   obtain ⟨hf5a, hf5b⟩ := and_t hg4
   have hf6 := of_decide_eq_true hf5a
   have hf7 := of_decide_eq_true hf5b
   refine oY hg4 (qM (.q eB a) ?_)
   refine oY hg4 (qM (.i p) ?_)
   refine oY hg4 (aop_ixI false rfl rfl rfl ut38 sz4 rfl rfl (fun _ => rfl) rfl om oo ?_)
   refine oY hg4 (qL (.b (a.getD p.toNat false)) ag4 ?_)
   refine oG (qP ((decide (p ≥ 0)) && (decide (p < (a.length : Int)))) (.b (a.getD p.toNat false)) hg4 ?_)
   refine op0 ?_
   exact imp_env (lee_both 18 _ _ (by rw [hg4] <;> rfl) lO)
  refine nG hg4 ?_
  refine nG hg4 ?_
  refine nG hg4 ?_
  refine nG hg4 ?_
  refine oG (qP ((decide (p ≥ 0)) && (decide (p < (a.length : Int)))) (.b false) hg4 ?_)
  refine op0 ?_
  exact imp_env (lee_both 18 _ _ (by rw [hg4] <;> rfl) lO)
 refine mG (.b (((decide (p ≥ 0)) && (decide (p < (a.length : Int)))) && (a.getD p.toNat false))) ?_
 refine op0 ?_
 refine rT (upd none_ 4 (.b (((decide (p ≥ 0)) && (decide (p < (a.length : Int)))) && (a.getD p.toNat false)))) noOb ?_
 refine awp_ret ?_
 exact fret (av := .v (.bool (((decide (p ≥ 0)) && (decide (p < (a.length : Int)))) && (a.getD p.toNat false)))) rfl rfl rfl
theorem r01_Has (l : List Int) (n : Int) (hl : l.length ≤ 4294967296) : Fn Try.prog 18 [.ro l.length (enc eI l), .v (.int .i64 n)] (.v (.bool (decide (n ∈ l)))) := by
 refine fnE_of_body (N := 18) Try.func18 rfl rfl (resOf1 rfl) (by simp) (fun w0 X hL_ => ?_)
 refine seqR ?_
 refine mG (.b false) ?_
 refine op0 ?_
 refine awp_seq ?_
 refine seqR ?_
 refine mG (.i 0) ?_
 refine op0 ?_
 refine awp_block ?_
 refine awp_countI (fun k => ⟨(upd (upd (upd (upd none_ 0 (.q eI l)) 1 (.i n)) 4 (.b false)) 5 (.i (k : Int))), noOb⟩) (fun k => n ∉ l.take k) (l.length) ?_ (by simp) (fun k hk_k hinv => ?_)
 ·skip
  exact iN
 refine awp_seq ?_
 refine seqR ?_
 refine mG (.i (k : Int)) ?_
 refine mG (.q eI l) ?_
 refine oG (qN ut42 ?_)
 refine bG ((.bool (decide ((k : Int) < (l.length : Int))))) ?_
 refine rU (upd (upd (upd (upd (upd none_ 0 (.q eI l)) 1 (.i n)) 4 (.b false)) 5 (.i (k : Int))) 9 (.b (decide ((k : Int) < (l.length : Int))))) noOb ?_
 refine awp_cond (decide ((k : Int) < (l.length : Int))) rfl rfl (fun hc0 => ?_) (fun hc0 => ?_)
 ·skip
  have hf1 := of_decide_eq_true hc0
  refine awp_skip ?_
  refine awp_seq ?_
  refine awp_block ?_
  refine seqR ?_
  refine mG (.q eI l) ?_
  refine mG (.i (k : Int)) ?_
  refine oG (qX (0 : Int) ut42 sz3 ?_)
  refine oG (qL (.i (l.getD k 0)) ag3 ?_)
  refine mG (.i n) ?_
  refine bG ((.bool ((l.getD k 0) == n))) ?_
  refine rU (upd (upd (upd (upd (upd none_ 0 (.q eI l)) 1 (.i n)) 4 (.b false)) 5 (.i (k : Int))) 17 (.b ((l.getD k 0) == n))) noOb ?_
  refine awp_cond ((l.getD k 0) == n) rfl rfl (fun hc1 => ?_) (fun hc1 => ?_)
  ·skip
   have hf2 := (beq_iff_eq).1 hc1
   have heq := (beq_iff_eq).1 hc1
   refine seqR ?_
   refine mG (.b true) ?_
   refine op0 ?_
   refine awp_ret ?_
   exact fret (av := .v (.bool true)) rfl rfl (by rw [has_stop om heq] <;> rfl)
  have hf3 := (beq_eq_false_iff_ne).1 hc1
  have hne := (beq_eq_false_iff_ne).1 hc1
  refine awp_skip ?_
  refine regR ?_
  refine mG (.i (k : Int)) ?_
  refine oG (qB (.int .i64 ((k + 1 : Nat) : Int)) (addN om) ?_)
  refine mG (.i ((k + 1 : Nat) : Int)) ?_
  refine op0 ?_
  show _ ∧ _
  refine ⟨by omega, (has_step (d := 0) om hinv hne), ?_⟩
  exact iN
 have hf4 := of_decide_eq_false hc0
 refine awp_exit ?_
 refine seqR ?_
 refine mG (.b false) ?_
 refine op0 ?_
 refine awp_ret ?_
 exact fret (av := .v (.bool false)) rfl rfl (by rw [has_end om hinv] <;> rfl)
theorem cl_B (l : List Bool) (hl : l.length ≤ 4294967296) : FnO Try.prog 22 [.ro l.length (enc eB l)] (.sl 0 0 l.length) [⟨(enc eB l), 4, 1⟩] := by
 refine fnE_of_body (N := 8) Try.func22 rfl rfl (resOf1 rfl) (by simp) (fun w0 X hL_ => ?_)
 refine seqR ?_
 refine mG vN ?_
 refine op0 ?_
 refine awp_seq ?_
 refine seqR ?_
 refine mG (.q eB l) ?_
 refine oG (aop_slNil rfl rfl rfl ut38 rfl rfl (.inl rfl) (fun b4_ hb4_ => ?_))
 refine op0 ?_
 refine awp_cond b4_ rfl rfl (fun hc0 => ?_) (fun hc0 => ?_)
 ·skip
  have h0 : l.length = 0 := Decidable.byContradiction fun h => by have := hb4_ h; rw [hc0] at this; cases this
  refine seqR ?_
  refine mG vN ?_
  refine rU (upd (upd none_ 0 (.q eB l)) 2 vN) noOb ?_
  refine awp_imp _ (imp_adopt 2 51 4 1 rfl rfl) ?_
  refine awp_ret ?_
  exact fretO 51 rfl rfl rfl h0.symm (by rw [List.length_eq_zero_iff.1 h0]; rfl)
 refine awp_skip ?_
 refine seqR ?_
 refine oG (aop_litO 52 rfl rfl rfl ut38 iz4 (by decide) (by decide) rfl rfl rfl rfl ?_)
 refine mG (.q eB l) ?_
 refine oG (aop_appE (f := eB) (l := ([] : List Bool)) (l2 := l) 53 rfl rfl rfl rfl ut38 in4 rfl (by decide) rfl rfl rfl rfl rfl rfl (fun _ => rfl) rfl rfl rfl oo oo rfl ?_)
 refine mG (.sl 53 0 ((([] : List Bool) ++ l).length)) ?_
 refine rU (upd none_ 2 (.sl 53 0 ((([] : List Bool) ++ l).length))) (updO (updO (updO noOb 52 (.live ⟨[], 4, 1⟩)) 52 .dead) 53 (.live ⟨(enc eB (([] : List Bool) ++ l)), 4, 1⟩)) ?_
 refine awp_ret ?_
 exact fretO 53 rfl rfl rfl rfl rfl
theorem cl_N (l : List Need) (hl : l.length ≤ 4294967296) : FnO Try.prog 50 [.ro l.length (enc eN l)] (.sl 0 0 l.length) [⟨(enc eN l), 79, 2⟩] := by
 refine fnE_of_body (N := 8) Try.func50 rfl rfl (resOf1 rfl) (by simp) (fun w0 X hL_ => ?_)
 refine seqR ?_
 refine mG vN ?_
 refine op0 ?_
 refine awp_seq ?_
 refine seqR ?_
 refine mG (.q eN l) ?_
 refine oG (aop_slNil rfl rfl rfl ut72 rfl rfl (.inl rfl) (fun b4_ hb4_ => ?_))
 refine op0 ?_
 refine awp_cond b4_ rfl rfl (fun hc0 => ?_) (fun hc0 => ?_)
 ·skip
  have h0 : l.length = 0 := Decidable.byContradiction fun h => by have := hb4_ h; rw [hc0] at this; cases this
  refine seqR ?_
  refine mG vN ?_
  refine rU (upd (upd none_ 0 (.q eN l)) 2 vN) noOb ?_
  refine awp_imp _ (imp_adopt 2 51 79 2 rfl rfl) ?_
  refine awp_ret ?_
  exact fretO 51 rfl rfl rfl h0.symm (by rw [List.length_eq_zero_iff.1 h0]; rfl)
 refine awp_skip ?_
 refine seqR ?_
 refine oG (aop_litO 52 rfl rfl rfl ut72 iz79 (by decide) (by decide) rfl rfl rfl rfl ?_)
 refine mG (.q eN l) ?_
 refine oG (aop_appE (f := eN) (l := ([] : List Need)) (l2 := l) 53 rfl rfl rfl rfl ut72 in79 rfl (by decide) rfl rfl rfl rfl rfl rfl (fun _ => rfl) rfl rfl rfl oo oo rfl ?_)
 refine mG (.sl 53 0 ((([] : List Need) ++ l).length)) ?_
 refine rU (upd none_ 2 (.sl 53 0 ((([] : List Need) ++ l).length))) (updO (updO (updO noOb 52 (.live ⟨[], 79, 2⟩)) 52 .dead) 53 (.live ⟨(enc eN (([] : List Need) ++ l)), 79, 2⟩)) ?_
 refine awp_ret ?_
 exact fretO 53 rfl rfl rfl rfl rfl
theorem ag100 : aggT Try.prog 100 = some true := by kernel_rfl
theorem ag29 : aggT Try.prog 29 = some false := by kernel_rfl
theorem ag31 : aggT Try.prog 31 = some false := by kernel_rfl
theorem ag33 : aggT Try.prog 33 = some true := by kernel_rfl
theorem ag5 : aggT Try.prog 5 = some false := by kernel_rfl
theorem ag96 : aggT Try.prog 96 = some true := by kernel_rfl
theorem bd18 : bodied Try.prog 18 = true := by kernel_rfl
theorem bd42 : bodied Try.prog 42 = true := by kernel_rfl
theorem bd63 : bodied Try.prog 63 = true := by kernel_rfl
theorem bd64 : bodied Try.prog 64 = true := by kernel_rfl
theorem bd65 : bodied Try.prog 65 = true := by kernel_rfl
theorem bd66 : bodied Try.prog 66 = true := by kernel_rfl
theorem es100 : eqT2 Try.prog 100 = some (3, 3) := by kernel_rfl
theorem ft100_0 : fieldT Try.prog 100 0 = some (3, 0) := by kernel_rfl
theorem ft100_1 : fieldT Try.prog 100 1 = some (3, 1) := by kernel_rfl
theorem ft33_1 : fieldT Try.prog 33 1 = some (29, 1) := by kernel_rfl
theorem ft33_3 : fieldT Try.prog 33 3 = some (31, 3) := by kernel_rfl
theorem ft96_0 : fieldT Try.prog 96 0 = some (3, 0) := by kernel_rfl
theorem ft96_1 : fieldT Try.prog 96 1 = some (3, 1) := by kernel_rfl
theorem ft96_2 : fieldT Try.prog 96 2 = some (3, 2) := by kernel_rfl
theorem ft96_3 : fieldT Try.prog 96 3 = some (3, 3) := by kernel_rfl
theorem ft98_1 : fieldT Try.prog 98 1 = some (3, 1) := by kernel_rfl
theorem ft98_2 : fieldT Try.prog 98 2 = some (3, 2) := by kernel_rfl
theorem in100 : (Try.prog.info? 100).map (fun i => (i.zero, i.size, i.bytes)) = some (some (.agg #[(.int .i64 0), (.int .i64 0)]), 2, 16) := by kernel_rfl
theorem in3 : (Try.prog.info? 3).map (fun i => (i.zero, i.size, i.bytes)) = some (some (.int .i64 0), 1, 8) := by kernel_rfl
theorem iz100 : (Try.prog.info? 100).map (fun i => (i.zero, i.size)) = some (some (.agg #[(.int .i64 0), (.int .i64 0)]), 2) := by kernel_rfl
theorem iz3 : (Try.prog.info? 3).map (fun i => (i.zero, i.size)) = some (some (.int .i64 0), 1) := by kernel_rfl
theorem mixed : Try.prog.follows .mixedOrders = true := by kernel_rfl
theorem pl100 : placesOf Try.prog 100 = some ((.agg #[(.int .i64 0), (.int .i64 0)]), fun i => ([(0, 1), (1, 1)] : List (Nat × Nat)).toArray[i]?) := by kernel_rfl
theorem sz100 : (Try.prog.info? 100).map (·.size) = some 2 := by kernel_rfl
theorem sz29 : (Try.prog.info? 29).map (·.size) = some 1 := by kernel_rfl
theorem sz31 : (Try.prog.info? 31).map (·.size) = some 1 := by kernel_rfl
theorem sz33 : (Try.prog.info? 33).map (·.size) = some 10 := by kernel_rfl
theorem sz5 : (Try.prog.info? 5).map (·.size) = some 1 := by kernel_rfl
theorem sz96 : (Try.prog.info? 96).map (·.size) = some 4 := by kernel_rfl
theorem sz98 : (Try.prog.info? 98).map (·.size) = some 3 := by kernel_rfl
theorem ut101 : Try.prog.underlying 101 = some (.slice 100) := by kernel_rfl
theorem ut29 : Try.prog.underlying 29 = some (.slice 98) := by kernel_rfl
theorem ut3 : Try.prog.underlying 3 = some (.int .i64) := by kernel_rfl
theorem ut31 : Try.prog.underlying 31 = some (.slice 96) := by kernel_rfl
theorem ut37 : Try.prog.underlying 37 = some (.slice 5) := by kernel_rfl
theorem ut5 : Try.prog.underlying 5 = some (.int .u8) := by kernel_rfl
theorem ze100 : (Try.prog.info? 100).bind (·.zero) = some (.agg #[(.int .i64 0), (.int .i64 0)]) := by kernel_rfl
theorem ze96 : (Try.prog.info? 96).bind (·.zero) = some (.agg #[(.int .i64 0), (.int .i64 0), (.int .i64 0), (.int .i64 0)]) := by kernel_rfl
abbrev Z2 : Nat → AV := (upd (upd none_ 2 (.pt 51 0)) 3 (.pt 52 0))
abbrev Z1 (c : List Sec) (s : Int) : AV := (.rp (([.i ((c.getD s.toNat dS).len), .i ((c.getD s.toNat dS).a), .i ((c.getD s.toNat dS).b)] : List AV) ++ ((enc eSec c).drop ((s.toNat + 1) * 3))))
abbrev Z0 (c : List Sec) (s e : Int) : Nat → OSt := (updO (updO noOb 51 (.live ⟨[.one, .q eSec c, .one, .one, .one, .one, .one, .one, .one, .one], 33, 1⟩)) 52 (.live ⟨[.i s, .i e], 100, 1⟩))
theorem r05_node (c : List Sec) (s e : Int) (hs : c.length ≤ 65536) : Fn Try.prog 63 [.agg [.one, .ro c.length (enc eSec c), .one, .one, .one, .one, .one, .one, .one, .one], .agg [.v (.int .i64 s), .v (.int .i64 e)]] (.tup [.v (.int .i64 (nodeA c s e)), .v (.bool (!noNode c s e))]) := by
 refine fnE_of_body (N := 44) Try.func63 rfl rfl (resOf2 rfl) (by simp) (fun w0 X hL_ => ?_)
 refine seqR ?_
 refine oG (qW 51 ?_)
 refine oG (qW 52 ?_)
 refine mG (.i 0) ?_
 refine mG (.b false) ?_
 refine rU (upd (upd Z2 4 (.i 0)) 5 (.b false)) (Z0 c s e) ?_
 refine awp_seq ?_
 refine seqR ?_
 refine fG (.pt 52 0) ft100_0 sz3 ?_
 refine oG (qL (.i s) ag3 ?_)
 refine bG ((.bool (decide (s < 0)))) ?_
 refine mG (.b (decide (s < 0))) ?_
 refine aops_grp 7 16 (.b ((decide (s < 0)) || (decide (s ≥ (c.length : Int))))) ?_ ?_
 ·refine (Bool.eq_false_or_eq_true (decide (s < 0))).elim (fun hg1 => ?_) (fun hg1 => ?_)
  ·skip
   have hf2 := of_decide_eq_true hg1
   refine nG hg1 ?_
   refine nG hg1 ?_
   refine nG hg1 ?_
   refine nG hg1 ?_
   refine nG hg1 ?_
   refine nG hg1 ?_
   refine oG (qP (decide (s < 0)) (.b true) hg1 ?_)
   refine op0 ?_
   exact imp_env (lee_both 16 _ _ (by rw [hg1] <;> rfl) lO)
  have hf3 := of_decide_eq_false hg1
  refine oY hg1 (qF (.pt 52 0) (.pt 52 0) ft100_0 sz3 ?_)
  refine oY hg1 (qL (.i s) ag3 ?_)
  refine oY hg1 (qF (.pt 51 0) (.pt 51 1) ft33_1 sz29 ?_)
  refine oY hg1 (qL (.q eSec c) ag29 ?_)
  refine oY hg1 (qN ut29 ?_)
  refine oY hg1 (qB (.bool (decide (s ≥ (c.length : Int)))) rfl ?_)
  refine oG (qP (decide (s < 0)) (.b (decide (s ≥ (c.length : Int)))) hg1 ?_)
  refine op0 ?_
  exact imp_env (lee_both 16 _ _ (by rw [hg1] <;> rfl) lO)
 refine mG (.b ((decide (s < 0)) || (decide (s ≥ (c.length : Int))))) ?_
 refine aops_grp 4 21 (.b (((decide (s < 0)) || (decide (s ≥ (c.length : Int)))) || (decide (e < 0)))) ?_ ?_
 ·refine (Bool.eq_false_or_eq_true ((decide (s < 0)) || (decide (s ≥ (c.length : Int))))).elim (fun hg4 => ?_) (fun hg4 => ?_)
  ·skip
   refine nG hg4 ?_
   refine nG hg4 ?_
   refine nG hg4 ?_
   refine oG (qP ((decide (s < 0)) || (decide (s ≥ (c.length : Int)))) (.b true) hg4 ?_)
   refine op0 ?_
   exact imp_env (lee_both 21 _ _ (by rw [hg4] <;> rfl) lO)
  obtain ⟨hf5a, hf5b⟩ := or_f hg4
  have hf6 := of_decide_eq_false hf5a
  have hf7 := of_decide_eq_false hf5b
  refine oY hg4 (qF (.pt 52 0) (.pt 52 1) ft100_1 sz3 ?_)
  refine oY hg4 (qL (.i e) ag3 ?_)
  refine oY hg4 (qB (.bool (decide (e < 0))) rfl ?_)
  refine oG (qP ((decide (s < 0)) || (decide (s ≥ (c.length : Int)))) (.b (decide (e < 0))) hg4 ?_)
  refine op0 ?_
  exact imp_env (lee_both 21 _ _ (by rw [hg4] <;> rfl) lO)
 refine mG (.b (((decide (s < 0)) || (decide (s ≥ (c.length : Int)))) || (decide (e < 0)))) ?_
 refine aops_grp 4 26 (.b ((((decide (s < 0)) || (decide (s ≥ (c.length : Int)))) || (decide (e < 0))) || (decide (e > 1)))) ?_ ?_
 ·refine (Bool.eq_false_or_eq_true (((decide (s < 0)) || (decide (s ≥ (c.length : Int)))) || (decide (e < 0)))).elim (fun hg8 => ?_) (fun hg8 => ?_)
  ·skip
   refine nG hg8 ?_
   refine nG hg8 ?_
   refine nG hg8 ?_
   refine oG (qP (((decide (s < 0)) || (decide (s ≥ (c.length : Int)))) || (decide (e < 0))) (.b true) hg8 ?_)
   refine op0 ?_
   exact imp_env (lee_both 26 _ _ (by rw [hg8] <;> rfl) lO)
  obtain ⟨hf9a, hf9b⟩ := or_f hg8
  obtain ⟨hf10a, hf10b⟩ := or_f hf9a
  have hf11 := of_decide_eq_false hf10a
  have hf12 := of_decide_eq_false hf10b
  have hf13 := of_decide_eq_false hf9b
  refine oY hg8 (qF (.pt 52 0) (.pt 52 1) ft100_1 sz3 ?_)
  refine oY hg8 (qL (.i e) ag3 ?_)
  refine oY hg8 (qB (.bool (decide (e > 1))) rfl ?_)
  refine oG (qP (((decide (s < 0)) || (decide (s ≥ (c.length : Int)))) || (decide (e < 0))) (.b (decide (e > 1))) hg8 ?_)
  refine op0 ?_
  exact imp_env (lee_both 26 _ _ (by rw [hg8] <;> rfl) lO)
 refine op0 ?_
 refine rT (upd (upd (upd Z2 4 (.i 0)) 5 (.b false)) 26 (.b ((((decide (s < 0)) || (decide (s ≥ (c.length : Int)))) || (decide (e < 0))) || (decide (e > 1))))) (Z0 c s e) ?_
 refine awp_cond ((((decide (s < 0)) || (decide (s ≥ (c.length : Int)))) || (decide (e < 0))) || (decide (e > 1))) rfl rfl (fun hc0 => ?_) (fun hc0 => ?_)
 ·skip
  have hn : noNode c s e = true := hc0
  refine seqR ?_
  refine mG (.i 0) ?_
  refine mG (.b false) ?_
  refine op0 ?_
  refine awp_ret ?_
  exact fret (av := .tup [.v (.int .i64 0), .v (.bool false)]) rfl rfl (by rw [nodeA_no hn, hn]; rfl)
 obtain ⟨hf14a, hf14b⟩ := or_f hc0
 obtain ⟨hf15a, hf15b⟩ := or_f hf14a
 obtain ⟨hf16a, hf16b⟩ := or_f hf15a
 have hf17 := of_decide_eq_false hf16a
 have hf18 := of_decide_eq_false hf16b
 have hf19 := of_decide_eq_false hf15b
 have hf20 := of_decide_eq_false hf14b
 have hn : noNode c s e = false := hc0
 have hb := noNode_false hn
 refine awp_skip ?_
 refine awp_seq ?_
 refine seqR ?_
 refine fG (.pt 52 1) ft100_1 sz3 ?_
 refine oG (qL (.i e) ag3 ?_)
 refine bG ((.bool (e == 0))) ?_
 refine op0 ?_
 refine awp_cond (e == 0) rfl rfl (fun hc1 => ?_) (fun hc1 => ?_)
 ·skip
  have hf21 := (beq_iff_eq).1 hc1
  refine seqR ?_
  refine fG (.pt 51 1) ft33_1 sz29 ?_
  refine oG (qL (.q eSec c) ag29 ?_)
  refine fG (.pt 52 0) ft100_0 sz3 ?_
  refine oG (qL (.i s) ag3 ?_)
  refine oG (aop_ixI dS rfl rfl rfl ut29 sz98 rfl rfl (fun _ => rfl) rfl om oo ?_)
  refine oG (qF (Z1 c s) (.rp (([.i ((c.getD s.toNat dS).a), .i ((c.getD s.toNat dS).b)] : List AV) ++ ((enc eSec c).drop ((s.toNat + 1) * 3)))) ft98_1 sz3 ?_)
  refine oG (qL (.i ((c.getD s.toNat dS).a)) ag3 ?_)
  refine mG (.i ((c.getD s.toNat dS).a)) ?_
  refine mG (.b true) ?_
  refine rU (upd (upd Z2 4 (.i ((c.getD s.toNat dS).a))) 5 (.b true)) (Z0 c s e) ?_
  refine awp_ret ?_
  exact fret (av := .tup [.v (.int .i64 ((c.getD s.toNat dS).a)), .v (.bool true)]) rfl rfl (by rw [nodeA_a hn (by simpa using hc1), hn]; rfl)
 have hf22 := (beq_eq_false_iff_ne).1 hc1
 refine awp_skip ?_
 refine seqR ?_
 refine fG (.pt 51 1) ft33_1 sz29 ?_
 refine oG (qL (.q eSec c) ag29 ?_)
 refine fG (.pt 52 0) ft100_0 sz3 ?_
 refine oG (qL (.i s) ag3 ?_)
 refine oG (aop_ixI dS rfl rfl rfl ut29 sz98 rfl rfl (fun _ => rfl) rfl om oo ?_)
 refine oG (qF (Z1 c s) (.rp (([.i ((c.getD s.toNat dS).b)] : List AV) ++ ((enc eSec c).drop ((s.toNat + 1) * 3)))) ft98_2 sz3 ?_)
 refine oG (qL (.i ((c.getD s.toNat dS).b)) ag3 ?_)
 refine mG (.i ((c.getD s.toNat dS).b)) ?_
 refine mG (.b true) ?_
 refine rU (upd (upd none_ 4 (.i ((c.getD s.toNat dS).b))) 5 (.b true)) (Z0 c s e) ?_
 refine awp_ret ?_
 exact fret (av := .tup [.v (.int .i64 ((c.getD s.toNat dS).b)), .v (.bool true)]) rfl rfl (by rw [nodeA_b hn (by simpa using hc1), hn]; rfl)
abbrev Za (c : List Sec) (k : Nat) : AV := (.rp (([.i ((c.getD k dS).b)] : List AV) ++ ((enc eSec c).drop ((k + 1) * 3))))
abbrev Z8 (c : List Sec) : LObj := ⟨[.one, .q eSec c, .one, .one, .one, .one, .one, .one, .one, .one], 33, 1⟩
abbrev Z5 (c : List Sec) (k : Nat) : AV := (.rp (([.i ((c.getD k dS).len), .i ((c.getD k dS).a), .i ((c.getD k dS).b)] : List AV) ++ ((enc eSec c).drop ((k + 1) * 3))))
abbrev Z4 (n : Int) : Nat → AV := (upd (upd (upd none_ 1 (.i n)) 2 (.pt 2 0)) 4 vN)
abbrev Z3 (c : List Sec) (n : Int) (k : Nat) : Nat → OSt := (updO (updO noOb 1 (.live ⟨(enc eEn (endsK c n k)), 100, 2⟩)) 2 (.live (Z8 c)))
abbrev Z9 (n : Int) (c : List Sec) (k : Nat) : Nat → AV := (upd (upd (Z4 n) 5 (.sl 53 0 (((endsK c n k) ++ [(⟨(k : Int), 0⟩ : En)]).length))) 6 (.i (k : Int)))
abbrev Z7 (n : Int) (c : List Sec) (k : Nat) : Nat → AV := (upd (upd (Z4 n) 5 (.sl 1 0 ((endsK c n k).length))) 6 (.i (k : Int)))
abbrev Z6 (c : List Sec) (n : Int) (k : Nat) : Nat → OSt := (updO (updO (Z3 c n k) 1 .dead) 53 (.live ⟨(enc eEn ((endsK c n k) ++ [(⟨(k : Int), 0⟩ : En)])), 100, 2⟩))
theorem r05_Ends (c : List Sec) (n : Int) (hs : c.length ≤ 65536) : Fn Try.prog 66 [.agg [.one, .ro c.length (enc eSec c), .one, .one, .one, .one, .one, .one, .one, .one], .v (.int .i64 n)] (.ro ((endsL c n).length) (enc eEn (endsL c n))) := by
 refine fnE_of_body (N := 41) Try.func66 rfl rfl (resOf1 rfl) (by simp) (fun w0 X hL_ => ?_)
 refine seqR ?_
 refine oG (qW 51 ?_)
 refine mG vN ?_
 refine op0 ?_
 refine seqR ?_
 refine mG vN ?_
 refine op0 ?_
 refine awp_seq ?_
 refine seqR ?_
 refine mG (.i 0) ?_
 refine rU (upd (upd (upd (upd (upd none_ 1 (.i n)) 2 (.pt 51 0)) 4 vN) 5 vN) 6 (.i 0)) (updO noOb 51 (.live (Z8 c))) ?_
 refine awp_block ?_
 refine awp_countI (fun k => ⟨(Z7 n c k), (Z3 c n k)⟩) (fun k => True) (c.length) ?_ trivial (fun k hk_k hinv => ?_)
 ·skip
  refine (imp_adopt 5 52 100 2 rfl rfl).trans ?_
  exact iL [(52, 1), (51, 2)] [((52, 1), .live _), ((51, 2), .live _)] ⟨row_no (o := ⟨[], 100, 2⟩) rfl rfl, row_no rfl rfl, trivial⟩
 have hle := endsK_len c n k
 refine awp_seq ?_
 refine seqR ?_
 refine mG (.i (k : Int)) ?_
 refine fG (.pt 2 1) ft33_1 sz29 ?_
 refine oG (qL (.q eSec c) ag29 ?_)
 refine oG (qN ut29 ?_)
 refine bG ((.bool (decide ((k : Int) < (c.length : Int))))) ?_
 refine rU (upd (Z7 n c k) 11 (.b (decide ((k : Int) < (c.length : Int))))) (Z3 c n k) ?_
 refine awp_cond (decide ((k : Int) < (c.length : Int))) rfl rfl (fun hc0 => ?_) (fun hc0 => ?_)
 ·skip
  have hf1 := of_decide_eq_true hc0
  refine awp_skip ?_
  refine awp_seq ?_
  refine awp_block ?_
  refine awp_seq ?_
  refine seqR ?_
  refine fG (.pt 2 1) ft33_1 sz29 ?_
  refine oG (qL (.q eSec c) ag29 ?_)
  refine mG (.i (k : Int)) ?_
  refine oG (qX dS ut29 sz98 ?_)
  refine oG (qF (Z5 c k) (.rp (([.i ((c.getD k dS).a), .i ((c.getD k dS).b)] : List AV) ++ ((enc eSec c).drop ((k + 1) * 3)))) ft98_1 sz3 ?_)
  refine oG (qL (.i ((c.getD k dS).a)) ag3 ?_)
  refine mG (.i n) ?_
  refine bG ((.bool (((c.getD k dS).a) == n))) ?_
  refine rU (upd (Z7 n c k) 21 (.b (((c.getD k dS).a) == n))) (Z3 c n k) ?_
  refine awp_cond (((c.getD k dS).a) == n) rfl rfl (fun hc1 => ?_) (fun hc1 => ?_)
  ·skip
   have hf2 := (beq_iff_eq).1 hc1
   refine regR ?_
   refine mG (.sl 1 0 ((endsK c n k).length)) ?_
   refine mG (.i (k : Int)) ?_
   refine oG (qD pl100 ?_)
   refine oG (aop_lit rfl rfl rfl ut101 iz100 (by decide) (by decide) rfl rfl ?_)
   refine oG (aop_app1 (f := eEn) (l := endsK c n k) 53 (⟨(k : Int), 0⟩ : En) rfl rfl rfl rfl ut101 in100 rfl (by decide) rfl rfl rfl rfl rfl rfl (fun _ => rfl) rfl rfl oo oo rfl ?_)
   refine mG (.sl 53 0 (((endsK c n k) ++ [(⟨(k : Int), 0⟩ : En)]).length)) ?_
   refine op0 ?_
   refine rT (Z9 n c k) (Z6 c n k) ?_
   refine seqR ?_
   refine fG (.pt 2 1) ft33_1 sz29 ?_
   refine oG (qL (.q eSec c) ag29 ?_)
   refine mG (.i (k : Int)) ?_
   refine oG (qX dS ut29 sz98 ?_)
   refine oG (qF (Z5 c k) (Za c k) ft98_2 sz3 ?_)
   refine oG (qL (.i ((c.getD k dS).b)) ag3 ?_)
   refine mG (.i n) ?_
   refine bG ((.bool (((c.getD k dS).b) == n))) ?_
   refine rU (upd (Z9 n c k) 34 (.b (((c.getD k dS).b) == n))) (Z6 c n k) ?_
   refine awp_cond (((c.getD k dS).b) == n) rfl rfl (fun hc2 => ?_) (fun hc2 => ?_)
   ·skip
    have hf3 := (beq_iff_eq).1 hc2
    refine regR ?_
    refine mG (.sl 53 0 (((endsK c n k) ++ [(⟨(k : Int), 0⟩ : En)]).length)) ?_
    refine mG (.i (k : Int)) ?_
    refine oG (qD pl100 ?_)
    refine oG (aop_lit rfl rfl rfl ut101 iz100 (by decide) (by decide) rfl rfl ?_)
    refine oG (aop_app1 (f := eEn) (l := (endsK c n k) ++ [(⟨(k : Int), 0⟩ : En)]) 54 (⟨(k : Int), 1⟩ : En) rfl rfl rfl rfl ut101 in100 rfl (by decide) rfl rfl rfl rfl rfl rfl (fun _ => rfl) rfl rfl oo oo rfl ?_)
    refine mG (.sl 54 0 ((((endsK c n k) ++ [(⟨(k : Int), 0⟩ : En)]) ++ [(⟨(k : Int), 1⟩ : En)]).length)) ?_
    refine op0 ?_
    refine rT (upd (upd (Z4 n) 5 (.sl 54 0 ((((endsK c n k) ++ [(⟨(k : Int), 0⟩ : En)]) ++ [(⟨(k : Int), 1⟩ : En)]).length))) 6 (.i (k : Int))) (updO (updO (Z6 c n k) 53 .dead) 54 (.live ⟨(enc eEn (((endsK c n k) ++ [(⟨(k : Int), 0⟩ : En)]) ++ [(⟨(k : Int), 1⟩ : En)])), 100, 2⟩)) ?_
    refine regR ?_
    refine mG (.i (k : Int)) ?_
    refine oG (qB (.int .i64 ((k + 1 : Nat) : Int)) (addN om) ?_)
    refine mG (.i ((k + 1 : Nat) : Int)) ?_
    refine op0 ?_
    show _ ∧ _
    have a1 : (c.getD k dS).a = n := by simpa using hc1
    have a2 : (c.getD k dS).b = n := by simpa using hc2
    have hs_ := endsK_tt a1 a2
    refine ⟨by omega, trivial, ?_⟩
    exact iL [(54, 1), (2, 2)] [((54, 1), .live _), ((2, 2), .live _)] ⟨row_no rfl (by exact congrArg (fun l_ => LObj.mk (enc eEn l_) 100 2) hs_), row_no rfl rfl, trivial⟩ (he := (sS rfl (sM (by exact congrArg (AV.sl 1 0) (congrArg List.length hs_.symm)) (sS rfl (sM rfl (sS rfl sr_none))))))
   have hf4 := (beq_eq_false_iff_ne).1 hc2
   refine awp_skip ?_
   refine regR ?_
   refine mG (.i (k : Int)) ?_
   refine oG (qB (.int .i64 ((k + 1 : Nat) : Int)) (addN om) ?_)
   refine mG (.i ((k + 1 : Nat) : Int)) ?_
   refine op0 ?_
   show _ ∧ _
   have a1 : (c.getD k dS).a = n := by simpa using hc1
   have a2 : ¬ (c.getD k dS).b = n := by simpa using hc2
   have hs_ := endsK_tf a1 a2
   refine ⟨by omega, trivial, ?_⟩
   exact iL [(53, 1), (2, 2)] [((53, 1), .live _), ((2, 2), .live _)] ⟨row_no rfl (by exact congrArg (fun l_ => LObj.mk (enc eEn l_) 100 2) hs_), row_no rfl rfl, trivial⟩ (he := (sS rfl (sM (by exact congrArg (AV.sl 1 0) (congrArg List.length hs_.symm)) (sS rfl (sM rfl (sS rfl sr_none))))))
  have hf5 := (beq_eq_false_iff_ne).1 hc1
  refine awp_skip ?_
  refine seqR ?_
  refine fG (.pt 2 1) ft33_1 sz29 ?_
  refine oG (qL (.q eSec c) ag29 ?_)
  refine mG (.i (k : Int)) ?_
  refine oG (qX dS ut29 sz98 ?_)
  refine oG (qF (Z5 c k) (Za c k) ft98_2 sz3 ?_)
  refine oG (qL (.i ((c.getD k dS).b)) ag3 ?_)
  refine mG (.i n) ?_
  refine bG ((.bool (((c.getD k dS).b) == n))) ?_
  refine rU (upd (Z7 n c k) 34 (.b (((c.getD k dS).b) == n))) (Z3 c n k) ?_
  refine awp_cond (((c.getD k dS).b) == n) rfl rfl (fun hc3 => ?_) (fun hc3 => ?_)
  ·skip
   have hf6 := (beq_iff_eq).1 hc3
   refine regR ?_
   refine mG (.sl 1 0 ((endsK c n k).length)) ?_
   refine mG (.i (k : Int)) ?_
   refine oG (qD pl100 ?_)
   refine oG (aop_lit rfl rfl rfl ut101 iz100 (by decide) (by decide) rfl rfl ?_)
   refine oG (aop_app1 (f := eEn) (l := endsK c n k) 55 (⟨(k : Int), 1⟩ : En) rfl rfl rfl rfl ut101 in100 rfl (by decide) rfl rfl rfl rfl rfl rfl (fun _ => rfl) rfl rfl oo oo rfl ?_)
   refine mG (.sl 55 0 (((endsK c n k) ++ [(⟨(k : Int), 1⟩ : En)]).length)) ?_
   refine op0 ?_
   refine rT (upd (upd (Z4 n) 5 (.sl 55 0 (((endsK c n k) ++ [(⟨(k : Int), 1⟩ : En)]).length))) 6 (.i (k : Int))) (updO (updO (Z3 c n k) 1 .dead) 55 (.live ⟨(enc eEn ((endsK c n k) ++ [(⟨(k : Int), 1⟩ : En)])), 100, 2⟩)) ?_
   refine regR ?_
   refine mG (.i (k : Int)) ?_
   refine oG (qB (.int .i64 ((k + 1 : Nat) : Int)) (addN om) ?_)
   refine mG (.i ((k + 1 : Nat) : Int)) ?_
   refine op0 ?_
   show _ ∧ _
   have a1 : ¬ (c.getD k dS).a = n := by simpa using hc1
   have a2 : (c.getD k dS).b = n := by simpa using hc3
   have hs_ := endsK_ft a1 a2
   refine ⟨by omega, trivial, ?_⟩
   exact iL [(55, 1), (2, 2)] [((55, 1), .live _), ((2, 2), .live _)] ⟨row_no rfl (by exact congrArg (fun l_ => LObj.mk (enc eEn l_) 100 2) hs_), row_no rfl rfl, trivial⟩ (he := (sS rfl (sM (by exact congrArg (AV.sl 1 0) (congrArg List.length hs_.symm)) (sS rfl (sM rfl (sS rfl sr_none))))))
  have hf7 := (beq_eq_false_iff_ne).1 hc3
  refine awp_skip ?_
  refine regR ?_
  refine mG (.i (k : Int)) ?_
  refine oG (qB (.int .i64 ((k + 1 : Nat) : Int)) (addN om) ?_)
  refine mG (.i ((k + 1 : Nat) : Int)) ?_
  refine op0 ?_
  show _ ∧ _
  have a1 : ¬ (c.getD k dS).a = n := by simpa using hc1
  have a2 : ¬ (c.getD k dS).b = n := by simpa using hc3
  have hs_ := endsK_ff a1 a2
  refine ⟨by omega, trivial, ?_⟩
  exact iL [(1, 1), (2, 2)] [((1, 1), .live _), ((2, 2), .live _)] ⟨row_no rfl (by exact congrArg (fun l_ => LObj.mk (enc eEn l_) 100 2) hs_), row_no rfl rfl, trivial⟩ (he := (sS rfl (sM (by exact congrArg (AV.sl 1 0) (congrArg List.length hs_.symm)) (sS rfl (sM rfl (sS rfl sr_none))))))
 have hf8 := of_decide_eq_false hc0
 refine awp_exit ?_
 refine seqR ?_
 refine mG (.sl 1 0 ((endsK c n k).length)) ?_
 refine mG (.sl 1 0 ((endsK c n k).length)) ?_
 refine op0 ?_
 have he : endsK c n k = endsL c n := by unfold endsL; congr 1; omega
 refine awp_imp _ (imp_frozen rfl (fun _ h => h) (lee_lend 4 (.q eEn (endsK c n k)) (lend_s (id := 1) (n := (endsK c n k).length) (o := ⟨(enc eEn (endsK c n k)), 100, 2⟩) rfl (enc_len (fun _ => rfl) (by first | rfl | (simp; done)))) lee_lend0)) ?_
 refine awp_ret ?_
 exact fret (av := .ro ((endsK c n k).length) (enc eEn (endsK c n k))) rfl rfl (by rw [he])
abbrev Zd (n : Int) (k : Nat) : Nat → AV := (upd (upd (upd (upd none_ 1 (.i n)) 2 (.pt 2 0)) 4 (.i 0)) 5 (.i (k : Int)))
abbrev Zc (a : List Pnt) (k : Nat) : AV := (.rp (([.i ((a.getD k dP).node), .i ((a.getD k dP).stem), .i ((a.getD k dP).left), .i ((a.getD k dP).right)] : List AV) ++ ((enc ePnt a).drop ((k + 1) * 4))))
abbrev Zb (a : List Pnt) : LObj := ⟨[.one, .one, .one, .q ePnt a, .one, .one, .one, .one, .one, .one], 33, 1⟩
theorem r05_Point (a : List Pnt) (n : Int) (hp : a.length ≤ 65536) : Fn Try.prog 64 [.agg [.one, .one, .one, .ro a.length (enc ePnt a), .one, .one, .one, .one, .one, .one], .v (.int .i64 n)] (.v (.int .i64 (pointI a n))) := by
 refine fnE_of_body (N := 22) Try.func64 rfl rfl (resOf1 rfl) (by simp) (fun w0 X hL_ => ?_)
 refine seqR ?_
 refine oG (qW 51 ?_)
 refine mG (.i 0) ?_
 refine op0 ?_
 refine awp_seq ?_
 refine seqR ?_
 refine mG (.i 0) ?_
 refine op0 ?_
 refine awp_block ?_
 refine awp_countI (fun k => ⟨(Zd n k), (updO noOb 2 (.live (Zb a)))⟩) (fun k => (a.take k).any (fun p => decide (p.node = n)) = false) (a.length) ?_ (by simp) (fun k hk_k hinv => ?_)
 ·skip
  exact iI 51 2 (o := (Zb a)) rfl
 refine awp_seq ?_
 refine seqR ?_
 refine mG (.i (k : Int)) ?_
 refine fG (.pt 2 3) ft33_3 sz31 ?_
 refine oG (qL (.q ePnt a) ag31 ?_)
 refine oG (qN ut31 ?_)
 refine bG ((.bool (decide ((k : Int) < (a.length : Int))))) ?_
 refine rU (upd (Zd n k) 10 (.b (decide ((k : Int) < (a.length : Int))))) (updO noOb 2 (.live (Zb a))) ?_
 refine awp_cond (decide ((k : Int) < (a.length : Int))) rfl rfl (fun hc0 => ?_) (fun hc0 => ?_)
 ·skip
  have hf1 := of_decide_eq_true hc0
  refine awp_skip ?_
  refine awp_seq ?_
  refine awp_block ?_
  refine seqR ?_
  refine fG (.pt 2 3) ft33_3 sz31 ?_
  refine oG (qL (.q ePnt a) ag31 ?_)
  refine mG (.i (k : Int)) ?_
  refine oG (qX dP ut31 sz96 ?_)
  refine oG (qF (Zc a k) (Zc a k) ft96_0 sz3 ?_)
  refine oG (qL (.i ((a.getD k dP).node)) ag3 ?_)
  refine mG (.i n) ?_
  refine bG ((.bool (((a.getD k dP).node) == n))) ?_
  refine rU (upd (Zd n k) 20 (.b (((a.getD k dP).node) == n))) (updO noOb 2 (.live (Zb a))) ?_
  refine awp_cond (((a.getD k dP).node) == n) rfl rfl (fun hc1 => ?_) (fun hc1 => ?_)
  ·skip
   have hf2 := (beq_iff_eq).1 hc1
   refine seqR ?_
   refine mG (.i (k : Int)) ?_
   refine mG (.i (k : Int)) ?_
   refine op0 ?_
   refine awp_ret ?_
   exact fret (av := .v (.int .i64 (k : Int))) rfl rfl (by unfold pointI; rw [idxB_stop dP om hinv (by simpa using hc1)] <;> rfl)
  have hf3 := (beq_eq_false_iff_ne).1 hc1
  refine awp_skip ?_
  refine regR ?_
  refine mG (.i (k : Int)) ?_
  refine oG (qB (.int .i64 ((k + 1 : Nat) : Int)) (addN om) ?_)
  refine mG (.i ((k + 1 : Nat) : Int)) ?_
  refine op0 ?_
  show _ ∧ _
  refine ⟨by omega, (any_step dP om hinv (by simpa using hc1)), ?_⟩
  exact iI 2 2 rfl
 have hf4 := of_decide_eq_false hc0
 refine awp_exit ?_
 refine seqR ?_
 refine mG (.i (-1)) ?_
 refine op0 ?_
 refine awp_ret ?_
 exact fret (av := .v (.int .i64 (-1))) rfl rfl (by unfold pointI; rw [idxB_end om hinv] <;> rfl)
abbrev Zg (a : List Sec) : List AV := [.one, .q eSec a, .one, .one, .one, .one, .one, .one, .one, .one]
abbrev Zf (a : List Sec) (n : Int) (k : Nat) : AV := (.rp (([.i (((endsL a n).getD k dE).sec), .i (((endsL a n).getD k dE).en)] : List AV) ++ ((enc eEn (endsL a n)).drop ((k + 1) * 2))))
abbrev Ze (s : Int) (a : List Sec) (n : Int) : Nat → AV := (upd (upd (upd none_ 1 (.i s)) 6 vN) 7 (.q eEn (endsL a n)))
theorem r05_one (a : List Sec) (s n : Int) (hs : a.length ≤ 65536) : Fn Try.prog 65 [.agg [.one, .ro a.length (enc eSec a), .one, .one, .one, .one, .one, .one, .one, .one], .v (.int .i64 s), .v (.int .i64 n)] (.ro ((oneE a s n).length) (enc eEn (oneE a s n))) := by
 refine fnE_of_body (N := 30) Try.func65 rfl rfl (resOf1 rfl) (by simp) (fun w0 X hL_ => ?_)
 refine seqR ?_
 refine oG (qW 51 ?_)
 refine mG vN ?_
 refine op0 ?_
 refine seqR ?_
 refine oG (qLB (Zg a) ag33 sz33 ?_)
 refine mG (.i n) ?_
 refine oG (qJ (r05_Ends a n oo) bd66 ?_)
 refine mG (.q eEn (endsL a n)) ?_
 refine rU (Ze s a n) (updO noOb 51 (.live ⟨(Zg a), 33, 1⟩)) ?_
 refine awp_seq ?_
 refine seqR ?_
 refine mG (.i 0) ?_
 refine op0 ?_
 refine awp_block ?_
 refine awp_countI (fun k => ⟨(upd (Ze s a n) 8 (.i (k : Int))), noOb⟩) (fun k => ((endsL a n).take k).any (fun e => decide (e.sec = s)) = false) ((endsL a n).length) ?_ (by simp) (fun k hk_k hinv => ?_)
 ·skip
  exact iN
 refine awp_seq ?_
 refine seqR ?_
 refine mG (.i (k : Int)) ?_
 refine mG (.q eEn (endsL a n)) ?_
 refine oG (qN ut101 ?_)
 refine bG ((.bool (decide ((k : Int) < ((endsL a n).length : Int))))) ?_
 refine rU (upd (upd (Ze s a n) 8 (.i (k : Int))) 15 (.b (decide ((k : Int) < ((endsL a n).length : Int))))) noOb ?_
 refine awp_cond (decide ((k : Int) < ((endsL a n).length : Int))) rfl rfl (fun hc0 => ?_) (fun hc0 => ?_)
 ·skip
  have hf1 := of_decide_eq_true hc0
  have hle := endsL_len a n
  refine awp_skip ?_
  refine awp_seq ?_
  refine awp_block ?_
  refine seqR ?_
  refine mG (.q eEn (endsL a n)) ?_
  refine mG (.i (k : Int)) ?_
  refine oG (qX dE ut101 sz100 ?_)
  refine oG (qF (Zf a n k) (Zf a n k) ft100_0 sz3 ?_)
  refine oG (qL (.i (((endsL a n).getD k dE).sec)) ag3 ?_)
  refine mG (.i s) ?_
  refine bG ((.bool ((((endsL a n).getD k dE).sec) == s))) ?_
  refine rU (upd (upd (Ze s a n) 8 (.i (k : Int))) 24 (.b ((((endsL a n).getD k dE).sec) == s))) noOb ?_
  refine awp_cond ((((endsL a n).getD k dE).sec) == s) rfl rfl (fun hc1 => ?_) (fun hc1 => ?_)
  ·skip
   have hf2 := (beq_iff_eq).1 hc1
   refine seqR ?_
   refine mG (.q eEn (endsL a n)) ?_
   refine mG (.i (k : Int)) ?_
   refine mG (.i (k : Int)) ?_
   refine oG (qB (.int .i64 ((k + 1 : Nat) : Int)) (addN om) ?_)
   refine oG (aop_sliceRo (l := k) (hgh := k + 1) (cells' := enc eEn (((endsL a n).take (k + 1)).drop k)) rfl rfl rfl ut101 sz100 rfl ⟨_, rfl⟩ ⟨_, rfl⟩ oo oo (sliceE (f := eEn) (fun _ => rfl) _ _ _) ?_)
   refine mG (.ro ((k + 1) - k) (enc eEn (((endsL a n).take (k + 1)).drop k))) ?_
   refine rU (upd (upd (upd (upd none_ 1 (.i s)) 6 (.ro ((k + 1) - k) (enc eEn (((endsL a n).take (k + 1)).drop k)))) 7 (.q eEn (endsL a n))) 8 (.i (k : Int))) noOb ?_
   refine awp_ret ?_
   exact fret (av := .ro ((k + 1) - k) (enc eEn (((endsL a n).take (k + 1)).drop k))) rfl rfl (by unfold oneE; rw [firstE_stop om hinv (by simpa using hc1), ← take1_drop om, List.drop_take, show k + 1 - k = 1 by omega]; simp; omega)
  have hf3 := (beq_eq_false_iff_ne).1 hc1
  refine awp_skip ?_
  refine regR ?_
  refine mG (.i (k : Int)) ?_
  refine oG (qB (.int .i64 ((k + 1 : Nat) : Int)) (addN om) ?_)
  refine mG (.i ((k + 1 : Nat) : Int)) ?_
  refine op0 ?_
  show _ ∧ _
  refine ⟨by omega, (any_step dE om hinv (by simpa using hc1)), ?_⟩
  exact iN
 have hf4 := of_decide_eq_false hc0
 refine awp_exit ?_
 refine seqR ?_
 refine mG vN ?_
 refine op0 ?_
 refine awp_imp _ (imp_frozen rfl (fun _ h => h) (lee_lend 6 (.ro 0 []) .nil lee_lend0)) ?_
 refine awp_ret ?_
 exact fret (av := .ro 0 []) rfl rfl (by unfold oneE; rw [firstE_none om hinv] <;> rfl)
abbrev Zt (a : List Sec) (s e : Int) : AV := (.q eEn (endsL a (nodeA a s e)))
abbrev Zs : Nat → AV := (upd (upd none_ 2 (.pt 51 0)) 3 (.pt 52 0))
abbrev Zr (a : List Sec) (s e : Int) (k : Nat) : Nat → AV := (upd (upd (upd (upd (upd none_ 3 (.pt 3 0)) 4 vN) 8 (.sl 1 0 ((otherK a (nodeA a s e) s e k).length))) 10 (Zt a s e)) 11 (.i (k : Int)))
abbrev Zp (c : List Pnt) (a : List Sec) (s e : Int) : List AV := [.i ((c.getD (pointI c (nodeA a s e)).toNat dP).node), .i ((c.getD (pointI c (nodeA a s e)).toNat dP).stem), .i ((c.getD (pointI c (nodeA a s e)).toNat dP).left), .i ((c.getD (pointI c (nodeA a s e)).toNat dP).right)]
abbrev Zn (a : List Sec) (s e : Int) (k : Nat) : List AV := [.i (((endsL a (nodeA a s e)).getD k dE).sec), .i (((endsL a (nodeA a s e)).getD k dE).en)]
abbrev Zm (a : List Sec) (s e : Int) (k : Nat) : En := (⟨((endsL a (nodeA a s e)).getD k dE).sec, ((endsL a (nodeA a s e)).getD k dE).en⟩ : En)
abbrev Zl (a : List Sec) (c : List Pnt) (s e : Int) : List AV := (enc eEn ((([] : List En) ++ (oneE a ((c.getD (pointI c (nodeA a s e)).toNat dP).left) (nodeA a s e))) ++ (oneE a ((c.getD (pointI c (nodeA a s e)).toNat dP).right) (nodeA a s e))))
abbrev Zk (a : List Sec) (s e : Int) : Nat → AV := (upd (upd Zs 4 vN) 5 (.i (nodeA a s e)))
abbrev Zj (a : List Sec) (s e : Int) (k : Nat) : Nat → OSt := (updO (updO noOb 1 (.live ⟨(enc eEn (otherK a (nodeA a s e) s e k)), 100, 2⟩)) 3 (.live ⟨[.i s, .i e], 100, 1⟩))
abbrev Zi (a : List Sec) (c : List Pnt) : List AV := [.one, .q eSec a, .one, .q ePnt c, .one, .one, .one, .one, .one, .one]
abbrev Zo (a : List Sec) (c : List Pnt) (s e : Int) : Nat → OSt := (updO (updO noOb 51 (.live ⟨(Zi a c), 33, 1⟩)) 52 (.live ⟨[.i s, .i e], 100, 1⟩))
abbrev Zh (a : List Sec) (c : List Pnt) (s e : Int) : Nat → OSt := (updO (updO (Zo a c s e) 53 (.live ⟨[.i 0, .i 0, .i 0, .i 0], 96, 1⟩)) 53 (.live ⟨(Zp c a s e), 96, 1⟩))
abbrev Zq (a : List Sec) (c : List Pnt) (s e : Int) : Nat → OSt := (updO (updO (updO (Zh a c s e) 54 (.live ⟨[], 100, 2⟩)) 54 .dead) 55 (.live ⟨(enc eEn (([] : List En) ++ (oneE a ((c.getD (pointI c (nodeA a s e)).toNat dP).left) (nodeA a s e)))), 100, 2⟩))
theorem r05_Around (a : List Sec) (c : List Pnt) (s e : Int) (hs : a.length ≤ 65536) (hp : c.length ≤ 65536) : Fn Try.prog 42 [.agg [.one, .ro a.length (enc eSec a), .one, .ro c.length (enc ePnt c), .one, .one, .one, .one, .one, .one], .agg [.v (.int .i64 s), .v (.int .i64 e)]] (.ro ((aroundL a c s e).length) (enc eEn (aroundL a c s e))) := by
 refine fnE_of_body (N := 92) Try.func42 rfl rfl (resOf1 rfl) (by simp) (fun w0 X hL_ => ?_)
 refine seqR ?_
 refine oG (qW 51 ?_)
 refine oG (qW 52 ?_)
 refine mG vN ?_
 refine op0 ?_
 refine seqR ?_
 refine oG (qLB (Zi a c) ag33 sz33 ?_)
 refine oG (qLB [.i s, .i e] ag100 sz100 ?_)
 refine oG (qC (r05_node a s e oo) bd63 ?_)
 refine mG (.tup [.i (nodeA a s e), .b (!noNode a s e)]) ?_
 refine oG (qE ?_)
 refine oG (qE ?_)
 refine mG (.i (nodeA a s e)) ?_
 refine mG (.b (!noNode a s e)) ?_
 refine rU (upd (Zk a s e) 6 (.b (!noNode a s e))) (Zo a c s e) ?_
 refine awp_seq ?_
 refine seqR ?_
 refine mG (.b (!noNode a s e)) ?_
 refine oG (aop_not rfl rfl rfl rfl ?_)
 refine op0 ?_
 refine awp_cond (!(!noNode a s e)) rfl rfl (fun hc0 => ?_) (fun hc0 => ?_)
 ·skip
  have hf1 := not_t hc0
  have hn : noNode a s e = true := by simpa using hc0
  refine seqR ?_
  refine mG vN ?_
  refine op0 ?_
  refine awp_imp _ (imp_frozen rfl (fun _ h => h) (lee_lend 4 (.ro 0 []) .nil lee_lend0)) ?_
  refine awp_ret ?_
  exact fret (av := .ro 0 []) rfl rfl (by rw [around_no hn]; rfl)
 have hf2 := not_f hc0
 have hn : noNode a s e = false := by simpa using hc0
 have hr_ := pointI_range c (nodeA a s e)
 refine awp_skip ?_
 refine seqR ?_
 refine oG (qLB (Zi a c) ag33 sz33 ?_)
 refine mG (.i (nodeA a s e)) ?_
 refine oG (qC (r05_Point c (nodeA a s e) oo) bd64 ?_)
 refine mG (.i (pointI c (nodeA a s e))) ?_
 refine rU (upd (Zk a s e) 7 (.i (pointI c (nodeA a s e)))) (Zo a c s e) ?_
 refine seqR ?_
 refine mG vN ?_
 refine op0 ?_
 refine awp_seq ?_
 refine seqR ?_
 refine mG (.i (pointI c (nodeA a s e))) ?_
 refine bG ((.bool (decide ((pointI c (nodeA a s e)) ≥ 0)))) ?_
 refine op0 ?_
 refine awp_cond (decide ((pointI c (nodeA a s e)) ≥ 0)) rfl rfl (fun hc1 => ?_) (fun hc1 => ?_)
 ·skip
  have hf3 := of_decide_eq_true hc1
  have hi : 0 ≤ pointI c (nodeA a s e) := by simpa using hc1
  have ho1 := oneE_len a (c.getD (pointI c (nodeA a s e)).toNat dP).left (nodeA a s e)
  have ho2 := oneE_len a (c.getD (pointI c (nodeA a s e)).toNat dP).right (nodeA a s e)
  refine seqR ?_
  refine fG (.pt 51 3) ft33_3 sz31 ?_
  refine oG (qL (.q ePnt c) ag31 ?_)
  refine mG (.i (pointI c (nodeA a s e))) ?_
  refine oG (aop_ixI dP rfl rfl rfl ut31 sz96 rfl rfl (fun _ => rfl) rfl om oo ?_)
  refine oG (qLB (Zp c a s e) ag96 sz96 ?_)
  refine oG (aop_alloc 53 rfl rfl rfl rfl ze96 rfl ?_)
  refine oG (qS sz96 ?_)
  refine rU (upd (upd (Zk a s e) 8 vN) 9 (.pt 53 0)) (Zh a c s e) ?_
  refine awp_seq ?_
  refine seqR ?_
  refine fG (.pt 52 0) ft100_0 sz3 ?_
  refine oG (qL (.i s) ag3 ?_)
  refine fG (.pt 53 1) ft96_1 sz3 ?_
  refine oG (qL (.i ((c.getD (pointI c (nodeA a s e)).toNat dP).stem)) ag3 ?_)
  refine bG ((.bool (s == ((c.getD (pointI c (nodeA a s e)).toNat dP).stem)))) ?_
  refine rU (upd (upd (upd (Zk a s e) 8 vN) 9 (.pt 53 0)) 34 (.b (s == ((c.getD (pointI c (nodeA a s e)).toNat dP).stem)))) (Zh a c s e) ?_
  refine awp_cond (s == ((c.getD (pointI c (nodeA a s e)).toNat dP).stem)) rfl rfl (fun hc2 => ?_) (fun hc2 => ?_)
  ·skip
   have hf4 := (beq_iff_eq).1 hc2
   have hq : s = (c.getD (pointI c (nodeA a s e)).toNat dP).stem := by simpa using hc2
   refine seqR ?_
   refine mG vN ?_
   refine oG (qLB (Zi a c) ag33 sz33 ?_)
   refine fG (.pt 53 2) ft96_2 sz3 ?_
   refine oG (qL (.i ((c.getD (pointI c (nodeA a s e)).toNat dP).left)) ag3 ?_)
   refine mG (.i (nodeA a s e)) ?_
   refine oG (qC (r05_one a ((c.getD (pointI c (nodeA a s e)).toNat dP).left) (nodeA a s e) oo) bd65 ?_)
   refine oG (aop_adopt 35 54 100 2 rfl rfl (aop_appE (f := eEn) (l := ([] : List En)) (l2 := oneE a ((c.getD (pointI c (nodeA a s e)).toNat dP).left) (nodeA a s e)) 55 rfl rfl rfl rfl ut101 in100 rfl (by decide) rfl rfl rfl rfl rfl rfl (fun _ => rfl) rfl rfl rfl oo oo rfl ?_))
   refine mG (.sl 55 0 ((([] : List En) ++ (oneE a ((c.getD (pointI c (nodeA a s e)).toNat dP).left) (nodeA a s e))).length)) ?_
   refine rU (upd (upd (Zk a s e) 8 (.sl 55 0 ((([] : List En) ++ (oneE a ((c.getD (pointI c (nodeA a s e)).toNat dP).left) (nodeA a s e))).length))) 9 (.pt 53 0)) (Zq a c s e) ?_
   refine seqR ?_
   refine mG (.sl 55 0 ((([] : List En) ++ (oneE a ((c.getD (pointI c (nodeA a s e)).toNat dP).left) (nodeA a s e))).length)) ?_
   refine oG (qLB (Zi a c) ag33 sz33 ?_)
   refine fG (.pt 53 3) ft96_3 sz3 ?_
   refine oG (qL (.i ((c.getD (pointI c (nodeA a s e)).toNat dP).right)) ag3 ?_)
   refine mG (.i (nodeA a s e)) ?_
   refine oG (qC (r05_one a ((c.getD (pointI c (nodeA a s e)).toNat dP).right) (nodeA a s e) oo) bd65 ?_)
   refine oG (aop_appE (f := eEn) (l := ([] : List En) ++ (oneE a ((c.getD (pointI c (nodeA a s e)).toNat dP).left) (nodeA a s e))) (l2 := oneE a ((c.getD (pointI c (nodeA a s e)).toNat dP).right) (nodeA a s e)) 56 rfl rfl rfl rfl ut101 in100 rfl (by decide) rfl rfl rfl rfl rfl rfl (fun _ => rfl) rfl rfl rfl oo oo rfl ?_)
   refine mG (.sl 56 0 (((([] : List En) ++ (oneE a ((c.getD (pointI c (nodeA a s e)).toNat dP).left) (nodeA a s e))) ++ (oneE a ((c.getD (pointI c (nodeA a s e)).toNat dP).right) (nodeA a s e))).length)) ?_
   refine rU (upd (upd (upd (upd Zs 4 (.sl 56 0 (((([] : List En) ++ (oneE a ((c.getD (pointI c (nodeA a s e)).toNat dP).left) (nodeA a s e))) ++ (oneE a ((c.getD (pointI c (nodeA a s e)).toNat dP).right) (nodeA a s e))).length))) 5 (.i (nodeA a s e))) 8 (.sl 55 0 ((([] : List En) ++ (oneE a ((c.getD (pointI c (nodeA a s e)).toNat dP).left) (nodeA a s e))).length))) 9 (.pt 53 0)) (updO (updO (Zq a c s e) 55 .dead) 56 (.live ⟨(Zl a c s e), 100, 2⟩)) ?_
   refine awp_imp _ (imp_frozen rfl (fun _ h => h) (lee_lend 4 (.q eEn ((([] : List En) ++ (oneE a ((c.getD (pointI c (nodeA a s e)).toNat dP).left) (nodeA a s e))) ++ (oneE a ((c.getD (pointI c (nodeA a s e)).toNat dP).right) (nodeA a s e)))) (lend_s (id := 56) (n := ((([] : List En) ++ (oneE a ((c.getD (pointI c (nodeA a s e)).toNat dP).left) (nodeA a s e))) ++ (oneE a ((c.getD (pointI c (nodeA a s e)).toNat dP).right) (nodeA a s e))).length) (o := ⟨(Zl a c s e), 100, 2⟩) rfl (enc_len (fun _ => rfl) (by first | rfl | (simp; done)))) lee_lend0)) ?_
   refine awp_ret ?_
   exact fret (av := .ro (((([] : List En) ++ (oneE a ((c.getD (pointI c (nodeA a s e)).toNat dP).left) (nodeA a s e))) ++ (oneE a ((c.getD (pointI c (nodeA a s e)).toNat dP).right) (nodeA a s e))).length) (Zl a c s e)) rfl rfl (by rw [around_stem hn hi hq]; rfl)
  have hf5 := (beq_eq_false_iff_ne).1 hc2
  have hq : ¬ s = (c.getD (pointI c (nodeA a s e)).toNat dP).stem := by simpa using hc2
  refine awp_skip ?_
  refine awp_seq ?_
  refine seqR ?_
  refine fG (.pt 52 0) ft100_0 sz3 ?_
  refine oG (qL (.i s) ag3 ?_)
  refine fG (.pt 53 2) ft96_2 sz3 ?_
  refine oG (qL (.i ((c.getD (pointI c (nodeA a s e)).toNat dP).left)) ag3 ?_)
  refine bG ((.bool (s == ((c.getD (pointI c (nodeA a s e)).toNat dP).left)))) ?_
  refine mG (.b (s == ((c.getD (pointI c (nodeA a s e)).toNat dP).left))) ?_
  refine aops_grp 6 60 (.b ((s == ((c.getD (pointI c (nodeA a s e)).toNat dP).left)) || (s == ((c.getD (pointI c (nodeA a s e)).toNat dP).right)))) ?_ ?_
  ·refine (Bool.eq_false_or_eq_true (s == ((c.getD (pointI c (nodeA a s e)).toNat dP).left))).elim (fun hg6 => ?_) (fun hg6 => ?_)
   ·skip
    have hf7 := (beq_iff_eq).1 hg6
    refine nG hg6 ?_
    refine nG hg6 ?_
    refine nG hg6 ?_
    refine nG hg6 ?_
    refine nG hg6 ?_
    refine oG (qP (s == ((c.getD (pointI c (nodeA a s e)).toNat dP).left)) (.b true) hg6 ?_)
    refine op0 ?_
    exact imp_env (lee_both 60 _ _ (by rw [hg6] <;> rfl) lO)
   have hf8 := (beq_eq_false_iff_ne).1 hg6
   refine oY hg6 (qF (.pt 52 0) (.pt 52 0) ft100_0 sz3 ?_)
   refine oY hg6 (qL (.i s) ag3 ?_)
   refine oY hg6 (qF (.pt 53 0) (.pt 53 3) ft96_3 sz3 ?_)
   refine oY hg6 (qL (.i ((c.getD (pointI c (nodeA a s e)).toNat dP).right)) ag3 ?_)
   refine oY hg6 (qB (.bool (s == ((c.getD (pointI c (nodeA a s e)).toNat dP).right))) rfl ?_)
   refine oG (qP (s == ((c.getD (pointI c (nodeA a s e)).toNat dP).left)) (.b (s == ((c.getD (pointI c (nodeA a s e)).toNat dP).right))) hg6 ?_)
   refine op0 ?_
   exact imp_env (lee_both 60 _ _ (by rw [hg6] <;> rfl) lO)
  refine op0 ?_
  refine rT (upd (upd (upd (Zk a s e) 8 vN) 9 (.pt 53 0)) 60 (.b ((s == ((c.getD (pointI c (nodeA a s e)).toNat dP).left)) || (s == ((c.getD (pointI c (nodeA a s e)).toNat dP).right))))) (Zh a c s e) ?_
  refine awp_cond ((s == ((c.getD (pointI c (nodeA a s e)).toNat dP).left)) || (s == ((c.getD (pointI c (nodeA a s e)).toNat dP).right))) rfl rfl (fun hc3 => ?_) (fun hc3 => ?_)
  ·skip
   have hl : s = (c.getD (pointI c (nodeA a s e)).toNat dP).left ∨ s = (c.getD (pointI c (nodeA a s e)).toNat dP).right := by simpa using hc3
   refine seqR ?_
   refine oG (qLB (Zi a c) ag33 sz33 ?_)
   refine fG (.pt 53 1) ft96_1 sz3 ?_
   refine oG (qL (.i ((c.getD (pointI c (nodeA a s e)).toNat dP).stem)) ag3 ?_)
   refine mG (.i (nodeA a s e)) ?_
   refine oG (qC (r05_one a ((c.getD (pointI c (nodeA a s e)).toNat dP).stem) (nodeA a s e) oo) bd65 ?_)
   refine mG (.q eEn (oneE a ((c.getD (pointI c (nodeA a s e)).toNat dP).stem) (nodeA a s e))) ?_
   refine rU (upd (upd (upd Zs 4 (.q eEn (oneE a ((c.getD (pointI c (nodeA a s e)).toNat dP).stem) (nodeA a s e)))) 5 (.i (nodeA a s e))) 8 vN) (Zh a c s e) ?_
   refine awp_ret ?_
   exact fret (av := .ro ((oneE a ((c.getD (pointI c (nodeA a s e)).toNat dP).stem) (nodeA a s e)).length) (enc eEn (oneE a ((c.getD (pointI c (nodeA a s e)).toNat dP).stem) (nodeA a s e)))) rfl rfl (by rw [around_leg hn hi hq hl])
  obtain ⟨hf9a, hf9b⟩ := or_f hc3
  have hf10 := (beq_eq_false_iff_ne).1 hf9a
  have hf11 := (beq_eq_false_iff_ne).1 hf9b
  have hl : ¬ (s = (c.getD (pointI c (nodeA a s e)).toNat dP).left ∨ s = (c.getD (pointI c (nodeA a s e)).toNat dP).right) := by simpa using hc3
  refine awp_skip ?_
  refine seqR ?_
  refine mG vN ?_
  refine op0 ?_
  refine awp_imp _ (imp_frozen rfl (fun _ h => h) (lee_lend 4 (.ro 0 []) .nil lee_lend0)) ?_
  refine awp_ret ?_
  exact fret (av := .ro 0 []) rfl rfl (by rw [around_off hn hi hq hl]; rfl)
 have hf12 := of_decide_eq_false hc1
 have hi : ¬ 0 ≤ pointI c (nodeA a s e) := by simpa using hc1
 have hle0 := endsL_len a (nodeA a s e)
 refine awp_skip ?_
 refine seqR ?_
 refine oG (qLB (Zi a c) ag33 sz33 ?_)
 refine mG (.i (nodeA a s e)) ?_
 refine oG (qC (r05_Ends a (nodeA a s e) oo) bd66 ?_)
 refine mG (Zt a s e) ?_
 refine rU (upd (upd (upd (upd none_ 3 (.pt 52 0)) 4 vN) 8 vN) 10 (Zt a s e)) (Zo a c s e) ?_
 refine awp_seq ?_
 refine seqR ?_
 refine mG (.i 0) ?_
 refine op0 ?_
 refine awp_block ?_
 refine awp_countI (fun k => ⟨(Zr a s e k), (Zj a s e k)⟩) (fun k => True) ((endsL a (nodeA a s e)).length) ?_ trivial (fun k hk_k hinv => ?_)
 ·skip
  refine (imp_adopt 8 57 100 2 rfl rfl).trans ?_
  exact iL [(57, 1), (52, 3)] [((57, 1), .live _), ((52, 3), .live _)] ⟨row_no (o := ⟨[], 100, 2⟩) rfl rfl, row_no rfl rfl, trivial⟩
 have hle := otherK_len a (nodeA a s e) s e k
 refine awp_seq ?_
 refine seqR ?_
 refine mG (.i (k : Int)) ?_
 refine mG (Zt a s e) ?_
 refine oG (qN ut101 ?_)
 refine bG ((.bool (decide ((k : Int) < ((endsL a (nodeA a s e)).length : Int))))) ?_
 refine rU (upd (Zr a s e k) 72 (.b (decide ((k : Int) < ((endsL a (nodeA a s e)).length : Int))))) (Zj a s e k) ?_
 refine awp_cond (decide ((k : Int) < ((endsL a (nodeA a s e)).length : Int))) rfl rfl (fun hc4 => ?_) (fun hc4 => ?_)
 ·skip
  have hf13 := of_decide_eq_true hc4
  refine awp_skip ?_
  refine awp_seq ?_
  refine awp_block ?_
  refine awp_seq ?_
  refine aD 6 [(80, .b (!(decide ((((endsL a (nodeA a s e)).getD k dE).sec) = s ∧ (((endsL a (nodeA a s e)).getD k dE).en) = e)))), (79, .agg [.i s, .i e]), (78, .agg (Zn a s e k)), (77, .rp (((Zn a s e k) : List AV) ++ ((enc eEn (endsL a (nodeA a s e))).drop ((k + 1) * 2)))), (76, .i (k : Int)), (75, .q eEn (endsL a (nodeA a s e)))] mixed ?_ ?_
  ·refine ⟨?_, ?_, ?_, ?_, ?_, ?_, trivial⟩
   ·exact sMv
   ·exact sMv
   ·exact (sIx dE ut101 sz100)
   ·exact dW 78 fun st hob hE => aop_ldB (cells' := (Zn a s e k)) rfl rfl rfl ag100 sz100 (hE 77 rfl) rfl rfl rfl (by rw [hob]; rfl)
   ·exact sLB [.i s, .i e] ag100 sz100
   exact dW 80 fun st hob hE => aop_eqS2 (r := (!(decide ((((endsL a (nodeA a s e)).getD k dE).sec) = s ∧ (((endsL a (nodeA a s e)).getD k dE).en) = e)))) rfl rfl rfl (hE 78 rfl) (hE 79 rfl) es100 ut3 ut3 ag3 ag3 (.inr ⟨rfl, rfl⟩) (by rw [hob]; rfl)
  refine op0 ?_
  refine awp_cond (!(decide ((((endsL a (nodeA a s e)).getD k dE).sec) = s ∧ (((endsL a (nodeA a s e)).getD k dE).en) = e))) rfl rfl (fun hc5 => ?_) (fun hc5 => ?_)
  ·skip
   refine regR ?_
   refine mG (.sl 1 0 ((otherK a (nodeA a s e) s e k).length)) ?_
   refine mG (Zt a s e) ?_
   refine mG (.i (k : Int)) ?_
   refine oG (qX dE ut101 sz100 ?_)
   refine oG (qLB (Zn a s e k) ag100 sz100 ?_)
   refine oG (aop_lit rfl rfl rfl ut101 iz100 (by decide) (by decide) rfl rfl ?_)
   refine oG (aop_app1 (f := eEn) (l := otherK a (nodeA a s e) s e k) 58 (Zm a s e k) rfl rfl rfl rfl ut101 in100 rfl (by decide) rfl rfl rfl rfl rfl rfl (fun _ => rfl) rfl rfl oo oo rfl ?_)
   refine mG (.sl 58 0 (((otherK a (nodeA a s e) s e k) ++ [(Zm a s e k)]).length)) ?_
   refine op0 ?_
   refine rT (upd (upd (upd (upd (upd none_ 3 (.pt 3 0)) 4 vN) 8 (.sl 58 0 (((otherK a (nodeA a s e) s e k) ++ [(Zm a s e k)]).length))) 10 (Zt a s e)) 11 (.i (k : Int))) (updO (updO (Zj a s e k) 1 .dead) 58 (.live ⟨(enc eEn ((otherK a (nodeA a s e) s e k) ++ [(Zm a s e k)])), 100, 2⟩)) ?_
   refine regR ?_
   refine mG (.i (k : Int)) ?_
   refine oG (qB (.int .i64 ((k + 1 : Nat) : Int)) (addN om) ?_)
   refine mG (.i ((k + 1 : Nat) : Int)) ?_
   refine op0 ?_
   show _ ∧ _
   have hs_ : otherK a (nodeA a s e) s e (k + 1) = otherK a (nodeA a s e) s e k ++ [(endsL a (nodeA a s e)).getD k dE] := filter_on dE om hc5
   refine ⟨by omega, trivial, ?_⟩
   exact iL [(58, 1), (3, 3)] [((58, 1), .live _), ((3, 3), .live _)] ⟨row_no rfl (by exact congrArg (fun l_ => LObj.mk (enc eEn l_) 100 2) hs_), row_no rfl rfl, trivial⟩ (he := (sS rfl (sS rfl (sM (by exact congrArg (AV.sl 1 0) (congrArg List.length hs_.symm)) (sS rfl (sM rfl sr_none))))))
  refine awp_skip ?_
  refine regR ?_
  refine mG (.i (k : Int)) ?_
  refine oG (qB (.int .i64 ((k + 1 : Nat) : Int)) (addN om) ?_)
  refine mG (.i ((k + 1 : Nat) : Int)) ?_
  refine op0 ?_
  show _ ∧ _
  have hs_ : otherK a (nodeA a s e) s e (k + 1) = otherK a (nodeA a s e) s e k := filter_off dE om hc5
  refine ⟨by omega, trivial, ?_⟩
  exact iL [(1, 1), (3, 3)] [((1, 1), .live _), ((3, 3), .live _)] ⟨row_no rfl (by exact congrArg (fun l_ => LObj.mk (enc eEn l_) 100 2) hs_), row_no rfl rfl, trivial⟩ (he := (sS rfl (sS rfl (sM (by exact congrArg (AV.sl 1 0) (congrArg List.length hs_.symm)) (sS rfl (sM rfl sr_none))))))
 have hf14 := of_decide_eq_false hc4
 refine awp_exit ?_
 refine awp_seq ?_
 refine seqR ?_
 refine mG (.sl 1 0 ((otherK a (nodeA a s e) s e k).length)) ?_
 refine oG (aop_len rfl rfl rfl rfl ut101 (len_sl rfl) ?_)
 refine bG ((.bool (((otherK a (nodeA a s e) s e k).length : Int) != 1))) ?_
 refine op0 ?_
 refine awp_cond (((otherK a (nodeA a s e) s e k).length : Int) != 1) rfl rfl (fun hc6 => ?_) (fun hc6 => ?_)
 ·skip
  have hf15 := (bne_iff_ne).1 hc6
  have hlen : ¬ (otherE a (nodeA a s e) s e).length = 1 := by rw [← otherK_all (k := k) om]; simp at hc6; omega
  refine seqR ?_
  refine mG vN ?_
  refine rU (upd (upd none_ 4 vN) 8 (.sl 1 0 ((otherK a (nodeA a s e) s e k).length))) (Zj a s e k) ?_
  refine awp_imp _ (imp_frozen rfl (fun _ h => h) (lee_lend 4 (.ro 0 []) .nil lee_lend0)) ?_
  refine awp_ret ?_
  exact fret (av := .ro 0 []) rfl rfl (by rw [around_many hn hi hlen]; rfl)
 have hf16 := (bne_eq_false_iff_eq).1 hc6
 have hlen : (otherE a (nodeA a s e) s e).length = 1 := by rw [← otherK_all (k := k) om]; simp at hc6; omega
 refine awp_skip ?_
 refine seqR ?_
 refine mG (.sl 1 0 ((otherK a (nodeA a s e) s e k).length)) ?_
 refine mG (.sl 1 0 ((otherK a (nodeA a s e) s e k).length)) ?_
 refine rU (upd none_ 4 (.sl 1 0 ((otherK a (nodeA a s e) s e k).length))) (Zj a s e k) ?_
 refine awp_imp _ (imp_frozen rfl (fun _ h => h) (lee_lend 4 (.q eEn (otherK a (nodeA a s e) s e k)) (lend_s (id := 1) (n := (otherK a (nodeA a s e) s e k).length) (o := ⟨(enc eEn (otherK a (nodeA a s e) s e k)), 100, 2⟩) rfl (enc_len (fun _ => rfl) (by first | rfl | (simp; done)))) lee_lend0)) ?_
 refine awp_ret ?_
 exact fret (av := .ro ((otherK a (nodeA a s e) s e k).length) (enc eEn (otherK a (nodeA a s e) s e k))) rfl rfl (by rw [around_one hn hi hlen, otherK_all om])
abbrev Z15 (a : List Sec) (c : List Pnt) (d : List Int) (s e : Int) (k : Nat) : List AV := [.i (((aroundL a c ((wst a c d s e k).s) ((wst a c d s e k).e)).getD (legK d (aroundL a c (wst a c d s e k).s (wst a c d s e k).e).length k) dE).en)]
abbrev Z14 (a : List Sec) (c : List Pnt) (d : List Int) (s e : Int) (k : Nat) : List AV := (enc eI ((wst a c d s e k).out))
abbrev Z13 (d : List Int) (g : Int) : Nat → AV := (upd (upd (upd none_ 3 (.q eU8 d)) 4 (.i g)) 5 (.pt 3 0))
abbrev Z12 (a : List Sec) (c : List Pnt) : List AV := [.one, .q eSec a, .one, .q ePnt c, .one, .one, .one, .one, .one, .one]
abbrev Z11 (a : List Sec) (c : List Pnt) (d : List Int) (s e : Int) (k : Nat) : List AV := (enc eEn (aroundL a c ((wst a c d s e k).s) ((wst a c d s e k).e)))
abbrev Z10 (d : List Int) (g : Int) (a : List Sec) (c : List Pnt) (s e : Int) (k : Nat) : Nat → AV := (upd (upd (upd (upd (Z13 d g) 10 vN) 11 (.sl 1 0 ((wst a c d s e k).out.length))) 12 (.pt 2 0)) 13 (.i (k : Int)))
abbrev Zz (a : List Sec) (c : List Pnt) (d : List Int) (s e : Int) (k : Nat) : List AV := [.i (((aroundL a c ((wst a c d s e k).s) ((wst a c d s e k).e)).getD (legK d (aroundL a c (wst a c d s e k).s (wst a c d s e k).e).length k) dE).sec), .i (1 - (((aroundL a c ((wst a c d s e k).s) ((wst a c d s e k).e)).getD (legK d (aroundL a c (wst a c d s e k).s (wst a c d s e k).e).length k) dE).en))]
abbrev Zy (a : List Sec) (c : List Pnt) (d : List Int) (s e : Int) (k : Nat) : AV := (.q eEn (aroundL a c ((wst a c d s e k).s) ((wst a c d s e k).e)))
abbrev Zx (a : List Sec) (c : List Pnt) (d : List Int) (s e : Int) (k : Nat) : List AV := [.i (((aroundL a c ((wst a c d s e k).s) ((wst a c d s e k).e)).getD (legK d (aroundL a c (wst a c d s e k).s (wst a c d s e k).e).length k) dE).sec), .i (((aroundL a c ((wst a c d s e k).s) ((wst a c d s e k).e)).getD (legK d (aroundL a c (wst a c d s e k).s (wst a c d s e k).e).length k) dE).en)]
abbrev Zw (d : List Int) (g : Int) (a : List Sec) (c : List Pnt) (s e : Int) (k : Nat) : Nat → AV := (upd (Z10 d g a c s e k) 14 (Zy a c d s e k))
abbrev Zv (a : List Sec) (c : List Pnt) (d : List Int) (s e : Int) (k : Nat) : Nat → OSt := (updO (updO (updO noOb 1 (.live ⟨(Z14 a c d s e k), 3, 1⟩)) 2 (.live ⟨[.i ((wst a c d s e k).s), .i ((wst a c d s e k).e)], 100, 1⟩)) 3 (.live ⟨(Z12 a c), 33, 1⟩))
abbrev Zu (a : List Sec) (c : List Pnt) (d : List Int) (s e : Int) (k : Nat) : AV := (.rp (((Zx a c d s e k) : List AV) ++ ((Z11 a c d s e k).drop (((legK d (aroundL a c (wst a c d s e k).s (wst a c d s e k).e).length k) + 1) * 2))))
theorem r05_Walk (a : List Sec) (c : List Pnt) (s e : Int) (d : List Int) (g : Int) (hs : a.length ≤ 65536) (hp : c.length ≤ 65536) (ht : d.length ≤ 65536) (hm : g ≤ 65536) (hu : ∀ x, x ∈ d → 0 ≤ x ∧ x ≤ 255) : Fn Try.prog 20 [.agg [.one, .ro a.length (enc eSec a), .one, .ro c.length (enc ePnt c), .one, .one, .one, .one, .one, .one], .v (.int .i64 s), .v (.int .i64 e), .ro d.length (enc eU8 d), .v (.int .i64 g)] (.ro ((walkL a c s e d g).length) (enc eI (walkL a c s e d g))) := by
 refine fnE_of_body (N := 75) Try.func20 rfl rfl (resOf1 rfl) (by simp) (fun w0 X hL_ => ?_)
 refine seqR ?_
 refine oG (qW 51 ?_)
 refine mG vN ?_
 refine op0 ?_
 refine seqR ?_
 refine mG (.i s) ?_
 refine oG (aop_litO 52 rfl rfl rfl ut42 iz3 (by decide) (by decide) rfl rfl rfl rfl ?_)
 refine mG (.sl 52 0 1) ?_
 refine rU (upd (upd (upd (upd (upd (upd (upd none_ 1 (.i s)) 2 (.i e)) 3 (.q eU8 d)) 4 (.i g)) 5 (.pt 51 0)) 10 vN) 11 (.sl 52 0 1)) (updO (updO noOb 51 (.live ⟨(Z12 a c), 33, 1⟩)) 52 (.live ⟨[.i s], 3, 1⟩)) ?_
 refine seqR ?_
 refine mG (.i s) ?_
 refine mG (.i e) ?_
 refine oG (qD pl100 ?_)
 refine oG (aop_alloc 53 rfl rfl rfl rfl ze100 rfl ?_)
 refine oG (qS sz100 ?_)
 refine rU (upd (upd (upd (upd (upd (upd none_ 3 (.q eU8 d)) 4 (.i g)) 5 (.pt 51 0)) 10 vN) 11 (.sl 52 0 1)) 12 (.pt 53 0)) (updO (updO (updO (updO noOb 51 (.live ⟨(Z12 a c), 33, 1⟩)) 52 (.live ⟨[.i s], 3, 1⟩)) 53 (.live ⟨[.i 0, .i 0], 100, 1⟩)) 53 (.live ⟨[.i s, .i e], 100, 1⟩)) ?_
 refine awp_seq ?_
 refine seqR ?_
 refine mG (.i 0) ?_
 refine op0 ?_
 refine awp_block ?_
 refine awp_countI (fun k => ⟨(Z10 d g a c s e k), (Zv a c d s e k)⟩) (fun k => walkR a c d s e g (g.toNat - k) k = walkL a c s e d g) (g.toNat) ?_ rfl (fun k hk_k hinv => ?_)
 ·skip
  exact iL [(52, 1), (53, 2), (51, 3)] [((52, 1), .live _), ((53, 2), .live _), ((51, 3), .live _)] ⟨row_no rfl rfl, row_no rfl rfl, row_no rfl rfl, trivial⟩
 have hwl := wst_len a c d s e k
 have hxl := aroundL_len a c (wst a c d s e k).s (wst a c d s e k).e
 refine awp_seq ?_
 refine seqR ?_
 refine mG (.sl 1 0 ((wst a c d s e k).out.length)) ?_
 refine oG (aop_len rfl rfl rfl rfl ut42 (len_sl rfl) ?_)
 refine mG (.i g) ?_
 refine bG ((.bool (decide (((wst a c d s e k).out.length : Int) < g)))) ?_
 refine rU (upd (Z10 d g a c s e k) 24 (.b (decide (((wst a c d s e k).out.length : Int) < g)))) (Zv a c d s e k) ?_
 refine awp_cond (decide (((wst a c d s e k).out.length : Int) < g)) rfl rfl (fun hc0 => ?_) (fun hc0 => ?_)
 ·skip
  have hf1 := of_decide_eq_true hc0
  have hlt : ((k : Int) + 1 < g) := by omega
  refine awp_skip ?_
  refine awp_seq ?_
  refine awp_block ?_
  refine seqR ?_
  refine oG (qLB (Z12 a c) ag33 sz33 ?_)
  refine oG (qLB [.i ((wst a c d s e k).s), .i ((wst a c d s e k).e)] ag100 sz100 ?_)
  refine oG (qJ (r05_Around a c ((wst a c d s e k).s) ((wst a c d s e k).e) oo oo) bd42 ?_)
  refine mG (Zy a c d s e k) ?_
  refine rU (Zw d g a c s e k) (Zv a c d s e k) ?_
  refine awp_seq ?_
  refine seqR ?_
  refine mG (Zy a c d s e k) ?_
  refine oG (qN ut101 ?_)
  refine bG ((.bool (((aroundL a c ((wst a c d s e k).s) ((wst a c d s e k).e)).length : Int) == 0))) ?_
  refine op0 ?_
  refine awp_cond (((aroundL a c ((wst a c d s e k).s) ((wst a c d s e k).e)).length : Int) == 0) rfl rfl (fun hc1 => ?_) (fun hc1 => ?_)
  ·skip
   have hf2 := (beq_iff_eq).1 hc1
   have hx0 : (aroundL a c (wst a c d s e k).s (wst a c d s e k).e).length = 0 := by simpa using hc1
   refine seqR ?_
   refine mG (.sl 1 0 ((wst a c d s e k).out.length)) ?_
   refine mG (.sl 1 0 ((wst a c d s e k).out.length)) ?_
   refine rU (upd (upd (upd (upd (upd (Z13 d g) 10 (.sl 1 0 ((wst a c d s e k).out.length))) 11 (.sl 1 0 ((wst a c d s e k).out.length))) 12 (.pt 2 0)) 13 (.i (k : Int))) 14 (Zy a c d s e k)) (Zv a c d s e k) ?_
   refine awp_imp _ (imp_frozen rfl (fun _ h => h) (lee_lend 10 (.ro ((wst a c d s e k).out.length) (Z14 a c d s e k)) (lend_s (id := 1) (n := (wst a c d s e k).out.length) (o := ⟨(Z14 a c d s e k), 3, 1⟩) rfl (enc_len (fun _ => rfl) (by first | rfl | (simp; done)))) lee_lend0)) ?_
   refine awp_ret ?_
   exact fret (av := .ro ((wst a c d s e k).out.length) (Z14 a c d s e k)) rfl rfl (by rw [← hinv, walkR_stop (wstop_none hx0)])
  have hf3 := (beq_eq_false_iff_ne).1 hc1
  have hx0 : ¬ (aroundL a c (wst a c d s e k).s (wst a c d s e k).e).length = 0 := by simpa using hc1
  have hlk : legK d (aroundL a c (wst a c d s e k).s (wst a c d s e k).e).length k < (aroundL a c (wst a c d s e k).s (wst a c d s e k).e).length := legK_lt om
  have hye := around_en (getD_mem dE hlk)
  refine awp_skip ?_
  refine seqR ?_
  refine mG (.i 0) ?_
  refine rU (upd (Zw d g a c s e k) 15 (.i 0)) (Zv a c d s e k) ?_
  refine awp_seq ?_
  refine seqR ?_
  refine mG (.i (k : Int)) ?_
  refine mG (.q eU8 d) ?_
  refine oG (qN ut37 ?_)
  refine bG ((.bool (decide ((k : Int) < (d.length : Int))))) ?_
  refine rU (upd (upd (Zw d g a c s e k) 15 (.i 0)) 37 (.b (decide ((k : Int) < (d.length : Int))))) (Zv a c d s e k) ?_
  refine cutG ⟨(upd (Zw d g a c s e k) 15 (.i ((legK d (aroundL a c (wst a c d s e k).s (wst a c d s e k).e).length k : Nat) : Int))), (Zv a c d s e k)⟩ (fun s h => h) ?_ ?_
  ·skip
   refine awp_cond (decide ((k : Int) < (d.length : Int))) rfl rfl (fun hc2 => ?_) (fun hc2 => ?_)
   ·skip
    have hf4 := of_decide_eq_true hc2
    have htk : k < d.length := by simpa using hc2
    have hu0 := hu _ (getD_mem 0 htk)
    refine regR ?_
    refine mG (.q eU8 d) ?_
    refine mG (.i (k : Int)) ?_
    refine oG (qX (0 : Int) ut37 sz5 ?_)
    refine oG (qL (.v (.int .u8 (d.getD k 0))) ag5 ?_)
    refine oG (aop_conv' rfl rfl rfl ut5 ut3 rfl (IntWalk.i64_in _ om) ?_)
    refine mG (Zy a c d s e k) ?_
    refine oG (qN ut101 ?_)
    refine oG (aop_binI (u := (.int .i64 ((d.getD k 0) % ((aroundL a c ((wst a c d s e k).s) ((wst a c d s e k).e)).length : Int)))) rfl rfl rfl rfl rfl (by show _ ≠ _; omega) (remI om) ?_)
    refine mG (.i ((d.getD k 0) % ((aroundL a c ((wst a c d s e k).s) ((wst a c d s e k).e)).length : Int))) ?_
    refine op0 ?_
    show Imp _ _ _
    exact iL [(1, 1), (2, 2), (3, 3)] [((1, 1), .live _), ((2, 2), .live _), ((3, 3), .live _)] ⟨row_no rfl rfl, row_no rfl rfl, row_no rfl rfl, trivial⟩ (he := (sS (by exact congrArg (fun n_ : Int => AV.v (.int .i64 n_)) (by first | exact legK_on htk hu0.1 | exact legK_off htk)) (sS rfl (sS rfl (sM rfl (sM rfl (sS rfl (sM rfl (sS rfl (sS rfl sr_none))))))))))
   have hf5 := of_decide_eq_false hc2
   have htk : ¬ k < d.length := by simpa using hc2
   refine awp_skip ?_
   show Imp _ _ _
   exact iL [(1, 1), (2, 2), (3, 3)] [((1, 1), .live _), ((2, 2), .live _), ((3, 3), .live _)] ⟨row_no rfl rfl, row_no rfl rfl, row_no rfl rfl, trivial⟩ (he := (sS (by exact congrArg (fun n_ : Int => AV.v (.int .i64 n_)) (by first | exact legK_on htk hu0.1 | exact legK_off htk)) (sS rfl (sS rfl (sM rfl (sM rfl (sS rfl (sM rfl (sS rfl (sS rfl sr_none))))))))))
  refine awp_seq ?_
  refine seqR ?_
  refine mG (.sl 1 0 ((wst a c d s e k).out.length)) ?_
  refine mG (Zy a c d s e k) ?_
  refine mG (.i ((legK d (aroundL a c (wst a c d s e k).s (wst a c d s e k).e).length k : Nat) : Int)) ?_
  refine oG (qX dE ut101 sz100 ?_)
  refine oG (qF (Zu a c d s e k) (Zu a c d s e k) ft100_0 sz3 ?_)
  refine oG (qL (.i (((aroundL a c ((wst a c d s e k).s) ((wst a c d s e k).e)).getD (legK d (aroundL a c (wst a c d s e k).s (wst a c d s e k).e).length k) dE).sec)) ag3 ?_)
  refine oG (callL_ (r01_Has ((wst a c d s e k).out) (((aroundL a c ((wst a c d s e k).s) ((wst a c d s e k).e)).getD (legK d (aroundL a c (wst a c d s e k).s (wst a c d s e k).e).length k) dE).sec) oo) rfl rfl rfl rfl rfl bd18 (lends_cons (lend_s (id := 1) (n := (wst a c d s e k).out.length) (o := ⟨(Z14 a c d s e k), 3, 1⟩) rfl (enc_len (fun _ => rfl) (by first | rfl | (simp; done)))) lS) ?_)
  refine rU (upd (upd (Zw d g a c s e k) 15 (.i ((legK d (aroundL a c (wst a c d s e k).s (wst a c d s e k).e).length k : Nat) : Int))) 52 (.b (decide ((((aroundL a c ((wst a c d s e k).s) ((wst a c d s e k).e)).getD (legK d (aroundL a c (wst a c d s e k).s (wst a c d s e k).e).length k) dE).sec) ∈ ((wst a c d s e k).out))))) (Zv a c d s e k) ?_
  refine awp_cond (decide ((((aroundL a c ((wst a c d s e k).s) ((wst a c d s e k).e)).getD (legK d (aroundL a c (wst a c d s e k).s (wst a c d s e k).e).length k) dE).sec) ∈ ((wst a c d s e k).out))) rfl rfl (fun hc3 => ?_) (fun hc3 => ?_)
  ·skip
   have hse : (wnext a c d k (wst a c d s e k)).sec ∈ (wst a c d s e k).out := of_decide_eq_true hc3
   refine seqR ?_
   refine mG (.sl 1 0 ((wst a c d s e k).out.length)) ?_
   refine mG (.sl 1 0 ((wst a c d s e k).out.length)) ?_
   refine op0 ?_
   refine awp_imp _ (imp_frozen rfl (fun _ h => h) (lee_lend 10 (.ro ((wst a c d s e k).out.length) (Z14 a c d s e k)) (lend_s (id := 1) (n := (wst a c d s e k).out.length) (o := ⟨(Z14 a c d s e k), 3, 1⟩) rfl (enc_len (fun _ => rfl) (by first | rfl | (simp; done)))) lee_lend0)) ?_
   refine awp_ret ?_
   exact fret (av := .ro ((wst a c d s e k).out.length) (Z14 a c d s e k)) rfl rfl (by rw [← hinv, walkR_stop (wstop_seen hse)])
  have hns : ¬ (wnext a c d k (wst a c d s e k)).sec ∈ (wst a c d s e k).out := of_decide_eq_false hc3
  refine awp_skip ?_
  refine seqR ?_
  refine mG (.sl 1 0 ((wst a c d s e k).out.length)) ?_
  refine mG (Zy a c d s e k) ?_
  refine mG (.i ((legK d (aroundL a c (wst a c d s e k).s (wst a c d s e k).e).length k : Nat) : Int)) ?_
  refine oG (qX dE ut101 sz100 ?_)
  refine oG (qF (Zu a c d s e k) (Zu a c d s e k) ft100_0 sz3 ?_)
  refine oG (qL (.i (((aroundL a c ((wst a c d s e k).s) ((wst a c d s e k).e)).getD (legK d (aroundL a c (wst a c d s e k).s (wst a c d s e k).e).length k) dE).sec)) ag3 ?_)
  refine oG (aop_lit rfl rfl rfl ut42 iz3 (by decide) (by decide) rfl rfl ?_)
  refine oG (aop_app1 (f := eI) (l := (wst a c d s e k).out) 54 (((aroundL a c ((wst a c d s e k).s) ((wst a c d s e k).e)).getD (legK d (aroundL a c (wst a c d s e k).s (wst a c d s e k).e).length k) dE).sec : Int) rfl rfl rfl rfl ut42 in3 rfl (by decide) rfl rfl rfl rfl rfl rfl (fun _ => rfl) rfl rfl oo oo rfl ?_)
  refine mG (.sl 54 0 ((((wst a c d s e k).out) ++ [(((aroundL a c ((wst a c d s e k).s) ((wst a c d s e k).e)).getD (legK d (aroundL a c (wst a c d s e k).s (wst a c d s e k).e).length k) dE).sec : Int)]).length)) ?_
  refine rU (upd (upd (upd (upd (upd (upd (Z13 d g) 10 vN) 11 (.sl 54 0 ((((wst a c d s e k).out) ++ [(((aroundL a c ((wst a c d s e k).s) ((wst a c d s e k).e)).getD (legK d (aroundL a c (wst a c d s e k).s (wst a c d s e k).e).length k) dE).sec : Int)]).length))) 12 (.pt 2 0)) 13 (.i (k : Int))) 14 (Zy a c d s e k)) 15 (.i ((legK d (aroundL a c (wst a c d s e k).s (wst a c d s e k).e).length k : Nat) : Int))) (updO (updO (Zv a c d s e k) 1 .dead) 54 (.live ⟨(enc eI (((wst a c d s e k).out) ++ [(((aroundL a c ((wst a c d s e k).s) ((wst a c d s e k).e)).getD (legK d (aroundL a c (wst a c d s e k).s (wst a c d s e k).e).length k) dE).sec : Int)])), 3, 1⟩)) ?_
  refine aD 12 [(73, .agg (Zz a c d s e k)), (72, .i (1 - (((aroundL a c ((wst a c d s e k).s) ((wst a c d s e k).e)).getD (legK d (aroundL a c (wst a c d s e k).s (wst a c d s e k).e).length k) dE).en))), (71, .i (((aroundL a c ((wst a c d s e k).s) ((wst a c d s e k).e)).getD (legK d (aroundL a c (wst a c d s e k).s (wst a c d s e k).e).length k) dE).en)), (70, .rp (((Z15 a c d s e k) : List AV) ++ ((Z11 a c d s e k).drop (((legK d (aroundL a c (wst a c d s e k).s (wst a c d s e k).e).length k) + 1) * 2)))), (69, .rp (((Zx a c d s e k) : List AV) ++ ((Z11 a c d s e k).drop (((legK d (aroundL a c (wst a c d s e k).s (wst a c d s e k).e).length k) + 1) * 2)))), (68, .i ((legK d (aroundL a c (wst a c d s e k).s (wst a c d s e k).e).length k : Nat) : Int)), (67, .q eEn (aroundL a c ((wst a c d s e k).s) ((wst a c d s e k).e))), (66, .i (((aroundL a c ((wst a c d s e k).s) ((wst a c d s e k).e)).getD (legK d (aroundL a c (wst a c d s e k).s (wst a c d s e k).e).length k) dE).sec)), (65, .rp (((Zx a c d s e k) : List AV) ++ ((Z11 a c d s e k).drop (((legK d (aroundL a c (wst a c d s e k).s (wst a c d s e k).e).length k) + 1) * 2)))), (64, .rp (((Zx a c d s e k) : List AV) ++ ((Z11 a c d s e k).drop (((legK d (aroundL a c (wst a c d s e k).s (wst a c d s e k).e).length k) + 1) * 2)))), (63, .i ((legK d (aroundL a c (wst a c d s e k).s (wst a c d s e k).e).length k : Nat) : Int)), (62, .q eEn (aroundL a c ((wst a c d s e k).s) ((wst a c d s e k).e)))] mixed ?_ ?_
  ·refine ⟨?_, ?_, ?_, ?_, ?_, ?_, ?_, ?_, ?_, ?_, ?_, ?_, trivial⟩
   ·exact sMv
   ·exact sMv
   ·exact (sIx dE ut101 sz100)
   ·exact sF (Zu a c d s e k) (Zu a c d s e k) ft100_0 sz3
   ·exact (sLd ag3)
   ·exact sMv
   ·exact sMv
   ·exact (sIx dE ut101 sz100)
   ·exact sF (Zu a c d s e k) (.rp (((Z15 a c d s e k) : List AV) ++ ((Z11 a c d s e k).drop (((legK d (aroundL a c (wst a c d s e k).s (wst a c d s e k).e).length k) + 1) * 2)))) ft100_1 sz3
   ·exact (sLd ag3)
   ·exact sB (.int .i64 (1 - (((aroundL a c ((wst a c d s e k).s) ((wst a c d s e k).e)).getD (legK d (aroundL a c (wst a c d s e k).s (wst a c d s e k).e).length k) dE).en))) (subI om)
   exact dW 73 fun st hob hE => aop_build rfl rfl rfl pl100 (by simp only [partsA, List.map, evA, hE 66 rfl, hE 72 rfl]; rfl) (by rw [hob]; rfl)
  refine oG (qS sz100 ?_)
  refine op0 ?_
  refine regR ?_
  refine mG (.i (k : Int)) ?_
  refine oG (qB (.int .i64 ((k + 1 : Nat) : Int)) (addN om) ?_)
  refine mG (.i ((k + 1 : Nat) : Int)) ?_
  refine op0 ?_
  show _ ∧ _
  refine ⟨by omega, (walkR_go (wstop_go om hx0 hns) om hinv), ?_⟩
  exact iL [(54, 1), (2, 2), (3, 3)] [((54, 1), .live _), ((2, 2), .live _), ((3, 3), .live _)] ⟨row_no rfl (by exact congrArg (fun l_ => LObj.mk (enc eI l_) 3 1) rfl), row_no (o := ⟨(Zz a c d s e k), 100, 1⟩) rfl rfl, row_no rfl rfl, trivial⟩
 have hf6 := of_decide_eq_false hc0
 refine awp_exit ?_
 refine seqR ?_
 refine mG (.sl 1 0 ((wst a c d s e k).out.length)) ?_
 refine mG (.sl 1 0 ((wst a c d s e k).out.length)) ?_
 refine op0 ?_
 refine awp_imp _ (imp_frozen rfl (fun _ h => h) (lee_lend 10 (.ro ((wst a c d s e k).out.length) (Z14 a c d s e k)) (lend_s (id := 1) (n := (wst a c d s e k).out.length) (o := ⟨(Z14 a c d s e k), 3, 1⟩) rfl (enc_len (fun _ => rfl) (by first | rfl | (simp; done)))) lee_lend0)) ?_
 refine awp_ret ?_
 exact fret (av := .ro ((wst a c d s e k).out.length) (Z14 a c d s e k)) rfl rfl (by rw [← hinv, walkR_stop (wstop_len om)])
theorem ag22 : aggT Try.prog 22 = some false := by kernel_rfl
theorem ag28 : aggT Try.prog 28 = some false := by kernel_rfl
theorem ag30 : aggT Try.prog 30 = some false := by kernel_rfl
theorem ag42 : aggT Try.prog 42 = some false := by kernel_rfl
theorem ft25_0 : fieldT Try.prog 25 0 = some (5, 0) := by kernel_rfl
theorem ft25_1 : fieldT Try.prog 25 1 = some (5, 1) := by kernel_rfl
theorem ft25_2 : fieldT Try.prog 25 2 = some (5, 2) := by kernel_rfl
theorem ft25_3 : fieldT Try.prog 25 3 = some (22, 3) := by kernel_rfl
theorem ft25_4 : fieldT Try.prog 25 4 = some (22, 4) := by kernel_rfl
theorem ft25_5 : fieldT Try.prog 25 5 = some (5, 5) := by kernel_rfl
theorem ft25_6 : fieldT Try.prog 25 6 = some (5, 6) := by kernel_rfl
theorem ft25_7 : fieldT Try.prog 25 7 = some (5, 7) := by kernel_rfl
theorem ft33_0 : fieldT Try.prog 33 0 = some (28, 0) := by kernel_rfl
theorem ft33_2 : fieldT Try.prog 33 2 = some (30, 2) := by kernel_rfl
theorem ft33_5 : fieldT Try.prog 33 5 = some (3, 5) := by kernel_rfl
theorem ft33_6 : fieldT Try.prog 33 6 = some (2, 6) := by kernel_rfl
theorem ft33_7 : fieldT Try.prog 33 7 = some (2, 7) := by kernel_rfl
theorem ft33_8 : fieldT Try.prog 33 8 = some (2, 8) := by kernel_rfl
theorem ft33_9 : fieldT Try.prog 33 9 = some (2, 9) := by kernel_rfl
theorem in42 : (Try.prog.info? 42).map (fun i => (i.zero, i.size, i.bytes)) = some (some (.slice none 0 0), 1, 24) := by kernel_rfl
theorem in91 : (Try.prog.info? 91).map (fun i => (i.zero, i.size, i.bytes)) = some (some (.complex .f64 0 0), 1, 16) := by kernel_rfl
theorem in94 : (Try.prog.info? 94).map (fun i => (i.zero, i.size, i.bytes)) = some (some (.agg #[(.int .i64 0), (.int .i64 0)]), 2, 16) := by kernel_rfl
theorem in98 : (Try.prog.info? 98).map (fun i => (i.zero, i.size, i.bytes)) = some (some (.agg #[(.int .i64 0), (.int .i64 0), (.int .i64 0)]), 3, 24) := by kernel_rfl
theorem iz42 : (Try.prog.info? 42).map (fun i => (i.zero, i.size)) = some (some (.slice none 0 0), 1) := by kernel_rfl
theorem iz91 : (Try.prog.info? 91).map (fun i => (i.zero, i.size)) = some (some (.complex .f64 0 0), 1) := by kernel_rfl
theorem iz94 : (Try.prog.info? 94).map (fun i => (i.zero, i.size)) = some (some (.agg #[(.int .i64 0), (.int .i64 0)]), 2) := by kernel_rfl
theorem iz96 : (Try.prog.info? 96).map (fun i => (i.zero, i.size)) = some (some (.agg #[(.int .i64 0), (.int .i64 0), (.int .i64 0), (.int .i64 0)]), 4) := by kernel_rfl
theorem iz98 : (Try.prog.info? 98).map (fun i => (i.zero, i.size)) = some (some (.agg #[(.int .i64 0), (.int .i64 0), (.int .i64 0)]), 3) := by kernel_rfl
theorem pl94 : placesOf Try.prog 94 = some ((.agg #[(.int .i64 0), (.int .i64 0)]), fun i => some (i * 1, 1)) := by kernel_rfl
theorem pl96 : placesOf Try.prog 96 = some ((.agg #[(.int .i64 0), (.int .i64 0), (.int .i64 0), (.int .i64 0)]), fun i => ([(0, 1), (1, 1), (2, 1), (3, 1)] : List (Nat × Nat)).toArray[i]?) := by kernel_rfl
theorem pl98 : placesOf Try.prog 98 = some ((.agg #[(.int .i64 0), (.int .i64 0), (.int .i64 0)]), fun i => ([(0, 1), (1, 1), (2, 1)] : List (Nat × Nat)).toArray[i]?) := by kernel_rfl
theorem sz2 : (Try.prog.info? 2).map (·.size) = some 1 := by kernel_rfl
theorem sz22 : (Try.prog.info? 22).map (·.size) = some 1 := by kernel_rfl
theorem sz28 : (Try.prog.info? 28).map (·.size) = some 1 := by kernel_rfl
theorem sz30 : (Try.prog.info? 30).map (·.size) = some 1 := by kernel_rfl
theorem sz42 : (Try.prog.info? 42).map (·.size) = some 1 := by kernel_rfl
theorem sz94 : (Try.prog.info? 94).map (·.size) = some 2 := by kernel_rfl
theorem ut2 : Try.prog.underlying 2 = some (.int .i64) := by kernel_rfl
theorem ut22 : Try.prog.underlying 22 = some (.int .u16) := by kernel_rfl
theorem ut28 : Try.prog.underlying 28 = some (.slice 91) := by kernel_rfl
theorem ut30 : Try.prog.underlying 30 = some (.slice 42) := by kernel_rfl
theorem ut92 : Try.prog.underlying 92 = some (.float .f64) := by kernel_rfl
theorem ut93 : Try.prog.underlying 93 = some (.slice 94) := by kernel_rfl
theorem ut94 : Try.prog.underlying 94 = some (.array 2 3) := by kernel_rfl
theorem ze33 : (Try.prog.info? 33).bind (·.zero) = some (.agg #[(.slice none 0 0), (.slice none 0 0), (.slice none 0 0), (.slice none 0 0), (.slice none 0 0), (.int .i64 0), (.int .i64 0), (.int .i64 0), (.int .i64 0), (.int .i64 0)]) := by kernel_rfl
theorem cxf0 : ∀ n ∈ units, (cxE .mul ((4611686018427387904, 0) : Nat × Nat) ((fuI (n), 0) : Nat × Nat)).isSome = true := by decide +kernel
theorem cxf1 : ∀ n ∈ units, (cxE .add (cx .mul ((4611686018427387904, 0) : Nat × Nat) ((fuI (n), 0) : Nat × Nat)) ((0, fuI (n)) : Nat × Nat)).isSome = true := by decide +kernel
theorem cxf2 : ∀ n ∈ units, (cxE .sub (cx .mul ((4611686018427387904, 0) : Nat × Nat) ((fuI (n), 0) : Nat × Nat)) ((0, fuI (n)) : Nat × Nat)).isSome = true := by decide +kernel
theorem cxf3 : ∀ n ∈ units, (cxE .mul ((4613937818241073152, 0) : Nat × Nat) ((fuI (n), 0) : Nat × Nat)).isSome = true := by decide +kernel
theorem cxf4 : ∀ n ∈ units, (cxE .quo ((0, fuI (n)) : Nat × Nat) ((4611686018427387904, 0) : Nat × Nat)).isSome = true := by decide +kernel
theorem cxf5 : ∀ n ∈ units, (cxE .add (cx .mul ((4613937818241073152, 0) : Nat × Nat) ((fuI (n), 0) : Nat × Nat)) (cx .quo ((0, fuI (n)) : Nat × Nat) ((4611686018427387904, 0) : Nat × Nat))).isSome = true := by decide +kernel
theorem cxf6 : ∀ n ∈ units, (cxE .sub (cx .mul ((4613937818241073152, 0) : Nat × Nat) ((fuI (n), 0) : Nat × Nat)) (cx .quo ((0, fuI (n)) : Nat × Nat) ((4611686018427387904, 0) : Nat × Nat))).isSome = true := by decide +kernel
theorem cxf7 : ∀ n ∈ units, (cxE .mul ((4616189618054758400, 0) : Nat × Nat) ((fuI (n), 0) : Nat × Nat)).isSome = true := by decide +kernel
theorem cxf8 : ∀ n ∈ units, (cxE .mul ((4617315517961601024, 0) : Nat × Nat) ((fuI (n), 0) : Nat × Nat)).isSome = true := by decide +kernel
theorem cxf9 : ∀ n ∈ units, (cxE .mul ((4618441417868443648, 0) : Nat × Nat) ((fuI (n), 0) : Nat × Nat)).isSome = true := by decide +kernel
theorem cxf10 : ∀ n ∈ units, (cxE .add (cx .mul ((4613937818241073152, 0) : Nat × Nat) ((fuI (n), 0) : Nat × Nat)) ((0, fuI (n)) : Nat × Nat)).isSome = true := by decide +kernel
theorem cxf11 : ∀ n ∈ units, (cxE .sub (cx .mul ((4613937818241073152, 0) : Nat × Nat) ((fuI (n), 0) : Nat × Nat)) ((0, fuI (n)) : Nat × Nat)).isSome = true := by decide +kernel
theorem cxf12 : ∀ n ∈ units, (cxE .add (cx .mul ((4616189618054758400, 0) : Nat × Nat) ((fuI (n), 0) : Nat × Nat)) ((0, fuI (n)) : Nat × Nat)).isSome = true := by decide +kernel
theorem cxf13 : ∀ n ∈ units, (cxE .sub (cx .mul ((4616189618054758400, 0) : Nat × Nat) ((fuI (n), 0) : Nat × Nat)) ((0, fuI (n)) : Nat × Nat)).isSome = true := by decide +kernel
abbrev Z24 : Nat → AV := (upd (upd none_ 1 (.pt 2 0)) 2 (.pt 3 0))
abbrev Z23 : List AV := [.i 2, .i 1, .i 2, .i 3, .i 5, .i 6, .i 4, .i 5]
abbrev Z1y (c : Int) (k2 : Nat) (d : Int) : List AV := [.i ((2 * (10 * (1 + (c % 20)))) + ((k2 : Int) % 3)), .i (((mkEnds d).getD k2 dR).a), .i (((mkEnds d).getD k2 dR).b)]
abbrev Z1x : LObj := ⟨[.one, vN, vN, .ro 0 [], vN, .i 0, .i 0, .i 0, .i 0, .i 0], 33, 1⟩
abbrev Z1w (d c : Int) (k2 : Nat) : LObj := ⟨[.one, .sl 4 0 ((mkSecsK d c k2).length), .sl 62 0 (0 + 1), .q ePnt (mkPts d), vN, .i 0, .i 0, .i 0, .i 0, .i 0], 33, 1⟩
abbrev Z1v (d : Int) (k2 : Nat) : List AV := [.i (((mkEnds d).getD k2 dR).a), .i (((mkEnds d).getD k2 dR).b)]
abbrev Z1u : AV := (.ro 3 [.i 0, .i 1, .i 1, .i 2, .i 3, .i 1])
abbrev Z1t : LObj := ⟨[.one, vN, vN, .ro 1 [.i 2, .i 1, .i 3, .i 2], vN, .i 0, .i 0, .i 0, .i 0, .i 0], 33, 1⟩
abbrev Z1s : LObj := ⟨[.one, vN, vN, .ro 1 [.i 1, .i 0, .i 1, .i 2], vN, .i 0, .i 0, .i 0, .i 0, .i 0], 33, 1⟩
abbrev Z1r (k0 : Nat) : LObj := ⟨[.sl 55 0 (((List.replicate k0 ()) ++ [(() : Unit)]).length), vN, vN, vN, vN, .i 0, .i 0, .i 0, .i 0, .i 0], 33, 1⟩
abbrev Z1p (k1 : Nat) : Pr := (⟨(k1 : Int), ((k1 + 1 : Nat) : Int)⟩ : Pr)
abbrev Z1n : LObj := ⟨[.one, vN, vN, .ro 2 Z23, vN, .i 0, .i 0, .i 0, .i 0, .i 0], 33, 1⟩
abbrev Z1m : AV := (.ro 6 [.i 0, .i 1, .i 2, .i 1, .i 2, .i 3, .i 2, .i 4, .i 3, .i 5, .i 4, .i 6])
abbrev Z1l (c : Int) (k2 : Nat) (d : Int) : Sec := (⟨(2 * (10 * (1 + (c % 20)))) + ((k2 : Int) % 3), ((mkEnds d).getD k2 dR).a, ((mkEnds d).getD k2 dR).b⟩ : Sec)
abbrev Z1k (k0 : Nat) : LObj := ⟨[.sl 4 0 ((List.replicate k0 ()).length), vN, vN, vN, vN, .i 0, .i 0, .i 0, .i 0, .i 0], 33, 1⟩
abbrev Z1i : AV := (.ro 8 [.i 0, .i 1, .i 1, .i 2, .i 2, .i 3, .i 2, .i 4, .i 5, .i 3, .i 4, .i 5, .i 5, .i 6, .i 6, .i 7])
abbrev Z1g (d c : Int) (k2 : Nat) : LObj := ⟨(enc eSec (mkSecsK d c k2)), 98, 3⟩
abbrev Z1e (c : Int) : Nat → AV := (upd (upd (upd none_ 1 (.pt 51 0)) 2 (.pt 52 0)) 3 (.i (10 * (1 + (c % 20)))))
abbrev Z1b (c : Int) : Nat → AV := (upd (upd Z24 3 (.i (10 * (1 + (c % 20))))) 6 (.pt 1 0))
abbrev Z19 (c : Int) : List AV := [.v (.complex .f64 (((0, 0) : Nat × Nat)).1 (((0, 0) : Nat × Nat)).2), .v (.complex .f64 (((fuI (10 * (1 + (c % 20))), 0) : Nat × Nat)).1 (((fuI (10 * (1 + (c % 20))), 0) : Nat × Nat)).2), .v (.complex .f64 (cx .add (cx .mul ((4611686018427387904, 0) : Nat × Nat) ((fuI (10 * (1 + (c % 20))), 0) : Nat × Nat)) ((0, fuI (10 * (1 + (c % 20)))) : Nat × Nat)).1 (cx .add (cx .mul ((4611686018427387904, 0) : Nat × Nat) ((fuI (10 * (1 + (c % 20))), 0) : Nat × Nat)) ((0, fuI (10 * (1 + (c % 20)))) : Nat × Nat)).2), .v (.complex .f64 (cx .sub (cx .mul ((4611686018427387904, 0) : Nat × Nat) ((fuI (10 * (1 + (c % 20))), 0) : Nat × Nat)) ((0, fuI (10 * (1 + (c % 20)))) : Nat × Nat)).1 (cx .sub (cx .mul ((4611686018427387904, 0) : Nat × Nat) ((fuI (10 * (1 + (c % 20))), 0) : Nat × Nat)) ((0, fuI (10 * (1 + (c % 20)))) : Nat × Nat)).2)]
abbrev Z18 (c : Int) : List AV := [.v (.complex .f64 (((0, 0) : Nat × Nat)).1 (((0, 0) : Nat × Nat)).2), .v (.complex .f64 (((fuI (10 * (1 + (c % 20))), 0) : Nat × Nat)).1 (((fuI (10 * (1 + (c % 20))), 0) : Nat × Nat)).2), .v (.complex .f64 (cx .mul ((4611686018427387904, 0) : Nat × Nat) ((fuI (10 * (1 + (c % 20))), 0) : Nat × Nat)).1 (cx .mul ((4611686018427387904, 0) : Nat × Nat) ((fuI (10 * (1 + (c % 20))), 0) : Nat × Nat)).2), .v (.complex .f64 (cx .add (cx .mul ((4613937818241073152, 0) : Nat × Nat) ((fuI (10 * (1 + (c % 20))), 0) : Nat × Nat)) ((0, fuI (10 * (1 + (c % 20)))) : Nat × Nat)).1 (cx .add (cx .mul ((4613937818241073152, 0) : Nat × Nat) ((fuI (10 * (1 + (c % 20))), 0) : Nat × Nat)) ((0, fuI (10 * (1 + (c % 20)))) : Nat × Nat)).2), .v (.complex .f64 (cx .sub (cx .mul ((4613937818241073152, 0) : Nat × Nat) ((fuI (10 * (1 + (c % 20))), 0) : Nat × Nat)) ((0, fuI (10 * (1 + (c % 20)))) : Nat × Nat)).1 (cx .sub (cx .mul ((4613937818241073152, 0) : Nat × Nat) ((fuI (10 * (1 + (c % 20))), 0) : Nat × Nat)) ((0, fuI (10 * (1 + (c % 20)))) : Nat × Nat)).2), .v (.complex .f64 (cx .add (cx .mul ((4616189618054758400, 0) : Nat × Nat) ((fuI (10 * (1 + (c % 20))), 0) : Nat × Nat)) ((0, fuI (10 * (1 + (c % 20)))) : Nat × Nat)).1 (cx .add (cx .mul ((4616189618054758400, 0) : Nat × Nat) ((fuI (10 * (1 + (c % 20))), 0) : Nat × Nat)) ((0, fuI (10 * (1 + (c % 20)))) : Nat × Nat)).2), .v (.complex .f64 (cx .sub (cx .mul ((4616189618054758400, 0) : Nat × Nat) ((fuI (10 * (1 + (c % 20))), 0) : Nat × Nat)) ((0, fuI (10 * (1 + (c % 20)))) : Nat × Nat)).1 (cx .sub (cx .mul ((4616189618054758400, 0) : Nat × Nat) ((fuI (10 * (1 + (c % 20))), 0) : Nat × Nat)) ((0, fuI (10 * (1 + (c % 20)))) : Nat × Nat)).2)]
abbrev Z17 (c : Int) : List AV := [.v (.complex .f64 (((0, 0) : Nat × Nat)).1 (((0, 0) : Nat × Nat)).2), .v (.complex .f64 (((fuI (10 * (1 + (c % 20))), 0) : Nat × Nat)).1 (((fuI (10 * (1 + (c % 20))), 0) : Nat × Nat)).2), .v (.complex .f64 (cx .mul ((4611686018427387904, 0) : Nat × Nat) ((fuI (10 * (1 + (c % 20))), 0) : Nat × Nat)).1 (cx .mul ((4611686018427387904, 0) : Nat × Nat) ((fuI (10 * (1 + (c % 20))), 0) : Nat × Nat)).2), .v (.complex .f64 (cx .add (cx .mul ((4613937818241073152, 0) : Nat × Nat) ((fuI (10 * (1 + (c % 20))), 0) : Nat × Nat)) (cx .quo ((0, fuI (10 * (1 + (c % 20)))) : Nat × Nat) ((4611686018427387904, 0) : Nat × Nat))).1 (cx .add (cx .mul ((4613937818241073152, 0) : Nat × Nat) ((fuI (10 * (1 + (c % 20))), 0) : Nat × Nat)) (cx .quo ((0, fuI (10 * (1 + (c % 20)))) : Nat × Nat) ((4611686018427387904, 0) : Nat × Nat))).2), .v (.complex .f64 (cx .sub (cx .mul ((4613937818241073152, 0) : Nat × Nat) ((fuI (10 * (1 + (c % 20))), 0) : Nat × Nat)) (cx .quo ((0, fuI (10 * (1 + (c % 20)))) : Nat × Nat) ((4611686018427387904, 0) : Nat × Nat))).1 (cx .sub (cx .mul ((4613937818241073152, 0) : Nat × Nat) ((fuI (10 * (1 + (c % 20))), 0) : Nat × Nat)) (cx .quo ((0, fuI (10 * (1 + (c % 20)))) : Nat × Nat) ((4611686018427387904, 0) : Nat × Nat))).2), .v (.complex .f64 (cx .mul ((4616189618054758400, 0) : Nat × Nat) ((fuI (10 * (1 + (c % 20))), 0) : Nat × Nat)).1 (cx .mul ((4616189618054758400, 0) : Nat × Nat) ((fuI (10 * (1 + (c % 20))), 0) : Nat × Nat)).2), .v (.complex .f64 (cx .mul ((4617315517961601024, 0) : Nat × Nat) ((fuI (10 * (1 + (c % 20))), 0) : Nat × Nat)).1 (cx .mul ((4617315517961601024, 0) : Nat × Nat) ((fuI (10 * (1 + (c % 20))), 0) : Nat × Nat)).2), .v (.complex .f64 (cx .mul ((4618441417868443648, 0) : Nat × Nat) ((fuI (10 * (1 + (c % 20))), 0) : Nat × Nat)).1 (cx .mul ((4618441417868443648, 0) : Nat × Nat) ((fuI (10 * (1 + (c % 20))), 0) : Nat × Nat)).2)]
abbrev Z16 (d c y g r t w jn : Int) : List AV := [.v (.int .u8 d), .v (.int .u8 c), .v (.int .u8 y), .v (.int .u16 g), .v (.int .u16 r), .v (.int .u8 t), .v (.int .u8 w), .v (.int .u8 jn), .one]
abbrev Z22 (c : Int) : LObj := ⟨[.ro 7 (Z18 c), vN, vN, vN, vN, .i 0, .i 0, .i 0, .i 0, .i 0], 33, 1⟩
abbrev Z21 (c : Int) : LObj := ⟨[.ro 8 (Z17 c), vN, vN, vN, vN, .i 0, .i 0, .i 0, .i 0, .i 0], 33, 1⟩
abbrev Z20 (c : Int) : LObj := ⟨[.ro 4 (Z19 c), vN, vN, vN, vN, .i 0, .i 0, .i 0, .i 0, .i 0], 33, 1⟩
abbrev Z1z (c d : Int) : Nat → AV := (upd (upd (Z1b c) 7 vN) 8 (.i ((rowN d : Nat) : Int)))
abbrev Z1q (c : Int) : Nat → AV := (upd (Z1e c) 6 (.pt 53 0))
abbrev Z1o (c : Int) : Nat → AV := (upd (Z1e c) 4 (.v (.complex .f64 (((fuI (10 * (1 + (c % 20))), 0) : Nat × Nat)).1 (((fuI (10 * (1 + (c % 20))), 0) : Nat × Nat)).2)))
abbrev Z1j (c d : Int) : Nat → AV := (upd (Z1b c) 7 (.q ePr (mkEnds d)))
abbrev Z1h (d c y g r t w jn : Int) : Nat → OSt := (updO (updO noOb 51 (.live ⟨(Z16 d c y g r t w jn), 25, 1⟩)) 52 (.live ⟨[vN, vN, vN, vN, vN, .i 0, .i 0, .i 0, .i 0, .i 0], 33, 1⟩))
abbrev Z1f (c : Int) : Nat → AV := (upd (Z1o c) 5 (.v (.complex .f64 (((0, fuI (10 * (1 + (c % 20)))) : Nat × Nat)).1 (((0, fuI (10 * (1 + (c % 20)))) : Nat × Nat)).2)))
abbrev Z1d (d c : Int) (k2 : Nat) (y g r t w jn : Int) : Nat → OSt := (updO (updO (updO (updO noOb 1 (.live ⟨[.one, .sl 4 0 ((mkSecsK d c k2).length), vN, .q ePnt (mkPts d), vN, .i 0, .i 0, .i 0, .i 0, .i 0], 33, 1⟩)) 2 (.live ⟨(Z16 d c y g r t w jn), 25, 1⟩)) 3 (.live ⟨[vN, vN, vN, vN, vN, .i 0, .i 0, .i 0, .i 0, .i 0], 33, 1⟩)) 4 (.live (Z1g d c k2)))
abbrev Z1c (k0 : Nat) (d c y g r t w jn : Int) : Nat → OSt := (updO (updO (updO (updO noOb 1 (.live (Z1k k0))) 2 (.live ⟨(Z16 d c y g r t w jn), 25, 1⟩)) 3 (.live ⟨[vN, vN, vN, vN, vN, .i 0, .i 0, .i 0, .i 0, .i 0], 33, 1⟩)) 4 (.live ⟨(enc eC (List.replicate k0 ())), 91, 1⟩))
abbrev Z1a (d c y g r t w jn : Int) : Nat → OSt := (updO (Z1h d c y g r t w jn) 53 (.live ⟨[vN, vN, vN, vN, vN, .i 0, .i 0, .i 0, .i 0, .i 0], 33, 1⟩))
theorem r04_Make (d c y g r t w jn : Int) (hf : 0 ≤ d ∧ d ≤ 255) (hl : 0 ≤ c ∧ c ≤ 255) (hs : 0 ≤ y ∧ y ≤ 255) (hm : 0 ≤ g ∧ g ≤ 65535) (hw : 0 ≤ r ∧ r ≤ 65535) (hc : 0 ≤ t ∧ t ≤ 255) (hy : 0 ≤ w ∧ w ≤ 255) (hj : 0 ≤ jn ∧ jn ≤ 255) : Fn Try.prog 19 [.agg [.v (.int .u8 d), .v (.int .u8 c), .v (.int .u8 y), .v (.int .u16 g), .v (.int .u16 r), .v (.int .u8 t), .v (.int .u8 w), .v (.int .u8 jn), .one]] (.agg [.one, .ro ((mkSecs d c).length) (enc eSec (mkSecs d c)), .ro ((mkParts d jn).length) (enc eIL (mkParts d jn)), .ro ((mkPts d).length) (enc ePnt (mkPts d)), vN, .v (.int .i64 (1 + y % (2 * (10 * (1 + c % 20))))), .v (.int .i64 (1 + g % 1000)), .v (.int .i64 (1 + r % 1000)), .v (.int .i64 (1 + t)), .v (.int .i64 (w % 4))]) := by
 have hunit := unit_in c
 have hel := mkEnds_len d
 refine fnC_of_body (N := 250) Try.func19 rfl rfl (by simp) (fun w0 X hL_ => ?_)
 refine seqR ?_
 refine oG (qW 51 ?_)
 refine oG (aop_alloc 52 rfl rfl rfl rfl ze33 rfl ?_)
 refine op0 ?_
 refine seqR ?_
 refine fG (.pt 51 1) ft25_1 sz5 ?_
 refine oG (qL (.v (.int .u8 c)) ag5 ?_)
 refine oG (aop_binI (u := (.int .u8 (c % 20))) rfl rfl rfl rfl rfl (by show _ ≠ _; decide) (remI om) ?_)
 refine oG (aop_conv' rfl rfl rfl ut5 ut3 rfl (IntWalk.i64_in _ om) ?_)
 refine oG (qB (.int .i64 (1 + (c % 20))) (addI om) ?_)
 refine oG (qB (.int .i64 (10 * (1 + (c % 20)))) (mulI om) ?_)
 refine mG (.i (10 * (1 + (c % 20)))) ?_
 refine rU (Z1e c) (Z1h d c y g r t w jn) ?_
 refine seqR ?_
 refine mG (.i (10 * (1 + (c % 20)))) ?_
 refine oG (aop_toFloat rfl rfl rfl ut3 ut92 rfl ?_)
 refine oG (aop_complex rfl rfl rfl rfl rfl rfl ?_)
 refine mG (.v (.complex .f64 (((fuI (10 * (1 + (c % 20))), 0) : Nat × Nat)).1 (((fuI (10 * (1 + (c % 20))), 0) : Nat × Nat)).2)) ?_
 refine rU (Z1o c) (Z1h d c y g r t w jn) ?_
 refine seqR ?_
 refine mG (.i (10 * (1 + (c % 20)))) ?_
 refine oG (aop_toFloat rfl rfl rfl ut3 ut92 rfl ?_)
 refine oG (aop_complex rfl rfl rfl rfl rfl rfl ?_)
 refine mG (.v (.complex .f64 (((0, fuI (10 * (1 + (c % 20)))) : Nat × Nat)).1 (((0, fuI (10 * (1 + (c % 20)))) : Nat × Nat)).2)) ?_
 refine rU (Z1f c) (Z1h d c y g r t w jn) ?_
 refine seqR ?_
 refine oG (aop_alloc 53 rfl rfl rfl rfl ze33 rfl ?_)
 refine op0 ?_
 refine seqR ?_
 refine mG vN ?_
 refine op0 ?_
 refine awp_seq ?_
 refine seqR ?_
 refine fG (.pt 51 0) ft25_0 sz5 ?_
 refine oG (qL (.v (.int .u8 d)) ag5 ?_)
 refine oG (aop_binI (u := (.int .u8 (d % 4))) rfl rfl rfl rfl rfl (by show _ ≠ _; decide) (remI om) ?_)
 refine rU (upd (upd (upd (Z1f c) 6 (.pt 53 0)) 7 vN) 27 (.v (.int .u8 (d % 4)))) (Z1a d c y g r t w jn) ?_
 refine awp_block ?_
 refine seqR ?_
 refine bG ((.bool ((d % 4) == 0))) ?_
 refine mG (.b ((d % 4) == 0)) ?_
 refine op0 ?_
 refine cutG ⟨(Z1j c d), (updO (updO (updO noOb 1 (.live ⟨[.one, vN, vN, .q ePnt (mkPts d), vN, .i 0, .i 0, .i 0, .i 0, .i 0], 33, 1⟩)) 2 (.live ⟨(Z16 d c y g r t w jn), 25, 1⟩)) 3 (.live ⟨[vN, vN, vN, vN, vN, .i 0, .i 0, .i 0, .i 0, .i 0], 33, 1⟩))⟩ (fun s h => h) ?_ ?_
 ·skip
  refine awp_cond ((d % 4) == 0) rfl rfl (fun hc0 => ?_) (fun hc0 => ?_)
  ·skip
   have hf1 := (beq_iff_eq).1 hc0
   have h4 : d % 4 = 0 := by simpa using hc0
   have hE := (ends0 h4).1
   have hP := (ends0 h4).2
   have hri := rowN_int hf
   refine seqR ?_
   refine fG (.pt 51 0) ft25_0 sz5 ?_
   refine oG (qL (.v (.int .u8 d)) ag5 ?_)
   refine oG (aop_binI (u := (.int .u8 (d / 4))) rfl rfl rfl rfl rfl (by show _ ≠ _; decide) (quoU8 om) ?_)
   refine oG (aop_binI (u := (.int .u8 ((d / 4) % 6))) rfl rfl rfl rfl rfl (by show _ ≠ _; decide) (remI om) ?_)
   refine oG (aop_conv' rfl rfl rfl ut5 ut3 rfl (IntWalk.i64_in _ om) ?_)
   refine oG (qB (.int .i64 ((rowN d : Nat) : Int)) (by rw [rowN_int hf]; exact addI om) ?_)
   refine mG (.i ((rowN d : Nat) : Int)) ?_
   refine rU (upd (upd (Z1q c) 7 vN) 8 (.i ((rowN d : Nat) : Int))) (Z1a d c y g r t w jn) ?_
   refine awp_seq ?_
   refine seqR ?_
   refine mG (.i 0) ?_
   refine op0 ?_
   refine awp_block ?_
   refine awp_countI (fun k0 => ⟨(upd (Z1z c d) 9 (.i (k0 : Int))), (Z1c k0 d c y g r t w jn)⟩) (fun k0 => True) (rowN d + 1) ?_ trivial (fun k0 hk_k0 hinv => ?_)
   ·skip
    refine (imp_adoptC 53 0 54 91 1 rfl rfl rfl rfl).trans ?_
    exact iL [(53, 1), (51, 2), (52, 3), (54, 4)] [((53, 1), .live _), ((51, 2), .live _), ((52, 3), .live _), ((54, 4), .live _)] ⟨row_map (o := ⟨[.sl 54 0 0, vN, vN, vN, vN, .i 0, .i 0, .i 0, .i 0, .i 0], 33, 1⟩) rfl (om_ (lm_cons rfl (lm_cons (am_no (a := vN)) (lm_cons (am_no (a := vN)) (lm_cons (am_no (a := vN)) (lm_cons (am_no (a := vN)) (lm_cons (am_no (a := .i 0)) (lm_cons (am_no (a := .i 0)) (lm_cons (am_no (a := .i 0)) (lm_cons (am_no (a := .i 0)) (lm_cons (am_no (a := .i 0)) lm_nil))))))))))) (oks_cons (.sl _ _ _ (by simp)) (oks_cons (ok_no (a := vN)) (oks_cons (ok_no (a := vN)) (oks_cons (ok_no (a := vN)) (oks_cons (ok_no (a := vN)) (oks_cons (ok_no (a := .i 0)) (oks_cons (ok_no (a := .i 0)) (oks_cons (ok_no (a := .i 0)) (oks_cons (ok_no (a := .i 0)) (oks_cons (ok_no (a := .i 0)) oks_nil)))))))))), row_no rfl rfl, row_no rfl rfl, row_no (o := ⟨[], 91, 1⟩) rfl rfl, trivial⟩
   have hrl : (List.replicate k0 ()).length = k0 := by simp
   refine awp_seq ?_
   refine seqR ?_
   refine mG (.i (k0 : Int)) ?_
   refine mG (.i ((rowN d : Nat) : Int)) ?_
   refine bG ((.bool (decide ((k0 : Int) ≤ ((rowN d : Nat) : Int))))) ?_
   refine op0 ?_
   refine awp_cond (decide ((k0 : Int) ≤ ((rowN d : Nat) : Int))) rfl rfl (fun hc1 => ?_) (fun hc1 => ?_)
   ·skip
    have hf2 := of_decide_eq_true hc1
    refine awp_skip ?_
    refine awp_seq ?_
    refine awp_block ?_
    refine regR ?_
    refine fG (.pt 1 0) ft33_0 sz28 ?_
    refine oG (qL (.sl 4 0 ((List.replicate k0 ()).length)) ag28 ?_)
    refine mG (.i (10 * (1 + (c % 20)))) ?_
    refine mG (.i (k0 : Int)) ?_
    refine oG (qB (.int .i64 (10 * (1 + c % 20) * (k0 : Int))) (mulI (mulB om om)) ?_)
    refine oG (aop_toFloat rfl rfl rfl ut3 ut92 rfl ?_)
    refine oG (aop_complexOne rfl rfl rfl rfl rfl rfl ?_)
    refine oG (aop_lit rfl rfl rfl ut28 iz91 (by decide) (by decide) rfl rfl ?_)
    refine oG (aop_app1 (f := eC) (l := List.replicate k0 ()) 55 (() : Unit) rfl rfl rfl rfl ut28 in91 rfl (by decide) rfl rfl rfl rfl rfl rfl (fun _ => rfl) rfl rfl oo oo rfl ?_)
    refine fG (.pt 1 0) ft33_0 sz28 ?_
    refine oG (qS sz28 ?_)
    refine op0 ?_
    refine rT (upd (Z1z c d) 9 (.i (k0 : Int))) (updO (updO (updO (Z1c k0 d c y g r t w jn) 4 .dead) 55 (.live ⟨(enc eC ((List.replicate k0 ()) ++ [(() : Unit)])), 91, 1⟩)) 1 (.live (Z1r k0))) ?_
    refine regR ?_
    refine mG (.i (k0 : Int)) ?_
    refine oG (qB (.int .i64 ((k0 + 1 : Nat) : Int)) (addN om) ?_)
    refine mG (.i ((k0 + 1 : Nat) : Int)) ?_
    refine op0 ?_
    show _ ∧ _
    have hs_ : List.replicate (k0 + 1) () = List.replicate k0 () ++ [()] := List.replicate_succ'
    refine ⟨by omega, trivial, ?_⟩
    exact iL [(1, 1), (2, 2), (3, 3), (55, 4)] [((1, 1), .live _), ((2, 2), .live _), ((3, 3), .live _), ((55, 4), .live _)] ⟨row_map (o := (Z1r k0)) rfl (by (try simp only [Z23, Z22, Z21, Z20, Z1y, Z1x, Z1w, Z1v, Z1t, Z1s, Z1r, Z1n, Z1k, Z1g, Z19, Z18, Z17, Z16]); rw [hs_]; exact (om_ (lm_cons rfl (lm_cons (am_no (a := vN)) (lm_cons (am_no (a := vN)) (lm_cons (am_no (a := vN)) (lm_cons (am_no (a := vN)) (lm_cons (am_no (a := .i 0)) (lm_cons (am_no (a := .i 0)) (lm_cons (am_no (a := .i 0)) (lm_cons (am_no (a := .i 0)) (lm_cons (am_no (a := .i 0)) lm_nil)))))))))))) (oks_cons (.sl _ _ _ (by simp)) (oks_cons (ok_no (a := vN)) (oks_cons (ok_no (a := vN)) (oks_cons (ok_no (a := vN)) (oks_cons (ok_no (a := vN)) (oks_cons (ok_no (a := .i 0)) (oks_cons (ok_no (a := .i 0)) (oks_cons (ok_no (a := .i 0)) (oks_cons (ok_no (a := .i 0)) (oks_cons (ok_no (a := .i 0)) oks_nil)))))))))), row_no rfl rfl, row_no rfl rfl, row_no rfl (by exact congrArg (fun l_ => LObj.mk (enc eC l_) 91 1) hs_), trivial⟩
   have hf3 := of_decide_eq_false hc1
   refine awp_exit ?_
   refine seqR ?_
   refine mG (.i 0) ?_
   refine rU (upd (Z1z c d) 10 (.i 0)) (Z1c k0 d c y g r t w jn) ?_
   refine awp_block ?_
   refine awp_countI (fun k1 => ⟨(upd (upd (upd (Z1b c) 7 (.sl 5 0 ((rowE k1).length))) 8 (.i ((rowN d : Nat) : Int))) 10 (.i (k1 : Int))), (updO (Z1c k0 d c y g r t w jn) 5 (.live ⟨(enc ePr (rowE k1)), 94, 2⟩))⟩) (fun k1 => True) (rowN d) ?_ trivial (fun k1 hk_k1 hinv => ?_)
   ·skip
    refine (imp_adopt 7 56 94 2 rfl rfl).trans ?_
    exact iL [(1, 1), (2, 2), (3, 3), (4, 4), (56, 5)] [((1, 1), .live _), ((2, 2), .live _), ((3, 3), .live _), ((4, 4), .live _), ((56, 5), .live _)] ⟨row_map (o := (Z1k k0)) rfl (om_ (lm_cons rfl (lm_cons (am_no (a := vN)) (lm_cons (am_no (a := vN)) (lm_cons (am_no (a := vN)) (lm_cons (am_no (a := vN)) (lm_cons (am_no (a := .i 0)) (lm_cons (am_no (a := .i 0)) (lm_cons (am_no (a := .i 0)) (lm_cons (am_no (a := .i 0)) (lm_cons (am_no (a := .i 0)) lm_nil))))))))))) (oks_cons (.sl _ _ _ (by simp)) (oks_cons (ok_no (a := vN)) (oks_cons (ok_no (a := vN)) (oks_cons (ok_no (a := vN)) (oks_cons (ok_no (a := vN)) (oks_cons (ok_no (a := .i 0)) (oks_cons (ok_no (a := .i 0)) (oks_cons (ok_no (a := .i 0)) (oks_cons (ok_no (a := .i 0)) (oks_cons (ok_no (a := .i 0)) oks_nil)))))))))), row_no rfl rfl, row_no rfl rfl, row_no rfl rfl, row_no (o := ⟨[], 94, 2⟩) rfl rfl, trivial⟩
   have hrw := rowE_len k1
   refine awp_seq ?_
   refine seqR ?_
   refine mG (.i (k1 : Int)) ?_
   refine mG (.i ((rowN d : Nat) : Int)) ?_
   refine bG ((.bool (decide ((k1 : Int) < ((rowN d : Nat) : Int))))) ?_
   refine op0 ?_
   refine awp_cond (decide ((k1 : Int) < ((rowN d : Nat) : Int))) rfl rfl (fun hc2 => ?_) (fun hc2 => ?_)
   ·skip
    have hf4 := of_decide_eq_true hc2
    refine awp_skip ?_
    refine awp_seq ?_
    refine awp_block ?_
    refine regR ?_
    refine mG (.sl 5 0 ((rowE k1).length)) ?_
    refine mG (.i (k1 : Int)) ?_
    refine mG (.i (k1 : Int)) ?_
    refine oG (qB (.int .i64 ((k1 + 1 : Nat) : Int)) (addN om) ?_)
    refine oG (qD pl94 ?_)
    refine oG (aop_lit rfl rfl rfl ut93 iz94 (by decide) (by decide) rfl rfl ?_)
    refine oG (aop_app1 (f := ePr) (l := rowE k1) 57 (Z1p k1) rfl rfl rfl rfl ut93 in94 rfl (by decide) rfl rfl rfl rfl rfl rfl (fun _ => rfl) rfl rfl oo oo rfl ?_)
    refine mG (.sl 57 0 (((rowE k1) ++ [(Z1p k1)]).length)) ?_
    refine op0 ?_
    refine rT (upd (upd (upd (Z1b c) 7 (.sl 57 0 (((rowE k1) ++ [(Z1p k1)]).length))) 8 (.i ((rowN d : Nat) : Int))) 10 (.i (k1 : Int))) (updO (updO (updO (Z1c k0 d c y g r t w jn) 5 (.live ⟨(enc ePr (rowE k1)), 94, 2⟩)) 5 .dead) 57 (.live ⟨(enc ePr ((rowE k1) ++ [(Z1p k1)])), 94, 2⟩)) ?_
    refine regR ?_
    refine mG (.i (k1 : Int)) ?_
    refine oG (qB (.int .i64 ((k1 + 1 : Nat) : Int)) (addN om) ?_)
    refine mG (.i ((k1 + 1 : Nat) : Int)) ?_
    refine op0 ?_
    show _ ∧ _
    refine ⟨by omega, trivial, ?_⟩
    exact iL [(1, 1), (2, 2), (3, 3), (4, 4), (57, 5)] [((1, 1), .live _), ((2, 2), .live _), ((3, 3), .live _), ((4, 4), .live _), ((57, 5), .live _)] ⟨row_map (o := (Z1k k0)) rfl (om_ (lm_cons rfl (lm_cons (am_no (a := vN)) (lm_cons (am_no (a := vN)) (lm_cons (am_no (a := vN)) (lm_cons (am_no (a := vN)) (lm_cons (am_no (a := .i 0)) (lm_cons (am_no (a := .i 0)) (lm_cons (am_no (a := .i 0)) (lm_cons (am_no (a := .i 0)) (lm_cons (am_no (a := .i 0)) lm_nil))))))))))) (oks_cons (.sl _ _ _ (by simp)) (oks_cons (ok_no (a := vN)) (oks_cons (ok_no (a := vN)) (oks_cons (ok_no (a := vN)) (oks_cons (ok_no (a := vN)) (oks_cons (ok_no (a := .i 0)) (oks_cons (ok_no (a := .i 0)) (oks_cons (ok_no (a := .i 0)) (oks_cons (ok_no (a := .i 0)) (oks_cons (ok_no (a := .i 0)) oks_nil)))))))))), row_no rfl rfl, row_no rfl rfl, row_no rfl rfl, row_no rfl (by exact congrArg (fun l_ => LObj.mk (enc ePr l_) 94 2) rfl), trivial⟩
   have hf5 := of_decide_eq_false hc2
   have hkk : k1 = rowN d := by omega
   refine awp_exit ?_
   show Imp _ _ _
   refine (frz_ [2, 3, 1] [(2, ⟨(Z16 d c y g r t w jn), 25, 1⟩), (3, ⟨[vN, vN, vN, vN, vN, .i 0, .i 0, .i 0, .i 0, .i 0], 33, 1⟩), (1, Z1x)] rfl (fun _ h => h) ⟨keep_cells (cs := (Z16 d c y g r t w jn)) (by simp) rfl rfl fzA, keep_cells (cs := [vN, vN, vN, vN, vN, .i 0, .i 0, .i 0, .i 0, .i 0]) (by simp) rfl rfl fzA, keep_cells (cs := [.sl 4 0 ((List.replicate k0 ()).length), vN, vN, vN, vN, .i 0, .i 0, .i 0, .i 0, .i 0]) (by simp) rfl rfl (frzs_cons (.inr (.one _ rfl)) (frzs_cons (.inl rfl) (frzs_cons (.inl rfl) (frzs_cons (.inr .nil) fzA)))), trivial⟩ (fz_lend 7 (.q ePr (rowE k1)) (lend_s (id := 5) (n := (rowE k1).length) (o := ⟨(enc ePr (rowE k1)), 94, 2⟩) rfl (enc_len (fun _ => rfl) (by first | rfl | (simp; done)))) (fz_same 6 (.pt 1 0) rfl (fz_same 3 (.i (10 * (1 + (c % 20)))) rfl (fz_same 2 (.pt 3 0) rfl (fz_same 1 (.pt 2 0) rfl fz_none)))))).trans ?_
   exact iL [(1, 1), (2, 2), (3, 3)] [((1, 1), .live _), ((2, 2), .live _), ((3, 3), .live _)] ⟨row_no (o := Z1x) rfl (by rw [hP]; rfl), row_no (o := ⟨(Z16 d c y g r t w jn), 25, 1⟩) rfl rfl, row_no (o := ⟨[vN, vN, vN, vN, vN, .i 0, .i 0, .i 0, .i 0, .i 0], 33, 1⟩) rfl rfl, trivial⟩ (he := (sS (by first | (rw [hE]; rfl) | (rw [hE, ← hkk]; rfl)) (sM rfl (sS rfl (sM rfl (sM rfl sr_none))))))
  have hf6 := (beq_eq_false_iff_ne).1 hc0
  have h40 : ¬ d % 4 = 0 := by simpa using hc0
  refine seqR ?_
  refine bG ((.bool ((d % 4) == 1))) ?_
  refine mG (.b ((d % 4) == 1)) ?_
  refine rU (upd (upd (upd (upd (Z1f c) 6 (.pt 53 0)) 7 vN) 27 (.v (.int .u8 (d % 4)))) 94 (.b ((d % 4) == 1))) (Z1a d c y g r t w jn) ?_
  refine awp_cond ((d % 4) == 1) rfl rfl (fun hc3 => ?_) (fun hc3 => ?_)
  ·skip
   have hf7 := (beq_iff_eq).1 hc3
   have h4 : d % 4 = 1 := by simpa using hc3
   have hE := (ends1 h4).1
   have hP := (ends1 h4).2
   refine seqR ?_
   refine mG (.v (.complex .f64 (((fuI (10 * (1 + (c % 20))), 0) : Nat × Nat)).1 (((fuI (10 * (1 + (c % 20))), 0) : Nat × Nat)).2)) ?_
   refine mG (.v (.complex .f64 (((fuI (10 * (1 + (c % 20))), 0) : Nat × Nat)).1 (((fuI (10 * (1 + (c % 20))), 0) : Nat × Nat)).2)) ?_
   refine oG (aop_cx ((4611686018427387904, 0) : Nat × Nat) ((fuI (10 * (1 + (c % 20))), 0) : Nat × Nat) rfl rfl rfl rfl rfl (by simp) (cxf0 _ hunit) ?_)
   refine mG (.v (.complex .f64 (((0, fuI (10 * (1 + (c % 20)))) : Nat × Nat)).1 (((0, fuI (10 * (1 + (c % 20)))) : Nat × Nat)).2)) ?_
   refine oG (aop_cx (cx .mul ((4611686018427387904, 0) : Nat × Nat) ((fuI (10 * (1 + (c % 20))), 0) : Nat × Nat)) ((0, fuI (10 * (1 + (c % 20)))) : Nat × Nat) rfl rfl rfl rfl rfl (by simp) (cxf1 _ hunit) ?_)
   refine mG (.v (.complex .f64 (((fuI (10 * (1 + (c % 20))), 0) : Nat × Nat)).1 (((fuI (10 * (1 + (c % 20))), 0) : Nat × Nat)).2)) ?_
   refine oG (aop_cx ((4611686018427387904, 0) : Nat × Nat) ((fuI (10 * (1 + (c % 20))), 0) : Nat × Nat) rfl rfl rfl rfl rfl (by simp) (cxf0 _ hunit) ?_)
   refine mG (.v (.complex .f64 (((0, fuI (10 * (1 + (c % 20)))) : Nat × Nat)).1 (((0, fuI (10 * (1 + (c % 20)))) : Nat × Nat)).2)) ?_
   refine oG (aop_cx (cx .mul ((4611686018427387904, 0) : Nat × Nat) ((fuI (10 * (1 + (c % 20))), 0) : Nat × Nat)) ((0, fuI (10 * (1 + (c % 20)))) : Nat × Nat) rfl rfl rfl rfl rfl (by simp) (cxf2 _ hunit) ?_)
   refine oG (aop_lit rfl rfl rfl ut28 iz91 (by decide) (by decide) rfl rfl ?_)
   refine fG (.pt 53 0) ft33_0 sz28 ?_
   refine oG (qS sz28 ?_)
   refine rU (upd (Z1q c) 7 vN) (updO (Z1a d c y g r t w jn) 53 (.live (Z20 c))) ?_
   refine seqR ?_
   refine oG (qD pl94 ?_)
   refine oG (qD pl94 ?_)
   refine oG (qD pl94 ?_)
   refine oG (aop_lit rfl rfl rfl ut93 iz94 (by decide) (by decide) rfl rfl ?_)
   refine mG Z1u ?_
   refine rU (upd (Z1q c) 7 Z1u) (updO (Z1a d c y g r t w jn) 53 (.live (Z20 c))) ?_
   refine regR ?_
   refine oG (qD pl96 ?_)
   refine oG (aop_lit rfl rfl rfl ut31 iz96 (by decide) (by decide) rfl rfl ?_)
   refine fG (.pt 53 3) ft33_3 sz31 ?_
   refine oG (qS sz31 ?_)
   refine op0 ?_
   show Imp _ _ _
   refine (frz_ [51, 52, 53] [(51, ⟨(Z16 d c y g r t w jn), 25, 1⟩), (52, ⟨[vN, vN, vN, vN, vN, .i 0, .i 0, .i 0, .i 0, .i 0], 33, 1⟩), (53, Z1s)] rfl (fun _ h => h) ⟨keep_cells (cs := (Z16 d c y g r t w jn)) (by simp) rfl rfl fzA, keep_cells (cs := [vN, vN, vN, vN, vN, .i 0, .i 0, .i 0, .i 0, .i 0]) (by simp) rfl rfl fzA, keep_cells (cs := [.ro 4 (Z19 c), vN, vN, .ro 1 [.i 1, .i 0, .i 1, .i 2], vN, .i 0, .i 0, .i 0, .i 0, .i 0]) (by simp) rfl rfl (frzs_cons (.inr (.one _ rfl)) fzA), trivial⟩ (fz_same 7 Z1u rfl (fz_same 6 (.pt 53 0) rfl (fz_same 3 (.i (10 * (1 + (c % 20)))) rfl (fz_same 2 (.pt 52 0) rfl (fz_same 1 (.pt 51 0) rfl fz_none)))))).trans ?_
   exact iL [(53, 1), (51, 2), (52, 3)] [((53, 1), .live _), ((51, 2), .live _), ((52, 3), .live _)] ⟨row_no (o := Z1s) rfl (by rw [hP]; rfl), row_no (o := ⟨(Z16 d c y g r t w jn), 25, 1⟩) rfl rfl, row_no (o := ⟨[vN, vN, vN, vN, vN, .i 0, .i 0, .i 0, .i 0, .i 0], 33, 1⟩) rfl rfl, trivial⟩ (he := (sS (by first | (rw [hE]; rfl) | (rw [hE, ← hkk]; rfl)) (sM rfl (sS rfl (sM rfl (sM rfl sr_none))))))
  have hf8 := (beq_eq_false_iff_ne).1 hc3
  have h41 : ¬ d % 4 = 1 := by simpa using hc3
  refine seqR ?_
  refine bG ((.bool ((d % 4) == 2))) ?_
  refine mG (.b ((d % 4) == 2)) ?_
  refine op0 ?_
  refine awp_cond ((d % 4) == 2) rfl rfl (fun hc4 => ?_) (fun hc4 => ?_)
  ·skip
   have hf9 := (beq_iff_eq).1 hc4
   have h4 : d % 4 = 2 := by simpa using hc4
   have hE := (ends2 h4).1
   have hP := (ends2 h4).2
   refine seqR ?_
   refine mG (.v (.complex .f64 (((fuI (10 * (1 + (c % 20))), 0) : Nat × Nat)).1 (((fuI (10 * (1 + (c % 20))), 0) : Nat × Nat)).2)) ?_
   refine mG (.v (.complex .f64 (((fuI (10 * (1 + (c % 20))), 0) : Nat × Nat)).1 (((fuI (10 * (1 + (c % 20))), 0) : Nat × Nat)).2)) ?_
   refine oG (aop_cx ((4611686018427387904, 0) : Nat × Nat) ((fuI (10 * (1 + (c % 20))), 0) : Nat × Nat) rfl rfl rfl rfl rfl (by simp) (cxf0 _ hunit) ?_)
   refine mG (.v (.complex .f64 (((fuI (10 * (1 + (c % 20))), 0) : Nat × Nat)).1 (((fuI (10 * (1 + (c % 20))), 0) : Nat × Nat)).2)) ?_
   refine oG (aop_cx ((4613937818241073152, 0) : Nat × Nat) ((fuI (10 * (1 + (c % 20))), 0) : Nat × Nat) rfl rfl rfl rfl rfl (by simp) (cxf3 _ hunit) ?_)
   refine mG (.v (.complex .f64 (((0, fuI (10 * (1 + (c % 20)))) : Nat × Nat)).1 (((0, fuI (10 * (1 + (c % 20)))) : Nat × Nat)).2)) ?_
   refine oG (aop_cx ((0, fuI (10 * (1 + (c % 20)))) : Nat × Nat) ((4611686018427387904, 0) : Nat × Nat) rfl rfl rfl rfl rfl (by simp) (cxf4 _ hunit) ?_)
   refine oG (aop_cx (cx .mul ((4613937818241073152, 0) : Nat × Nat) ((fuI (10 * (1 + (c % 20))), 0) : Nat × Nat)) (cx .quo ((0, fuI (10 * (1 + (c % 20)))) : Nat × Nat) ((4611686018427387904, 0) : Nat × Nat)) rfl rfl rfl rfl rfl (by simp) (cxf5 _ hunit) ?_)
   refine mG (.v (.complex .f64 (((fuI (10 * (1 + (c % 20))), 0) : Nat × Nat)).1 (((fuI (10 * (1 + (c % 20))), 0) : Nat × Nat)).2)) ?_
   refine oG (aop_cx ((4613937818241073152, 0) : Nat × Nat) ((fuI (10 * (1 + (c % 20))), 0) : Nat × Nat) rfl rfl rfl rfl rfl (by simp) (cxf3 _ hunit) ?_)
   refine mG (.v (.complex .f64 (((0, fuI (10 * (1 + (c % 20)))) : Nat × Nat)).1 (((0, fuI (10 * (1 + (c % 20)))) : Nat × Nat)).2)) ?_
   refine oG (aop_cx ((0, fuI (10 * (1 + (c % 20)))) : Nat × Nat) ((4611686018427387904, 0) : Nat × Nat) rfl rfl rfl rfl rfl (by simp) (cxf4 _ hunit) ?_)
   refine oG (aop_cx (cx .mul ((4613937818241073152, 0) : Nat × Nat) ((fuI (10 * (1 + (c % 20))), 0) : Nat × Nat)) (cx .quo ((0, fuI (10 * (1 + (c % 20)))) : Nat × Nat) ((4611686018427387904, 0) : Nat × Nat)) rfl rfl rfl rfl rfl (by simp) (cxf6 _ hunit) ?_)
   refine mG (.v (.complex .f64 (((fuI (10 * (1 + (c % 20))), 0) : Nat × Nat)).1 (((fuI (10 * (1 + (c % 20))), 0) : Nat × Nat)).2)) ?_
   refine oG (aop_cx ((4616189618054758400, 0) : Nat × Nat) ((fuI (10 * (1 + (c % 20))), 0) : Nat × Nat) rfl rfl rfl rfl rfl (by simp) (cxf7 _ hunit) ?_)
   refine mG (.v (.complex .f64 (((fuI (10 * (1 + (c % 20))), 0) : Nat × Nat)).1 (((fuI (10 * (1 + (c % 20))), 0) : Nat × Nat)).2)) ?_
   refine oG (aop_cx ((4617315517961601024, 0) : Nat × Nat) ((fuI (10 * (1 + (c % 20))), 0) : Nat × Nat) rfl rfl rfl rfl rfl (by simp) (cxf8 _ hunit) ?_)
   refine mG (.v (.complex .f64 (((fuI (10 * (1 + (c % 20))), 0) : Nat × Nat)).1 (((fuI (10 * (1 + (c % 20))), 0) : Nat × Nat)).2)) ?_
   refine oG (aop_cx ((4618441417868443648, 0) : Nat × Nat) ((fuI (10 * (1 + (c % 20))), 0) : Nat × Nat) rfl rfl rfl rfl rfl (by simp) (cxf9 _ hunit) ?_)
   refine oG (aop_lit rfl rfl rfl ut28 iz91 (by decide) (by decide) rfl rfl ?_)
   refine fG (.pt 53 0) ft33_0 sz28 ?_
   refine oG (qS sz28 ?_)
   refine rU (upd (Z1q c) 7 vN) (updO (Z1a d c y g r t w jn) 53 (.live (Z21 c))) ?_
   refine seqR ?_
   refine oG (qD pl94 ?_)
   refine oG (qD pl94 ?_)
   refine oG (qD pl94 ?_)
   refine oG (qD pl94 ?_)
   refine oG (qD pl94 ?_)
   refine oG (qD pl94 ?_)
   refine oG (qD pl94 ?_)
   refine oG (qD pl94 ?_)
   refine oG (aop_lit rfl rfl rfl ut93 iz94 (by decide) (by decide) rfl rfl ?_)
   refine mG Z1i ?_
   refine rU (upd (Z1q c) 7 Z1i) (updO (Z1a d c y g r t w jn) 53 (.live (Z21 c))) ?_
   refine regR ?_
   refine oG (qD pl96 ?_)
   refine oG (qD pl96 ?_)
   refine oG (aop_lit rfl rfl rfl ut31 iz96 (by decide) (by decide) rfl rfl ?_)
   refine fG (.pt 53 3) ft33_3 sz31 ?_
   refine oG (qS sz31 ?_)
   refine op0 ?_
   show Imp _ _ _
   refine (frz_ [51, 52, 53] [(51, ⟨(Z16 d c y g r t w jn), 25, 1⟩), (52, ⟨[vN, vN, vN, vN, vN, .i 0, .i 0, .i 0, .i 0, .i 0], 33, 1⟩), (53, Z1n)] rfl (fun _ h => h) ⟨keep_cells (cs := (Z16 d c y g r t w jn)) (by simp) rfl rfl fzA, keep_cells (cs := [vN, vN, vN, vN, vN, .i 0, .i 0, .i 0, .i 0, .i 0]) (by simp) rfl rfl fzA, keep_cells (cs := [.ro 8 (Z17 c), vN, vN, .ro 2 Z23, vN, .i 0, .i 0, .i 0, .i 0, .i 0]) (by simp) rfl rfl (frzs_cons (.inr (.one _ rfl)) fzA), trivial⟩ (fz_same 7 Z1i rfl (fz_same 6 (.pt 53 0) rfl (fz_same 3 (.i (10 * (1 + (c % 20)))) rfl (fz_same 2 (.pt 52 0) rfl (fz_same 1 (.pt 51 0) rfl fz_none)))))).trans ?_
   exact iL [(53, 1), (51, 2), (52, 3)] [((53, 1), .live _), ((51, 2), .live _), ((52, 3), .live _)] ⟨row_no (o := Z1n) rfl (by rw [hP]; rfl), row_no (o := ⟨(Z16 d c y g r t w jn), 25, 1⟩) rfl rfl, row_no (o := ⟨[vN, vN, vN, vN, vN, .i 0, .i 0, .i 0, .i 0, .i 0], 33, 1⟩) rfl rfl, trivial⟩ (he := (sS (by first | (rw [hE]; rfl) | (rw [hE, ← hkk]; rfl)) (sM rfl (sS rfl (sM rfl (sM rfl sr_none))))))
  have hf10 := (beq_eq_false_iff_ne).1 hc4
  have h42 : ¬ d % 4 = 2 := by simpa using hc4
  have hE := (ends3 h40 h41 h42).1
  have hP := (ends3 h40 h41 h42).2
  refine seqR ?_
  refine mG (.v (.complex .f64 (((fuI (10 * (1 + (c % 20))), 0) : Nat × Nat)).1 (((fuI (10 * (1 + (c % 20))), 0) : Nat × Nat)).2)) ?_
  refine mG (.v (.complex .f64 (((fuI (10 * (1 + (c % 20))), 0) : Nat × Nat)).1 (((fuI (10 * (1 + (c % 20))), 0) : Nat × Nat)).2)) ?_
  refine oG (aop_cx ((4611686018427387904, 0) : Nat × Nat) ((fuI (10 * (1 + (c % 20))), 0) : Nat × Nat) rfl rfl rfl rfl rfl (by simp) (cxf0 _ hunit) ?_)
  refine mG (.v (.complex .f64 (((fuI (10 * (1 + (c % 20))), 0) : Nat × Nat)).1 (((fuI (10 * (1 + (c % 20))), 0) : Nat × Nat)).2)) ?_
  refine oG (aop_cx ((4613937818241073152, 0) : Nat × Nat) ((fuI (10 * (1 + (c % 20))), 0) : Nat × Nat) rfl rfl rfl rfl rfl (by simp) (cxf3 _ hunit) ?_)
  refine mG (.v (.complex .f64 (((0, fuI (10 * (1 + (c % 20)))) : Nat × Nat)).1 (((0, fuI (10 * (1 + (c % 20)))) : Nat × Nat)).2)) ?_
  refine oG (aop_cx (cx .mul ((4613937818241073152, 0) : Nat × Nat) ((fuI (10 * (1 + (c % 20))), 0) : Nat × Nat)) ((0, fuI (10 * (1 + (c % 20)))) : Nat × Nat) rfl rfl rfl rfl rfl (by simp) (cxf10 _ hunit) ?_)
  refine mG (.v (.complex .f64 (((fuI (10 * (1 + (c % 20))), 0) : Nat × Nat)).1 (((fuI (10 * (1 + (c % 20))), 0) : Nat × Nat)).2)) ?_
  refine oG (aop_cx ((4613937818241073152, 0) : Nat × Nat) ((fuI (10 * (1 + (c % 20))), 0) : Nat × Nat) rfl rfl rfl rfl rfl (by simp) (cxf3 _ hunit) ?_)
  refine mG (.v (.complex .f64 (((0, fuI (10 * (1 + (c % 20)))) : Nat × Nat)).1 (((0, fuI (10 * (1 + (c % 20)))) : Nat × Nat)).2)) ?_
  refine oG (aop_cx (cx .mul ((4613937818241073152, 0) : Nat × Nat) ((fuI (10 * (1 + (c % 20))), 0) : Nat × Nat)) ((0, fuI (10 * (1 + (c % 20)))) : Nat × Nat) rfl rfl rfl rfl rfl (by simp) (cxf11 _ hunit) ?_)
  refine mG (.v (.complex .f64 (((fuI (10 * (1 + (c % 20))), 0) : Nat × Nat)).1 (((fuI (10 * (1 + (c % 20))), 0) : Nat × Nat)).2)) ?_
  refine oG (aop_cx ((4616189618054758400, 0) : Nat × Nat) ((fuI (10 * (1 + (c % 20))), 0) : Nat × Nat) rfl rfl rfl rfl rfl (by simp) (cxf7 _ hunit) ?_)
  refine mG (.v (.complex .f64 (((0, fuI (10 * (1 + (c % 20)))) : Nat × Nat)).1 (((0, fuI (10 * (1 + (c % 20)))) : Nat × Nat)).2)) ?_
  refine oG (aop_cx (cx .mul ((4616189618054758400, 0) : Nat × Nat) ((fuI (10 * (1 + (c % 20))), 0) : Nat × Nat)) ((0, fuI (10 * (1 + (c % 20)))) : Nat × Nat) rfl rfl rfl rfl rfl (by simp) (cxf12 _ hunit) ?_)
  refine mG (.v (.complex .f64 (((fuI (10 * (1 + (c % 20))), 0) : Nat × Nat)).1 (((fuI (10 * (1 + (c % 20))), 0) : Nat × Nat)).2)) ?_
  refine oG (aop_cx ((4616189618054758400, 0) : Nat × Nat) ((fuI (10 * (1 + (c % 20))), 0) : Nat × Nat) rfl rfl rfl rfl rfl (by simp) (cxf7 _ hunit) ?_)
  refine mG (.v (.complex .f64 (((0, fuI (10 * (1 + (c % 20)))) : Nat × Nat)).1 (((0, fuI (10 * (1 + (c % 20)))) : Nat × Nat)).2)) ?_
  refine oG (aop_cx (cx .mul ((4616189618054758400, 0) : Nat × Nat) ((fuI (10 * (1 + (c % 20))), 0) : Nat × Nat)) ((0, fuI (10 * (1 + (c % 20)))) : Nat × Nat) rfl rfl rfl rfl rfl (by simp) (cxf13 _ hunit) ?_)
  refine oG (aop_lit rfl rfl rfl ut28 iz91 (by decide) (by decide) rfl rfl ?_)
  refine fG (.pt 53 0) ft33_0 sz28 ?_
  refine oG (qS sz28 ?_)
  refine rU (upd (Z1q c) 7 vN) (updO (Z1a d c y g r t w jn) 53 (.live (Z22 c))) ?_
  refine seqR ?_
  refine oG (qD pl94 ?_)
  refine oG (qD pl94 ?_)
  refine oG (qD pl94 ?_)
  refine oG (qD pl94 ?_)
  refine oG (qD pl94 ?_)
  refine oG (qD pl94 ?_)
  refine oG (aop_lit rfl rfl rfl ut93 iz94 (by decide) (by decide) rfl rfl ?_)
  refine mG Z1m ?_
  refine rU (upd (Z1q c) 7 Z1m) (updO (Z1a d c y g r t w jn) 53 (.live (Z22 c))) ?_
  refine regR ?_
  refine oG (qD pl96 ?_)
  refine oG (aop_lit rfl rfl rfl ut31 iz96 (by decide) (by decide) rfl rfl ?_)
  refine fG (.pt 53 3) ft33_3 sz31 ?_
  refine oG (qS sz31 ?_)
  refine op0 ?_
  show Imp _ _ _
  refine (frz_ [51, 52, 53] [(51, ⟨(Z16 d c y g r t w jn), 25, 1⟩), (52, ⟨[vN, vN, vN, vN, vN, .i 0, .i 0, .i 0, .i 0, .i 0], 33, 1⟩), (53, Z1t)] rfl (fun _ h => h) ⟨keep_cells (cs := (Z16 d c y g r t w jn)) (by simp) rfl rfl fzA, keep_cells (cs := [vN, vN, vN, vN, vN, .i 0, .i 0, .i 0, .i 0, .i 0]) (by simp) rfl rfl fzA, keep_cells (cs := [.ro 7 (Z18 c), vN, vN, .ro 1 [.i 2, .i 1, .i 3, .i 2], vN, .i 0, .i 0, .i 0, .i 0, .i 0]) (by simp) rfl rfl (frzs_cons (.inr (.one _ rfl)) fzA), trivial⟩ (fz_same 7 Z1m rfl (fz_same 6 (.pt 53 0) rfl (fz_same 3 (.i (10 * (1 + (c % 20)))) rfl (fz_same 2 (.pt 52 0) rfl (fz_same 1 (.pt 51 0) rfl fz_none)))))).trans ?_
  exact iL [(53, 1), (51, 2), (52, 3)] [((53, 1), .live _), ((51, 2), .live _), ((52, 3), .live _)] ⟨row_no (o := Z1t) rfl (by rw [hP]; rfl), row_no (o := ⟨(Z16 d c y g r t w jn), 25, 1⟩) rfl rfl, row_no (o := ⟨[vN, vN, vN, vN, vN, .i 0, .i 0, .i 0, .i 0, .i 0], 33, 1⟩) rfl rfl, trivial⟩ (he := (sS (by first | (rw [hE]; rfl) | (rw [hE, ← hkk]; rfl)) (sM rfl (sS rfl (sM rfl (sM rfl sr_none))))))
 refine awp_seq ?_
 refine seqR ?_
 refine mG (.i 0) ?_
 refine op0 ?_
 refine awp_block ?_
 refine awp_countI (fun k2 => ⟨(upd (Z1j c d) 11 (.i (k2 : Int))), (Z1d d c k2 y g r t w jn)⟩) (fun k2 => True) ((mkEnds d).length) ?_ trivial (fun k2 hk_k2 hinv => ?_)
 ·skip
  refine (imp_adoptC 1 1 58 98 3 rfl rfl rfl rfl).trans ?_
  exact iL [(1, 1), (2, 2), (3, 3), (58, 4)] [((1, 1), .live _), ((2, 2), .live _), ((3, 3), .live _), ((58, 4), .live _)] ⟨row_map (o := ⟨[.one, .sl 58 0 0, vN, .q ePnt (mkPts d), vN, .i 0, .i 0, .i 0, .i 0, .i 0], 33, 1⟩) rfl (om_ (lm_cons (am_no (a := .one)) (lm_cons rfl (lm_cons (am_no (a := vN)) (lm_cons (am_no (a := .q ePnt (mkPts d))) (lm_cons (am_no (a := vN)) (lm_cons (am_no (a := .i 0)) (lm_cons (am_no (a := .i 0)) (lm_cons (am_no (a := .i 0)) (lm_cons (am_no (a := .i 0)) (lm_cons (am_no (a := .i 0)) lm_nil))))))))))) (oks_cons (ok_no (a := .one)) (oks_cons (.sl _ _ _ (by simp)) (oks_cons (ok_no (a := vN)) (oks_cons (ok_no (a := .q ePnt (mkPts d))) (oks_cons (ok_no (a := vN)) (oks_cons (ok_no (a := .i 0)) (oks_cons (ok_no (a := .i 0)) (oks_cons (ok_no (a := .i 0)) (oks_cons (ok_no (a := .i 0)) (oks_cons (ok_no (a := .i 0)) oks_nil)))))))))), row_no rfl rfl, row_no rfl rfl, row_no (o := ⟨[], 98, 3⟩) rfl rfl, trivial⟩
 have hml := mkSecsK_len d c k2
 refine awp_seq ?_
 refine seqR ?_
 refine mG (.i (k2 : Int)) ?_
 refine mG (.q ePr (mkEnds d)) ?_
 refine oG (qN ut93 ?_)
 refine bG ((.bool (decide ((k2 : Int) < ((mkEnds d).length : Int))))) ?_
 refine rU (upd (upd (Z1j c d) 11 (.i (k2 : Int))) 153 (.b (decide ((k2 : Int) < ((mkEnds d).length : Int))))) (Z1d d c k2 y g r t w jn) ?_
 refine awp_cond (decide ((k2 : Int) < ((mkEnds d).length : Int))) rfl rfl (fun hc5 => ?_) (fun hc5 => ?_)
 ·skip
  have hf11 := of_decide_eq_true hc5
  refine awp_skip ?_
  refine awp_seq ?_
  refine awp_block ?_
  refine aD 19 [(174, .ro 1 (Z1y c k2 d)), (173, .agg (Z1y c k2 d)), (172, .i (((mkEnds d).getD k2 dR).b)), (171, .rp (([.i (((mkEnds d).getD k2 dR).b)] : List AV) ++ ((enc ePr (mkEnds d)).drop ((k2 + 1) * 2)))), (170, .rp (((Z1v d k2) : List AV) ++ ((enc ePr (mkEnds d)).drop ((k2 + 1) * 2)))), (169, .i (k2 : Int)), (168, .q ePr (mkEnds d)), (167, .i (((mkEnds d).getD k2 dR).a)), (166, .rp (((Z1v d k2) : List AV) ++ ((enc ePr (mkEnds d)).drop ((k2 + 1) * 2)))), (165, .rp (((Z1v d k2) : List AV) ++ ((enc ePr (mkEnds d)).drop ((k2 + 1) * 2)))), (164, .i (k2 : Int)), (163, .q ePr (mkEnds d)), (162, .i ((2 * (10 * (1 + (c % 20)))) + ((k2 : Int) % 3))), (161, .i ((k2 : Int) % 3)), (160, .i (k2 : Int)), (159, .i (2 * (10 * (1 + (c % 20))))), (158, .i (10 * (1 + (c % 20)))), (157, .sl 4 0 ((mkSecsK d c k2).length)), (156, .pt 1 1)] mixed ?_ ?_
  ·iterate 19 (refine ⟨?_, ?_⟩; rotate_left)
   trivial
   ·exact sF (.pt 1 0) (.pt 1 1) ft33_1 sz29
   ·exact sL ag29
   ·exact sMv
   ·exact sB (.int .i64 (2 * (10 * (1 + (c % 20))))) (mulI om)
   ·exact sMv
   ·exact dW 161 fun st hob hE => aop_binI (u := (.int .i64 ((k2 : Int) % 3))) rfl rfl rfl (hE 160 rfl) rfl (by show _ ≠ _; decide) (remI om) (by rw [hob]; rfl)
   ·exact sB (.int .i64 ((2 * (10 * (1 + (c % 20)))) + ((k2 : Int) % 3))) (addI om)
   ·exact sMv
   ·exact sMv
   ·exact (sIx dR ut93 sz94)
   ·exact dW 166 fun st hob hE => aop_ixArr (i := 0) rfl rfl rfl ut94 sz3 (hE 165 rfl) rfl (by decide) (by rw [hob]; rfl)
   ·exact (sLd ag3)
   ·exact sMv
   ·exact sMv
   ·exact (sIx dR ut93 sz94)
   ·exact dW 171 fun st hob hE => aop_ixArr (i := 1) rfl rfl rfl ut94 sz3 (hE 170 rfl) rfl (by decide) (by rw [hob]; rfl)
   ·exact (sLd ag3)
   ·exact dW 173 fun st hob hE => aop_build rfl rfl rfl pl98 (by simp only [partsA, List.map, evA, hE 162 rfl, hE 167 rfl, hE 172 rfl]; rfl) (by rw [hob]; rfl)
   exact dW 174 fun st hob hE => aop_lit rfl rfl rfl ut29 iz98 (by decide) (by decide) (by simp only [partsA, List.map, evA, hE 173 rfl]; rfl) rfl (by rw [hob]; rfl)
  refine oG (aop_app1 (f := eSec) (l := mkSecsK d c k2) 59 (Z1l c k2 d) rfl rfl rfl rfl ut29 in98 rfl (by decide) rfl rfl rfl rfl rfl rfl (fun _ => rfl) rfl rfl oo oo rfl ?_)
  refine fG (.pt 1 1) ft33_1 sz29 ?_
  refine oG (qS sz29 ?_)
  refine op0 ?_
  refine regR ?_
  refine mG (.i (k2 : Int)) ?_
  refine oG (qB (.int .i64 ((k2 + 1 : Nat) : Int)) (addN om) ?_)
  refine mG (.i ((k2 + 1 : Nat) : Int)) ?_
  refine op0 ?_
  show _ ∧ _
  refine ⟨by omega, trivial, ?_⟩
  exact iL [(1, 1), (2, 2), (3, 3), (59, 4)] [((1, 1), .live _), ((2, 2), .live _), ((3, 3), .live _), ((59, 4), .live _)] ⟨row_map (o := ⟨[.one, .sl 59 0 (((mkSecsK d c k2) ++ [(Z1l c k2 d)]).length), vN, .q ePnt (mkPts d), vN, .i 0, .i 0, .i 0, .i 0, .i 0], 33, 1⟩) rfl (om_ (lm_cons (am_no (a := .one)) (lm_cons rfl (lm_cons (am_no (a := vN)) (lm_cons (am_no (a := .q ePnt (mkPts d))) (lm_cons (am_no (a := vN)) (lm_cons (am_no (a := .i 0)) (lm_cons (am_no (a := .i 0)) (lm_cons (am_no (a := .i 0)) (lm_cons (am_no (a := .i 0)) (lm_cons (am_no (a := .i 0)) lm_nil))))))))))) (oks_cons (ok_no (a := .one)) (oks_cons (.sl _ _ _ (by simp)) (oks_cons (ok_no (a := vN)) (oks_cons (ok_no (a := .q ePnt (mkPts d))) (oks_cons (ok_no (a := vN)) (oks_cons (ok_no (a := .i 0)) (oks_cons (ok_no (a := .i 0)) (oks_cons (ok_no (a := .i 0)) (oks_cons (ok_no (a := .i 0)) (oks_cons (ok_no (a := .i 0)) oks_nil)))))))))), row_no rfl rfl, row_no rfl rfl, row_no (o := ⟨(enc eSec ((mkSecsK d c k2) ++ [(Z1l c k2 d)])), 98, 3⟩) rfl (by exact congrArg (fun l_ => LObj.mk (enc eSec l_) 98 3) rfl), trivial⟩
 have hf12 := of_decide_eq_false hc5
 have hk2 : k2 = (mkEnds d).length := by omega
 have hml := mkSecsK_len d c k2
 refine awp_exit ?_
 refine awp_seq ?_
 refine seqR ?_
 refine mG (.i 0) ?_
 refine op0 ?_
 refine awp_block ?_
 refine awp_peelI (fun k3 => ⟨(upd (Z1j c d) 12 (.i ((k3 + 1 : Nat) : Int))), (updO (updO (updO (updO (updO (updO noOb 1 (.live ⟨[.one, .sl 4 0 ((mkSecsK d c k2).length), .sl 5 0 (partN jn k3), .q ePnt (mkPts d), vN, .i 0, .i 0, .i 0, .i 0, .i 0], 33, 1⟩)) 2 (.live ⟨(Z16 d c y g r t w jn), 25, 1⟩)) 3 (.live ⟨[vN, vN, vN, vN, vN, .i 0, .i 0, .i 0, .i 0, .i 0], 33, 1⟩)) 4 (.live (Z1g d c k2))) 5 (.live ⟨(enc eIL (partD jn (k3 + 1)) ++ [.sl 6 0 ((partD.partT jn (k3 + 1)).length)]), 42, 1⟩)) 6 (.live ⟨(enc eI (partD.partT jn (k3 + 1))), 3, 1⟩))⟩) (fun k3 => True) ((mkEnds d).length - 1) ?_ (fun k3 hk_k3 hinv => ?_)
 ·skip
  refine awp_seq ?_
  refine seqR ?_
  refine mG (.i 0) ?_
  refine mG (.q ePr (mkEnds d)) ?_
  refine oG (qN ut93 ?_)
  refine bG ((.bool (decide (0 < ((mkEnds d).length : Int))))) ?_
  refine rU (upd (upd (Z1j c d) 12 (.i 0)) 180 (.b (decide (0 < ((mkEnds d).length : Int))))) (Z1d d c k2 y g r t w jn) ?_
  refine awp_cond (decide (0 < ((mkEnds d).length : Int))) rfl rfl (fun hc6 => ?_) (fun hc6 => ?_)
  ·skip
   have hf13 := of_decide_eq_true hc6
   refine awp_skip ?_
   refine awp_seq ?_
   refine awp_block ?_
   refine seqR ?_
   refine mG (.i 0) ?_
   refine bG ((.bool (decide ((0 : Int) > 0)))) ?_
   refine mG (.b (decide ((0 : Int) > 0))) ?_
   refine aops_grp 8 193 (.b ((decide ((0 : Int) > 0)) && (((jn.fdiv (2 ^ (0))) % 2) == 1))) ?_ ?_
   ·refine (Bool.eq_false_or_eq_true (decide ((0 : Int) > 0))).elim (fun hg14 => ?_) (fun hg14 => ?_)
    ·skip
     have hf15 := of_decide_eq_true hg14
     refine oY hg14 (qF (.pt 2 0) (.pt 2 7) ft25_7 sz5 ?_)
     refine oY hg14 (qL (.v (.int .u8 jn)) ag5 ?_)
     refine oY hg14 (qM (.i 0) ?_)
     refine oY hg14 (aop_binI (u := (.int .i64 (0 % 8))) rfl rfl rfl rfl rfl (by show _ ≠ _; decide) (remI om) ?_)
     refine oY hg14 (aop_shr (n := 0) rfl rfl rfl rfl rfl (by show _ ≤ 8; omega) ?_)
     refine oY hg14 (aop_binI (u := (.int .u8 ((jn.fdiv (2 ^ (0))) % 2))) rfl rfl rfl rfl rfl (by show _ ≠ _; decide) (remFdiv hj _) ?_)
     refine oY hg14 (qB (.bool (((jn.fdiv (2 ^ (0))) % 2) == 1)) rfl ?_)
     refine oG (qP (decide ((0 : Int) > 0)) (.b (((jn.fdiv (2 ^ (0))) % 2) == 1)) hg14 ?_)
     refine op0 ?_
     exact imp_env (lee_both 193 _ _ (by rw [hg14] <;> rfl) lO)
    have hf16 := of_decide_eq_false hg14
    refine nG hg14 ?_
    refine nG hg14 ?_
    refine nG hg14 ?_
    refine nG hg14 ?_
    refine nG hg14 ?_
    refine nG hg14 ?_
    refine nG hg14 ?_
    refine oG (qP (decide ((0 : Int) > 0)) (.b false) hg14 ?_)
    refine op0 ?_
    exact imp_env (lee_both 193 _ _ (by rw [hg14] <;> rfl) lO)
   refine op0 ?_
   refine awp_cond ((decide ((0 : Int) > 0)) && (((jn.fdiv (2 ^ (0))) % 2) == 1)) rfl rfl (fun hc7 => ?_) (fun hc7 => ?_)
   ·skip
    obtain ⟨hf17a, hf17b⟩ := and_t hc7
    have hf18 := of_decide_eq_true hf17a
    have hf19 := (beq_iff_eq).1 hf17b
    exfalso; simp at hc7
   refine regR ?_
   refine fG (.pt 1 2) ft33_2 sz30 ?_
   refine oG (qL vN ag30 ?_)
   refine mG (.i 0) ?_
   refine oG (aop_litO 60 rfl rfl rfl ut42 iz3 (by decide) (by decide) rfl rfl rfl rfl ?_)
   refine oG (aop_lit rfl rfl rfl ut30 iz42 (by decide) (by decide) rfl rfl ?_)
   refine oG (aop_adopt 213 61 42 1 rfl rfl (aop_append 62 rfl rfl rfl rfl ut30 in42 rfl (by decide) rfl rfl rfl rfl (by simp [enc_length (f := eIL) (s := 1) (fun _ => rfl), partN]) rfl rfl om om rfl rfl ?_))
   refine fG (.pt 1 2) ft33_2 sz30 ?_
   refine oG (qS sz30 ?_)
   refine op0 ?_
   refine rT (upd (Z1j c d) 12 (.i 0)) (updO (updO (updO (updO (updO (Z1d d c k2 y g r t w jn) 60 (.live ⟨[.i 0], 3, 1⟩)) 61 (.live ⟨[], 42, 1⟩)) 61 .dead) 62 (.live ⟨[.sl 60 0 1], 42, 1⟩)) 1 (.live (Z1w d c k2))) ?_
   refine regR ?_
   refine mG (.i 0) ?_
   refine oG (qB (.int .i64 (0 + 1)) (addI om) ?_)
   refine mG (.i (0 + 1)) ?_
   refine op0 ?_
   show _ ∧ _
   refine ⟨trivial, ?_⟩
   exact iL [(1, 1), (2, 2), (3, 3), (4, 4), (62, 5), (60, 6)] [((1, 1), .live _), ((2, 2), .live _), ((3, 3), .live _), ((4, 4), .live _), ((62, 5), .live _), ((60, 6), .live _)] ⟨row_map (o := (Z1w d c k2)) rfl (by rw [partN_zero]; exact (om_ (lm_cons (am_no (a := .one)) (lm_cons rfl (lm_cons rfl (lm_cons (am_no (a := .q ePnt (mkPts d))) (lm_cons (am_no (a := vN)) (lm_cons (am_no (a := .i 0)) (lm_cons (am_no (a := .i 0)) (lm_cons (am_no (a := .i 0)) (lm_cons (am_no (a := .i 0)) (lm_cons (am_no (a := .i 0)) lm_nil)))))))))))) (oks_cons (ok_no (a := .one)) (oks_cons (.sl _ _ _ (by simp)) (oks_cons (.sl _ _ _ (by simp)) (oks_cons (ok_no (a := .q ePnt (mkPts d))) (oks_cons (ok_no (a := vN)) (oks_cons (ok_no (a := .i 0)) (oks_cons (ok_no (a := .i 0)) (oks_cons (ok_no (a := .i 0)) (oks_cons (ok_no (a := .i 0)) (oks_cons (ok_no (a := .i 0)) oks_nil)))))))))), row_no rfl rfl, row_no rfl rfl, row_no rfl rfl, row_map (o := ⟨[.sl 60 0 1], 42, 1⟩) rfl (by rw [partD_one, partT_one]; exact (om_ (lm_cons rfl lm_nil))) (oks_cons (.sl _ _ _ (by simp)) oks_nil), row_no rfl (by rw [partT_one]; rfl), trivial⟩
  have hf20 := of_decide_eq_false hc6
  exfalso; simp at hc6; omega
 have hpn := partN_le jn k3
 have hpt := partT_len jn (k3 + 1)
 refine awp_seq ?_
 refine seqR ?_
 refine mG (.i ((k3 + 1 : Nat) : Int)) ?_
 refine mG (.q ePr (mkEnds d)) ?_
 refine oG (qN ut93 ?_)
 refine bG ((.bool (decide (((k3 + 1 : Nat) : Int) < ((mkEnds d).length : Int))))) ?_
 refine rU (upd (upd (Z1j c d) 12 (.i ((k3 + 1 : Nat) : Int))) 180 (.b (decide (((k3 + 1 : Nat) : Int) < ((mkEnds d).length : Int))))) (updO (updO (updO (updO (updO (updO noOb 1 (.live ⟨[.one, .sl 4 0 ((mkSecsK d c k2).length), .sl 5 0 (partN jn k3), .q ePnt (mkPts d), vN, .i 0, .i 0, .i 0, .i 0, .i 0], 33, 1⟩)) 2 (.live ⟨(Z16 d c y g r t w jn), 25, 1⟩)) 3 (.live ⟨[vN, vN, vN, vN, vN, .i 0, .i 0, .i 0, .i 0, .i 0], 33, 1⟩)) 4 (.live (Z1g d c k2))) 5 (.live ⟨(enc eIL (partD jn (k3 + 1)) ++ [.sl 6 0 ((partD.partT jn (k3 + 1)).length)]), 42, 1⟩)) 6 (.live ⟨(enc eI (partD.partT jn (k3 + 1))), 3, 1⟩)) ?_
 refine awp_cond (decide (((k3 + 1 : Nat) : Int) < ((mkEnds d).length : Int))) rfl rfl (fun hc8 => ?_) (fun hc8 => ?_)
 ·skip
  have hf21 := of_decide_eq_true hc8
  refine awp_skip ?_
  refine awp_seq ?_
  refine awp_block ?_
  refine seqR ?_
  refine mG (.i ((k3 + 1 : Nat) : Int)) ?_
  refine bG ((.bool (decide (((k3 + 1 : Nat) : Int) > 0)))) ?_
  refine mG (.b (decide (((k3 + 1 : Nat) : Int) > 0))) ?_
  refine aops_grp 8 193 (.b ((decide (((k3 + 1 : Nat) : Int) > 0)) && (((jn.fdiv (2 ^ ((k3 + 1) % 8))) % 2) == 1))) ?_ ?_
  ·refine (Bool.eq_false_or_eq_true (decide (((k3 + 1 : Nat) : Int) > 0))).elim (fun hg22 => ?_) (fun hg22 => ?_)
   ·skip
    have hf23 := of_decide_eq_true hg22
    refine oY hg22 (qF (.pt 2 0) (.pt 2 7) ft25_7 sz5 ?_)
    refine oY hg22 (qL (.v (.int .u8 jn)) ag5 ?_)
    refine oY hg22 (qM (.i ((k3 + 1 : Nat) : Int)) ?_)
    refine oY hg22 (aop_binI (u := (.int .i64 (((k3 + 1 : Nat) : Int) % 8))) rfl rfl rfl rfl rfl (by show _ ≠ _; decide) (remI om) ?_)
    refine oY hg22 (aop_shr (n := (k3 + 1) % 8) rfl rfl rfl rfl rfl (by show _ ≤ 8; omega) ?_)
    refine oY hg22 (aop_binI (u := (.int .u8 ((jn.fdiv (2 ^ ((k3 + 1) % 8))) % 2))) rfl rfl rfl rfl rfl (by show _ ≠ _; decide) (remFdiv hj _) ?_)
    refine oY hg22 (qB (.bool (((jn.fdiv (2 ^ ((k3 + 1) % 8))) % 2) == 1)) rfl ?_)
    refine oG (qP (decide (((k3 + 1 : Nat) : Int) > 0)) (.b (((jn.fdiv (2 ^ ((k3 + 1) % 8))) % 2) == 1)) hg22 ?_)
    refine op0 ?_
    exact imp_env (lee_both 193 _ _ (by rw [hg22] <;> rfl) lO)
   have hf24 := of_decide_eq_false hg22
   refine nG hg22 ?_
   refine nG hg22 ?_
   refine nG hg22 ?_
   refine nG hg22 ?_
   refine nG hg22 ?_
   refine nG hg22 ?_
   refine nG hg22 ?_
   refine oG (qP (decide (((k3 + 1 : Nat) : Int) > 0)) (.b false) hg22 ?_)
   refine op0 ?_
   exact imp_env (lee_both 193 _ _ (by rw [hg22] <;> rfl) lO)
  refine op0 ?_
  refine awp_cond ((decide (((k3 + 1 : Nat) : Int) > 0)) && (((jn.fdiv (2 ^ ((k3 + 1) % 8))) % 2) == 1)) rfl rfl (fun hc9 => ?_) (fun hc9 => ?_)
  ·skip
   obtain ⟨hf25a, hf25b⟩ := and_t hc9
   have hf26 := of_decide_eq_true hf25a
   have hf27 := (beq_iff_eq).1 hf25b
   have hjn : joinB jn (k3 + 1) = true := (joinB_int jn (k3 + 1)).trans hc9
   refine awp_drawZ (m := 17) (fun b => (updO (updO (updO (updO (updO (updO (updO noOb 1 (.live ⟨[.one, .sl 4 0 ((mkSecsK d c k2).length), .sl 5 0 (partN jn k3), .q ePnt (mkPts d), vN, .i 0, .i 0, .i 0, .i 0, .i 0], 33, 1⟩)) 2 (.live ⟨(Z16 d c y g r t w jn), 25, 1⟩)) 3 (.live ⟨[vN, vN, vN, vN, vN, .i 0, .i 0, .i 0, .i 0, .i 0], 33, 1⟩)) 4 (.live (Z1g d c k2))) 5 (.live ⟨(enc eIL (partD jn (k3 + 1)) ++ [.sl 6 0 ((partD.partT jn (k3 + 1)).length)]), 42, 1⟩)) 6 (cond (b 16) .dead (.live ⟨(enc eI (partD.partT jn (k3 + 1))), 3, 1⟩))) 63 (cond (b 16) (.live ⟨(enc eI ((partD.partT jn (k3 + 1)) ++ [(((k3 + 1 : Nat) : Int) : Int)])), 3, 1⟩) .free))) (updO (updO (updO (updO (updO (updO (updO noOb 1 (.live ⟨[.one, .sl 4 0 ((mkSecsK d c k2).length), .sl 5 0 (partN jn k3), .q ePnt (mkPts d), vN, .i 0, .i 0, .i 0, .i 0, .i 0], 33, 1⟩)) 2 (.live ⟨(Z16 d c y g r t w jn), 25, 1⟩)) 3 (.live ⟨[vN, vN, vN, vN, vN, .i 0, .i 0, .i 0, .i 0, .i 0], 33, 1⟩)) 4 (.live (Z1g d c k2))) 5 (.live ⟨(enc eIL (partD jn (k3 + 1)) ++ [.sl 6 0 ((partD.partT jn (k3 + 1)).length)]), 42, 1⟩)) 6 .dead) 63 (.live ⟨(enc eI ((partD.partT jn (k3 + 1)) ++ [(((k3 + 1 : Nat) : Int) : Int)])), 3, 1⟩)) [16] (funext fun id_ => by by_cases e0_ : id_ = 6 <;> by_cases e1_ : id_ = 63 <;> first | (subst e0_; rfl) | (subst e1_; rfl) | simp only [addO, updO, nbeq_ne e0_, nbeq_ne e1_, cond_false]) (fun b b' h => by simp only [h 16 (by decide)]) (fun b h => by simp only [h 16 (by decide), cond_true]) [(210, .sl 63 0 (((partD.partT jn (k3 + 1)) ++ [(((k3 + 1 : Nat) : Int) : Int)]).length)), (209, .ro 1 [.i ((k3 + 1 : Nat) : Int)]), (208, .i ((k3 + 1 : Nat) : Int)), (207, .sl 6 0 ((partD.partT jn (k3 + 1)).length)), (206, .pt 5 ((partM jn k3) * 1)), (205, .i ((partM jn k3 : Nat) : Int)), (204, .i (partN jn k3 : Int)), (203, .sl 5 0 (partN jn k3)), (202, .pt 1 2), (201, .sl 5 0 (partN jn k3)), (200, .pt 1 2), (199, .i ((partM jn k3 : Nat) : Int)), (198, .i (partN jn k3 : Int)), (197, .sl 5 0 (partN jn k3)), (196, .pt 1 2), (195, .sl 5 0 (partN jn k3)), (194, .pt 1 2)] mixed (by kernel_rfl) ?_ ?_
   ·iterate 17 (refine ⟨?_, ?_⟩; rotate_left)
    trivial
    ·exact sy_pure (by decide) (fun b => sF (.pt 1 0) (.pt 1 2) ft33_2 sz30)
    ·exact sy_pure (by decide) (fun b => sL ag30)
    ·exact sy_pure (by decide) (fun b => sF (.pt 1 0) (.pt 1 2) ft33_2 sz30)
    ·exact sy_pure (by decide) (fun b => sL ag30)
    ·exact sy_pure (by decide) (fun b => dW 198 fun st hob hE => aop_len rfl rfl rfl rfl ut30 (len_sl (hE 197 rfl)) (by rw [hob]; rfl))
    ·exact sy_pure (by decide) (fun b => sB (.int .i64 ((partM jn k3 : Nat) : Int)) (subN1 (partN_M jn k3) om))
    ·exact sy_pure (by decide) (fun b => sF (.pt 1 0) (.pt 1 2) ft33_2 sz30)
    ·exact sy_pure (by decide) (fun b => sL ag30)
    ·exact sy_pure (by decide) (fun b => sF (.pt 1 0) (.pt 1 2) ft33_2 sz30)
    ·exact sy_pure (by decide) (fun b => sL ag30)
    ·exact sy_pure (by decide) (fun b => dW 204 fun st hob hE => aop_len rfl rfl rfl rfl ut30 (len_sl (hE 203 rfl)) (by rw [hob]; rfl))
    ·exact sy_pure (by decide) (fun b => sB (.int .i64 ((partM jn k3 : Nat) : Int)) (subN1 (partN_M jn k3) om))
    ·exact sy_pure (by decide) (fun b => dW 206 fun st hob hE => aop_ixO (k := partM jn k3) rfl rfl rfl ut30 sz42 (hE 201 rfl) (hE 205 rfl) (by rw [partN_M]; omega) (by rw [hob]; rfl))
    ·exact sy_pure (by decide) (fun b => dW 207 fun st hob hE => aop_ld (av := .sl 6 0 ((partD.partT jn (k3 + 1)).length)) (rest := []) rfl rfl rfl ag42 (hE 206 rfl) (ptC_last (pre := enc eIL (partD jn (k3 + 1))) (x := .sl 6 0 ((partD.partT jn (k3 + 1)).length)) (e := 42) (z := 1) (by rw [hob]; rfl) (enc_length (s := 1) (fun _ => rfl) _).symm) (by rw [hob]; rfl))
    ·exact sy_pure (by decide) (fun b => dW 208 fun st hob hE => aop_move (av := .i ((k3 + 1 : Nat) : Int)) (.inl rfl) rfl rfl (hE 12 rfl) (by rw [hob]; rfl))
    ·exact sy_pure (by decide) (fun b => dW 209 fun st hob hE => aop_lit rfl rfl rfl ut42 iz3 (by decide) (by decide) (by simp only [partsA, List.map, evA, hE 208 rfl]; rfl) rfl (by rw [hob]; rfl))
    exact sy_fx (by decide) ⟨rfl, (fun d_ h_ => by cases h_ <;> exact blt_lt rfl), fun b hb_ hdep_ hcl_ st hob hE => by obtain ⟨en_, ob_⟩ := st; have hob_ : ob_ = (updO (updO (updO (updO (updO (updO (updO noOb 1 (.live ⟨[.one, .sl 4 0 ((mkSecsK d c k2).length), .sl 5 0 (partN jn k3), .q ePnt (mkPts d), vN, .i 0, .i 0, .i 0, .i 0, .i 0], 33, 1⟩)) 2 (.live ⟨(Z16 d c y g r t w jn), 25, 1⟩)) 3 (.live ⟨[vN, vN, vN, vN, vN, .i 0, .i 0, .i 0, .i 0, .i 0], 33, 1⟩)) 4 (.live (Z1g d c k2))) 5 (.live ⟨(enc eIL (partD jn (k3 + 1)) ++ [.sl 6 0 ((partD.partT jn (k3 + 1)).length)]), 42, 1⟩)) 6 (.live ⟨(enc eI (partD.partT jn (k3 + 1))), 3, 1⟩)) 63 .free) := Eq.trans hob (by simp only [hb_, cond_false, cond_true]); subst hob_; exact aop_app1 (f := eI) (l := partD.partT jn (k3 + 1)) 63 (((k3 + 1 : Nat) : Int) : Int) rfl rfl rfl rfl ut42 in3 rfl (by decide) (hE 207 rfl) rfl rfl rfl rfl rfl (fun _ => rfl) (hE 209 rfl) rfl oo oo rfl ⟨rfl, fun id_ => by by_cases e0_ : id_ = 6 <;> by_cases e1_ : id_ = 63 <;> first | (subst e0_; rfl) | (subst e1_; rfl) | simp only [addO, updO, nbeq_ne e0_, nbeq_ne e1_, cond_false]⟩⟩
   refine oG (aop_ixO (k := partM jn k3) rfl rfl rfl ut30 sz42 rfl rfl (by rw [partN_M]; omega) ?_)
   refine oG (aop_store (cells' := (enc eIL (partD jn (k3 + 1)) ++ [.sl 63 0 (((partD.partT jn (k3 + 1)) ++ [(((k3 + 1 : Nat) : Int) : Int)]).length)])) rfl rfl rfl sz42 rfl rfl rfl rfl rfl (by simp [partM, enc_length (f := eIL) (s := 1) (fun _ => rfl)]) rfl (spl_last (enc_length (s := 1) (fun _ => rfl) _).symm) ?_)
   refine op0 ?_
   refine rT (upd (Z1j c d) 12 (.i ((k3 + 1 : Nat) : Int))) (updO (updO (updO (updO (updO (updO (updO (updO noOb 1 (.live ⟨[.one, .sl 4 0 ((mkSecsK d c k2).length), .sl 5 0 (partN jn k3), .q ePnt (mkPts d), vN, .i 0, .i 0, .i 0, .i 0, .i 0], 33, 1⟩)) 2 (.live ⟨(Z16 d c y g r t w jn), 25, 1⟩)) 3 (.live ⟨[vN, vN, vN, vN, vN, .i 0, .i 0, .i 0, .i 0, .i 0], 33, 1⟩)) 4 (.live (Z1g d c k2))) 5 (.live ⟨(enc eIL (partD jn (k3 + 1)) ++ [.sl 6 0 ((partD.partT jn (k3 + 1)).length)]), 42, 1⟩)) 6 .dead) 63 (.live ⟨(enc eI ((partD.partT jn (k3 + 1)) ++ [(((k3 + 1 : Nat) : Int) : Int)])), 3, 1⟩)) 5 (.live ⟨(enc eIL (partD jn (k3 + 1)) ++ [.sl 63 0 (((partD.partT jn (k3 + 1)) ++ [(((k3 + 1 : Nat) : Int) : Int)]).length)]), 42, 1⟩)) ?_
   refine regR ?_
   refine mG (.i ((k3 + 1 : Nat) : Int)) ?_
   refine oG (qB (.int .i64 ((k3 + 1 + 1 : Nat) : Int)) (addN om) ?_)
   refine mG (.i ((k3 + 1 + 1 : Nat) : Int)) ?_
   refine op0 ?_
   show _ ∧ _
   have hN := partN_join hjn
   have hD := (parts_join hjn).1
   have hT := (parts_join hjn).2
   refine ⟨by omega, trivial, ?_⟩
   exact iL [(1, 1), (2, 2), (3, 3), (4, 4), (5, 5), (63, 6)] [((1, 1), .live _), ((2, 2), .live _), ((3, 3), .live _), ((4, 4), .live _), ((5, 5), .live _), ((63, 6), .live _)] ⟨row_map (o := ⟨[.one, .sl 4 0 ((mkSecsK d c k2).length), .sl 5 0 (partN jn k3), .q ePnt (mkPts d), vN, .i 0, .i 0, .i 0, .i 0, .i 0], 33, 1⟩) rfl (by rw [hN]; exact (om_ (lm_cons (am_no (a := .one)) (lm_cons rfl (lm_cons rfl (lm_cons (am_no (a := .q ePnt (mkPts d))) (lm_cons (am_no (a := vN)) (lm_cons (am_no (a := .i 0)) (lm_cons (am_no (a := .i 0)) (lm_cons (am_no (a := .i 0)) (lm_cons (am_no (a := .i 0)) (lm_cons (am_no (a := .i 0)) lm_nil)))))))))))) (oks_cons (ok_no (a := .one)) (oks_cons (.sl _ _ _ (by simp)) (oks_cons (.sl _ _ _ (by simp)) (oks_cons (ok_no (a := .q ePnt (mkPts d))) (oks_cons (ok_no (a := vN)) (oks_cons (ok_no (a := .i 0)) (oks_cons (ok_no (a := .i 0)) (oks_cons (ok_no (a := .i 0)) (oks_cons (ok_no (a := .i 0)) (oks_cons (ok_no (a := .i 0)) oks_nil)))))))))), row_no rfl rfl, row_no rfl rfl, row_no rfl rfl, row_map (o := ⟨(enc eIL (partD jn (k3 + 1)) ++ [.sl 63 0 (((partD.partT jn (k3 + 1)) ++ [(((k3 + 1 : Nat) : Int) : Int)]).length)]), 42, 1⟩) rfl (by rw [hD, hT]; exact (om_ (lm_append lm_no (lm_cons rfl lm_nil)))) (oks_append oks_no (oks_cons (.sl _ _ _ (by simp)) oks_nil)), row_no rfl (by exact congrArg (fun l_ => LObj.mk (enc eI l_) 3 1) hT), trivial⟩
  have hjn : joinB jn (k3 + 1) = false := (joinB_int jn (k3 + 1)).trans hc9
  refine regR ?_
  refine fG (.pt 1 2) ft33_2 sz30 ?_
  refine oG (qL (.sl 5 0 (partN jn k3)) ag30 ?_)
  refine mG (.i ((k3 + 1 : Nat) : Int)) ?_
  refine oG (aop_litO 64 rfl rfl rfl ut42 iz3 (by decide) (by decide) rfl rfl rfl rfl ?_)
  refine oG (aop_lit rfl rfl rfl ut30 iz42 (by decide) (by decide) rfl rfl ?_)
  refine oG (aop_append 65 rfl rfl rfl rfl ut30 in42 rfl (by decide) rfl rfl rfl rfl (by simp [enc_length (f := eIL) (s := 1) (fun _ => rfl), partN]) rfl rfl om om rfl (List.append_assoc _ _ _) ?_)
  refine fG (.pt 1 2) ft33_2 sz30 ?_
  refine oG (qS sz30 ?_)
  refine op0 ?_
  refine rT (upd (Z1j c d) 12 (.i ((k3 + 1 : Nat) : Int))) (updO (updO (updO (updO (updO (updO (updO (updO (updO (updO noOb 1 (.live ⟨[.one, .sl 4 0 ((mkSecsK d c k2).length), .sl 5 0 (partN jn k3), .q ePnt (mkPts d), vN, .i 0, .i 0, .i 0, .i 0, .i 0], 33, 1⟩)) 2 (.live ⟨(Z16 d c y g r t w jn), 25, 1⟩)) 3 (.live ⟨[vN, vN, vN, vN, vN, .i 0, .i 0, .i 0, .i 0, .i 0], 33, 1⟩)) 4 (.live (Z1g d c k2))) 5 (.live ⟨(enc eIL (partD jn (k3 + 1)) ++ [.sl 6 0 ((partD.partT jn (k3 + 1)).length)]), 42, 1⟩)) 6 (.live ⟨(enc eI (partD.partT jn (k3 + 1))), 3, 1⟩)) 64 (.live ⟨[.i ((k3 + 1 : Nat) : Int)], 3, 1⟩)) 5 .dead) 65 (.live ⟨(enc eIL (partD jn (k3 + 1)) ++ [.sl 6 0 ((partD.partT jn (k3 + 1)).length), .sl 64 0 1]), 42, 1⟩)) 1 (.live ⟨[.one, .sl 4 0 ((mkSecsK d c k2).length), .sl 65 0 ((partN jn k3) + 1), .q ePnt (mkPts d), vN, .i 0, .i 0, .i 0, .i 0, .i 0], 33, 1⟩)) ?_
  refine regR ?_
  refine mG (.i ((k3 + 1 : Nat) : Int)) ?_
  refine oG (qB (.int .i64 ((k3 + 1 + 1 : Nat) : Int)) (addN om) ?_)
  refine mG (.i ((k3 + 1 + 1 : Nat) : Int)) ?_
  refine op0 ?_
  show _ ∧ _
  have hN := partN_new hjn
  have hD := partD_new hjn
  have hT := (parts_new hjn).2
  refine ⟨by omega, trivial, ?_⟩
  refine (frz_ [2, 3, 1, 4, 65, 64] [(2, ⟨(Z16 d c y g r t w jn), 25, 1⟩), (3, ⟨[vN, vN, vN, vN, vN, .i 0, .i 0, .i 0, .i 0, .i 0], 33, 1⟩), (1, ⟨[.one, .sl 4 0 ((mkSecsK d c k2).length), .sl 65 0 ((partN jn k3) + 1), .q ePnt (mkPts d), vN, .i 0, .i 0, .i 0, .i 0, .i 0], 33, 1⟩), (4, (Z1g d c k2)), (65, ⟨(enc eIL (partD jn (k3 + 1)) ++ [.q eI (partD.partT jn (k3 + 1)), .sl 64 0 1]), 42, 1⟩), (64, ⟨[.i ((k3 + 1 : Nat) : Int)], 3, 1⟩)] rfl (fun _ h => h) ⟨keep_cells (cs := (Z16 d c y g r t w jn)) (by simp) rfl rfl fzA, keep_cells (cs := [vN, vN, vN, vN, vN, .i 0, .i 0, .i 0, .i 0, .i 0]) (by simp) rfl rfl fzA, keep_cells (cs := [.one, .sl 4 0 ((mkSecsK d c k2).length), .sl 65 0 ((partN jn k3) + 1), .q ePnt (mkPts d), vN, .i 0, .i 0, .i 0, .i 0, .i 0]) (by simp) rfl rfl fzA, keep_same (by simp) rfl, keep_cells (cs := (enc eIL (partD jn (k3 + 1)) ++ [.sl 6 0 ((partD.partT jn (k3 + 1)).length), .sl 64 0 1])) (by simp) rfl (by simp) (frzs_pre (frzs_cons (.inr (lend_s (id := 6) (n := (partD.partT jn (k3 + 1)).length) (o := ⟨(enc eI (partD.partT jn (k3 + 1))), 3, 1⟩) rfl (enc_len (fun _ => rfl) (by first | rfl | (simp; done))))) fzA)), keep_same (by simp) rfl, trivial⟩ (fz_same 12 (.i ((k3 + 1 + 1 : Nat) : Int)) rfl (fz_same 7 (.q ePr (mkEnds d)) rfl (fz_same 6 (.pt 1 0) rfl (fz_same 3 (.i (10 * (1 + (c % 20)))) rfl (fz_same 2 (.pt 3 0) rfl (fz_same 1 (.pt 2 0) rfl fz_none))))))).trans ?_
  exact iL [(1, 1), (2, 2), (3, 3), (4, 4), (65, 5), (64, 6)] [((1, 1), .live _), ((2, 2), .live _), ((3, 3), .live _), ((4, 4), .live _), ((65, 5), .live _), ((64, 6), .live _)] ⟨row_map (o := ⟨[.one, .sl 4 0 ((mkSecsK d c k2).length), .sl 65 0 ((partN jn k3) + 1), .q ePnt (mkPts d), vN, .i 0, .i 0, .i 0, .i 0, .i 0], 33, 1⟩) rfl (by rw [hN]; exact (om_ (lm_cons (am_no (a := .one)) (lm_cons rfl (lm_cons rfl (lm_cons (am_no (a := .q ePnt (mkPts d))) (lm_cons (am_no (a := vN)) (lm_cons (am_no (a := .i 0)) (lm_cons (am_no (a := .i 0)) (lm_cons (am_no (a := .i 0)) (lm_cons (am_no (a := .i 0)) (lm_cons (am_no (a := .i 0)) lm_nil)))))))))))) (oks_cons (ok_no (a := .one)) (oks_cons (.sl _ _ _ (by simp)) (oks_cons (.sl _ _ _ (by simp)) (oks_cons (ok_no (a := .q ePnt (mkPts d))) (oks_cons (ok_no (a := vN)) (oks_cons (ok_no (a := .i 0)) (oks_cons (ok_no (a := .i 0)) (oks_cons (ok_no (a := .i 0)) (oks_cons (ok_no (a := .i 0)) (oks_cons (ok_no (a := .i 0)) oks_nil)))))))))), row_no (o := ⟨(Z16 d c y g r t w jn), 25, 1⟩) rfl rfl, row_no (o := ⟨[vN, vN, vN, vN, vN, .i 0, .i 0, .i 0, .i 0, .i 0], 33, 1⟩) rfl rfl, row_no (o := (Z1g d c k2)) rfl rfl, row_map (o := ⟨(enc eIL (partD jn (k3 + 1)) ++ [.q eI (partD.partT jn (k3 + 1)), .sl 64 0 1]), 42, 1⟩) rfl (by rw [hD, hT, enc_snoc, List.append_assoc]; exact (om_ (lm_append lm_no (lm_cons (am_no (a := .q eI (partD.partT jn (k3 + 1)))) (lm_cons rfl lm_nil))))) (oks_append oks_no (oks_cons (ok_no (a := .q eI (partD.partT jn (k3 + 1)))) (oks_cons (.sl _ _ _ (by simp)) oks_nil))), row_no (o := ⟨[.i ((k3 + 1 : Nat) : Int)], 3, 1⟩) rfl (by rw [hT]; rfl), trivial⟩
 have hf28 := of_decide_eq_false hc8
 have hk3 : k3 + 1 = (mkEnds d).length := by omega
 have hmb := modB (a := y) (b := 2 * (10 * (1 + c % 20))) om
 refine awp_exit ?_
 refine seqR ?_
 refine fG (.pt 2 2) ft25_2 sz5 ?_
 refine oG (qL (.v (.int .u8 y)) ag5 ?_)
 refine oG (aop_conv' rfl rfl rfl ut5 ut3 rfl (IntWalk.i64_in _ om) ?_)
 refine mG (.i (10 * (1 + (c % 20)))) ?_
 refine oG (qB (.int .i64 (2 * (10 * (1 + (c % 20))))) (mulI om) ?_)
 refine oG (aop_binI (u := (.int .i64 (y % (2 * (10 * (1 + (c % 20))))))) rfl rfl rfl rfl rfl (by show _ ≠ _; omega) (remI om) ?_)
 refine oG (qB (.int .i64 (1 + (y % (2 * (10 * (1 + (c % 20))))))) (addI om) ?_)
 refine fG (.pt 1 5) ft33_5 sz3 ?_
 refine oG (qS sz3 ?_)
 refine rU (upd Z24 6 (.pt 1 0)) (updO (updO (updO (updO (updO (updO (updO noOb 1 (.live ⟨[.one, .sl 4 0 ((mkSecsK d c k2).length), .sl 5 0 (partN jn k3), .q ePnt (mkPts d), vN, .i 0, .i 0, .i 0, .i 0, .i 0], 33, 1⟩)) 2 (.live ⟨(Z16 d c y g r t w jn), 25, 1⟩)) 3 (.live ⟨[vN, vN, vN, vN, vN, .i 0, .i 0, .i 0, .i 0, .i 0], 33, 1⟩)) 4 (.live (Z1g d c k2))) 5 (.live ⟨(enc eIL (partD jn (k3 + 1)) ++ [.sl 6 0 ((partD.partT jn (k3 + 1)).length)]), 42, 1⟩)) 6 (.live ⟨(enc eI (partD.partT jn (k3 + 1))), 3, 1⟩)) 1 (.live ⟨[.one, .sl 4 0 ((mkSecsK d c k2).length), .sl 5 0 (partN jn k3), .q ePnt (mkPts d), vN, .i (1 + (y % (2 * (10 * (1 + (c % 20)))))), .i 0, .i 0, .i 0, .i 0], 33, 1⟩)) ?_
 refine awp_seq ?_
 refine awp_drawY (m := 26) (fun b => (updO (updO (updO (updO (updO (updO (updO noOb 1 (.live ⟨[.one, .sl 4 0 ((mkSecsK d c k2).length), .sl 5 0 (partN jn k3), .q ePnt (mkPts d), vN, .i 0, .i 0, .i 0, .i 0, .i 0], 33, 1⟩)) 2 (.live ⟨(Z16 d c y g r t w jn), 25, 1⟩)) 3 (.live ⟨[vN, vN, vN, vN, vN, .i 0, .i 0, .i 0, .i 0, .i 0], 33, 1⟩)) 4 (.live (Z1g d c k2))) 5 (.live ⟨(enc eIL (partD jn (k3 + 1)) ++ [.sl 6 0 ((partD.partT jn (k3 + 1)).length)]), 42, 1⟩)) 6 (.live ⟨(enc eI (partD.partT jn (k3 + 1))), 3, 1⟩)) 1 (.live ⟨[.one, .sl 4 0 ((mkSecsK d c k2).length), .sl 5 0 (partN jn k3), .q ePnt (mkPts d), vN, .i (1 + (y % (2 * (10 * (1 + (c % 20)))))), (cond (b 19) (.i (1 + (g % 1000))) (.i 0)), (cond (b 21) (.i (1 + (r % 1000))) (.i 0)), (cond (b 23) (.i (1 + t)) (.i 0)), (cond (b 25) (.i (w % 4)) (.i 0))], 33, 1⟩))) (updO (updO (updO (updO (updO (updO (updO noOb 1 (.live ⟨[.one, .sl 4 0 ((mkSecsK d c k2).length), .sl 5 0 (partN jn k3), .q ePnt (mkPts d), vN, .i 0, .i 0, .i 0, .i 0, .i 0], 33, 1⟩)) 2 (.live ⟨(Z16 d c y g r t w jn), 25, 1⟩)) 3 (.live ⟨[vN, vN, vN, vN, vN, .i 0, .i 0, .i 0, .i 0, .i 0], 33, 1⟩)) 4 (.live (Z1g d c k2))) 5 (.live ⟨(enc eIL (partD jn (k3 + 1)) ++ [.sl 6 0 ((partD.partT jn (k3 + 1)).length)]), 42, 1⟩)) 6 (.live ⟨(enc eI (partD.partT jn (k3 + 1))), 3, 1⟩)) 1 (.live ⟨[.one, .sl 4 0 ((mkSecsK d c k2).length), .sl 5 0 (partN jn k3), .q ePnt (mkPts d), vN, .i (1 + (y % (2 * (10 * (1 + (c % 20)))))), .i (1 + (g % 1000)), .i (1 + (r % 1000)), .i (1 + t), .i (w % 4)], 33, 1⟩)) [19, 21, 23, 25] rfl (fun b b' h => by simp only [h 19 (by decide), h 21 (by decide), h 23 (by decide), h 25 (by decide)]) (fun b h => by simp only [h 19 (by decide), h 21 (by decide), h 23 (by decide), h 25 (by decide), cond_true]) [(248, .pt 1 9), (247, .pt 1 8), (246, .pt 1 7), (245, .pt 1 6), (244, .i (w % 4)), (243, .v (.int .u8 (w % 4))), (242, .v (.int .u8 w)), (241, .pt 2 6), (240, .i (1 + t)), (239, .i t), (238, .v (.int .u8 t)), (237, .pt 2 5), (236, .i (1 + (r % 1000))), (235, .i (r % 1000)), (234, .v (.int .u16 (r % 1000))), (233, .v (.int .u16 r)), (232, .pt 2 4), (231, .i (1 + (g % 1000))), (230, .i (g % 1000)), (229, .v (.int .u16 (g % 1000))), (228, .v (.int .u16 g)), (227, .pt 2 3)] mixed (by kernel_rfl) ?_ ?_
 ·iterate 26 (refine ⟨?_, ?_⟩; rotate_left)
  trivial
  ·exact sy_pure (by decide) (fun b => sF (.pt 2 0) (.pt 2 3) ft25_3 sz22)
  ·exact sy_pure (by decide) (fun b => sL ag22)
  ·exact sy_pure (by decide) (fun b => dW 229 fun st hob hE => aop_binI (u := (.int .u16 (g % 1000))) rfl rfl rfl (hE 228 rfl) rfl (by show _ ≠ _; decide) (remI om) (by rw [hob]; rfl))
  ·exact sy_pure (by decide) (fun b => dW 230 fun st hob hE => aop_conv' rfl rfl rfl ut22 ut2 (hE 229 rfl) (IntWalk.i64_in _ om) (by rw [hob]; rfl))
  ·exact sy_pure (by decide) (fun b => sB (.int .i64 (1 + (g % 1000))) (addI om))
  ·exact sy_pure (by decide) (fun b => sF (.pt 2 0) (.pt 2 4) ft25_4 sz22)
  ·exact sy_pure (by decide) (fun b => sL ag22)
  ·exact sy_pure (by decide) (fun b => dW 234 fun st hob hE => aop_binI (u := (.int .u16 (r % 1000))) rfl rfl rfl (hE 233 rfl) rfl (by show _ ≠ _; decide) (remI om) (by rw [hob]; rfl))
  ·exact sy_pure (by decide) (fun b => dW 235 fun st hob hE => aop_conv' rfl rfl rfl ut22 ut2 (hE 234 rfl) (IntWalk.i64_in _ om) (by rw [hob]; rfl))
  ·exact sy_pure (by decide) (fun b => sB (.int .i64 (1 + (r % 1000))) (addI om))
  ·exact sy_pure (by decide) (fun b => sF (.pt 2 0) (.pt 2 5) ft25_5 sz5)
  ·exact sy_pure (by decide) (fun b => sL ag5)
  ·exact sy_pure (by decide) (fun b => dW 239 fun st hob hE => aop_conv' rfl rfl rfl ut5 ut2 (hE 238 rfl) (IntWalk.i64_in _ om) (by rw [hob]; rfl))
  ·exact sy_pure (by decide) (fun b => sB (.int .i64 (1 + t)) (addI om))
  ·exact sy_pure (by decide) (fun b => sF (.pt 2 0) (.pt 2 6) ft25_6 sz5)
  ·exact sy_pure (by decide) (fun b => sL ag5)
  ·exact sy_pure (by decide) (fun b => dW 243 fun st hob hE => aop_binI (u := (.int .u8 (w % 4))) rfl rfl rfl (hE 242 rfl) rfl (by show _ ≠ _; decide) (remI om) (by rw [hob]; rfl))
  ·exact sy_pure (by decide) (fun b => dW 244 fun st hob hE => aop_conv' rfl rfl rfl ut5 ut2 (hE 243 rfl) (IntWalk.i64_in _ om) (by rw [hob]; rfl))
  ·exact sy_pure (by decide) (fun b => sF (.pt 1 0) (.pt 1 6) ft33_6 sz2)
  ·exact sy_fx (by decide) ⟨rfl, rfl, fun b hb st hob hE => by obtain ⟨en_, ob_⟩ := st; have hob_ : ob_ = _ := hob; subst hob_; exact aop_store (av := .i (1 + (g % 1000))) (cs := [.i (1 + (g % 1000))]) rfl rfl rfl sz2 (hE 245 rfl) rfl (hE 231 rfl) rfl rfl (Nat.le_of_ble_eq_true rfl) rfl rfl ⟨rfl, updO_pt rfl (fun j hj => by have hb1 := nbeq_ne hj; simp only [updO, hb1, cond_false])⟩⟩
  ·exact sy_pure (by decide) (fun b => sF (.pt 1 0) (.pt 1 7) ft33_7 sz2)
  ·exact sy_fx (by decide) ⟨rfl, rfl, fun b hb st hob hE => by obtain ⟨en_, ob_⟩ := st; have hob_ : ob_ = _ := hob; subst hob_; exact aop_store (av := .i (1 + (r % 1000))) (cs := [.i (1 + (r % 1000))]) rfl rfl rfl sz2 (hE 246 rfl) rfl (hE 236 rfl) rfl rfl (Nat.le_of_ble_eq_true rfl) rfl rfl ⟨rfl, updO_pt rfl (fun j hj => by have hb1 := nbeq_ne hj; simp only [updO, hb1, cond_false])⟩⟩
  ·exact sy_pure (by decide) (fun b => sF (.pt 1 0) (.pt 1 8) ft33_8 sz2)
  ·exact sy_fx (by decide) ⟨rfl, rfl, fun b hb st hob hE => by obtain ⟨en_, ob_⟩ := st; have hob_ : ob_ = _ := hob; subst hob_; exact aop_store (av := .i (1 + t)) (cs := [.i (1 + t)]) rfl rfl rfl sz2 (hE 247 rfl) rfl (hE 240 rfl) rfl rfl (Nat.le_of_ble_eq_true rfl) rfl rfl ⟨rfl, updO_pt rfl (fun j hj => by have hb1 := nbeq_ne hj; simp only [updO, hb1, cond_false])⟩⟩
  ·exact sy_pure (by decide) (fun b => sF (.pt 1 0) (.pt 1 9) ft33_9 sz2)
  exact sy_fx (by decide) ⟨rfl, rfl, fun b hb st hob hE => by obtain ⟨en_, ob_⟩ := st; have hob_ : ob_ = _ := hob; subst hob_; exact aop_store (av := .i (w % 4)) (cs := [.i (w % 4)]) rfl rfl rfl sz2 (hE 248 rfl) rfl (hE 244 rfl) rfl rfl (Nat.le_of_ble_eq_true rfl) rfl rfl ⟨rfl, updO_pt rfl (fun j hj => by have hb1 := nbeq_ne hj; simp only [updO, hb1, cond_false])⟩⟩
 refine op0 ?_
 refine seqR ?_
 refine oG (qLB [.one, .sl 4 0 ((mkSecsK d c k2).length), .sl 5 0 (partN jn k3), .q ePnt (mkPts d), vN, .i (1 + (y % (2 * (10 * (1 + (c % 20)))))), .i (1 + (g % 1000)), .i (1 + (r % 1000)), .i (1 + t), .i (w % 4)] ag33 sz33 ?_)
 refine oG (qS sz33 ?_)
 refine op0 ?_
 refine awp_imp _ ((frz_ [3] [(3, ⟨[.one, .q eSec (mkSecsK d c k2), .ro (partN jn k3) (enc eIL (partD jn (k3 + 1)) ++ [.q eI (partD.partT jn (k3 + 1))]), .q ePnt (mkPts d), vN, .i (1 + (y % (2 * (10 * (1 + (c % 20)))))), .i (1 + (g % 1000)), .i (1 + (r % 1000)), .i (1 + t), .i (w % 4)], 33, 1⟩)] rfl (fun _ h => h) ⟨keep_cells (cs := [.one, .sl 4 0 ((mkSecsK d c k2).length), .sl 5 0 (partN jn k3), .q ePnt (mkPts d), vN, .i (1 + (y % (2 * (10 * (1 + (c % 20)))))), .i (1 + (g % 1000)), .i (1 + (r % 1000)), .i (1 + t), .i (w % 4)]) (by simp) rfl rfl (frzs_cons (.inl rfl) (frzs_cons (.inr (lend_s (id := 4) (n := (mkSecsK d c k2).length) (o := (Z1g d c k2)) rfl (enc_len (fun _ => rfl) (by first | rfl | (simp; done))))) (frzs_cons (.inr (lend_last (id := 5) (j := 6) (pre := enc eIL (partD jn (k3 + 1))) (cs := (enc eI (partD.partT jn (k3 + 1)))) rfl rfl (enc_len (fun _ => rfl) rfl) (by simp [enc_length (f := eIL) (s := 1) (fun _ => rfl), partN]))) fzA))), trivial⟩ (fz_same 2 (.pt 3 0) rfl fz_none))) ?_
 refine awp_ret ?_
 exact fretC (p := 2) rfl rfl ag33 sz33 rfl rfl (Nat.le_of_ble_eq_true rfl) rfl (by rw [mkSecs_end hk2, parts_len hk3, parts_enc hk3]; rfl)
theorem ag23 : aggT Try.prog 23 = some false := by kernel_rfl
theorem ag25 : aggT Try.prog 25 = some true := by kernel_rfl
theorem ag37 : aggT Try.prog 37 = some false := by kernel_rfl
theorem bd19 : bodied Try.prog 19 = true := by kernel_rfl
theorem bd20 : bodied Try.prog 20 = true := by kernel_rfl
theorem ft25_8 : fieldT Try.prog 25 8 = some (23, 8) := by kernel_rfl
theorem ft33_4 : fieldT Try.prog 33 4 = some (30, 4) := by kernel_rfl
theorem sz23 : (Try.prog.info? 23).map (·.size) = some 1 := by kernel_rfl
theorem sz25 : (Try.prog.info? 25).map (·.size) = some 9 := by kernel_rfl
theorem sz37 : (Try.prog.info? 37).map (·.size) = some 1 := by kernel_rfl
theorem ut23 : Try.prog.underlying 23 = some (.slice 37) := by kernel_rfl
abbrev Z26 (k : Nat) : Nat → AV := (upd (upd (upd none_ 1 (.pt 1 0)) 2 (.b false)) 3 (.i (k : Int)))
abbrev Z25 (rs : List (List Int)) : LObj := ⟨[.one, .one, .one, .one, .one, .one, .one, .one, .q eUL rs], 25, 1⟩
theorem r04_Small (rs : List (List Int)) (hn : rs.length ≤ 9223372036854775807) : Fn Try.prog 7 [.agg [.one, .one, .one, .one, .one, .one, .one, .one, .ro rs.length (enc eUL rs)]] (.v (.bool (smallB rs))) := by
 refine fnE_of_body (N := 22) Try.func7 rfl rfl (resOf1 rfl) (by simp) (fun w0 X hL_ => ?_)
 refine seqR ?_
 refine oG (qW 51 ?_)
 refine mG (.b false) ?_
 refine op0 ?_
 refine awp_seq ?_
 refine seqR ?_
 refine mG (.i 0) ?_
 refine op0 ?_
 refine awp_block ?_
 refine awp_countI (fun k => ⟨(Z26 k), (updO noOb 1 (.live (Z25 rs)))⟩) (fun k => (rs.take k).any (fun x => decide (x.length > 10)) = false) (rs.length) ?_ (by simp) (fun k hk_k hinv => ?_)
 ·skip
  exact iI 51 1 (o := (Z25 rs)) rfl
 refine awp_seq ?_
 refine seqR ?_
 refine mG (.i (k : Int)) ?_
 refine fG (.pt 1 8) ft25_8 sz23 ?_
 refine oG (qL (.q eUL rs) ag23 ?_)
 refine oG (qN ut23 ?_)
 refine bG ((.bool (decide ((k : Int) < (rs.length : Int))))) ?_
 refine rU (upd (Z26 k) 8 (.b (decide ((k : Int) < (rs.length : Int))))) (updO noOb 1 (.live (Z25 rs))) ?_
 refine awp_cond (decide ((k : Int) < (rs.length : Int))) rfl rfl (fun hc0 => ?_) (fun hc0 => ?_)
 ·skip
  have hf1 := of_decide_eq_true hc0
  refine awp_skip ?_
  refine awp_seq ?_
  refine awp_block ?_
  refine seqR ?_
  refine fG (.pt 1 8) ft25_8 sz23 ?_
  refine oG (qL (.q eUL rs) ag23 ?_)
  refine mG (.i (k : Int)) ?_
  refine oG (qX [] ut23 sz37 ?_)
  refine oG (qL (.q eU8 (rs.getD k [])) ag37 ?_)
  refine oG (qN ut37 ?_)
  refine bG ((.bool (decide (((rs.getD k []).length : Int) > 10)))) ?_
  refine rU (upd (Z26 k) 17 (.b (decide (((rs.getD k []).length : Int) > 10)))) (updO noOb 1 (.live (Z25 rs))) ?_
  refine awp_cond (decide (((rs.getD k []).length : Int) > 10)) rfl rfl (fun hc1 => ?_) (fun hc1 => ?_)
  ·skip
   have hf2 := of_decide_eq_true hc1
   refine seqR ?_
   refine mG (.b false) ?_
   refine op0 ?_
   refine awp_ret ?_
   exact fret (av := .v (.bool false)) rfl rfl (by rw [smallB_big (k := k) om (by simp at hc1 ⊢; omega)])
  have hf3 := of_decide_eq_false hc1
  refine awp_skip ?_
  refine regR ?_
  refine mG (.i (k : Int)) ?_
  refine oG (qB (.int .i64 ((k + 1 : Nat) : Int)) (addN om) ?_)
  refine mG (.i ((k + 1 : Nat) : Int)) ?_
  refine op0 ?_
  show _ ∧ _
  refine ⟨by omega, (any_step [] om hinv (by simp at hc1 ⊢; omega)), ?_⟩
  exact iI 1 1 rfl
 have hf4 := of_decide_eq_false hc0
 refine awp_exit ?_
 refine seqR ?_
 refine fG (.pt 1 8) ft25_8 sz23 ?_
 refine oG (qL (.q eUL rs) ag23 ?_)
 refine oG (qN ut23 ?_)
 refine bG ((.bool (decide ((rs.length : Int) ≤ 20)))) ?_
 refine mG (.b (decide ((rs.length : Int) ≤ 20))) ?_
 refine rU (upd none_ 2 (.b (decide ((rs.length : Int) ≤ 20)))) (updO noOb 1 (.live (Z25 rs))) ?_
 refine awp_ret ?_
 exact fret (av := .v (.bool (decide ((rs.length : Int) ≤ 20)))) rfl rfl (by rw [smallB_end (k := k) om hinv]; simp; omega)
end Go.Lo
