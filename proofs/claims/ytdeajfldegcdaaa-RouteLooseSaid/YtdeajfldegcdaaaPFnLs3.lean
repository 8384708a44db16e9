/- Walks of Go functions in the logic of values: what the law reaches. -/
import Derived.Test.YtdeajfldegcdaaaPFnLs2
set_option linter.unusedVariables false
set_option linter.unusedSimpArgs false
set_option maxRecDepth 10000
set_option maxHeartbeats 16000000
namespace Go.Lo
open Go.Proofs
abbrev Z4c (d : List (List Int)) : List AV := [.one, .one, .q eIL d, .one, .one, .one, .one, .one, .one, .one]
abbrev Z4a (r tr en : Int) (ps : List Int) : AV := (.rp [.i r, .i tr, .i en, .q eU8 ps])
abbrev Z49 (a d : List (List Int)) : List AV := [.one, .one, .one, .one, .q eIL a, .one, .one, .one, .one, .one, .rp (Z4c d), .one]
abbrev Z4b (a d : List (List Int)) (r tr en : Int) (ps : List Int) (i : Nat) (e : Int) (c ow : List Int) : Nat → AV := (upd (upd (upd (upd (upd (upd (upd (upd none_ 0 (.rp (Z49 a d))) 1 (Z4a r tr en ps)) 2 (.i (i : Int))) 3 (.i e)) 4 (.q eU8 c)) 5 (.q eI ow)) 12 (.v (.int .u8 0))) 13 (.i ((pthR a r).getD i 0)))
theorem r_turn (a d : List (List Int)) (r tr en : Int) (ps : List Int) (i : Nat) (e : Int) (c ow : List Int) (hro : a.length ≤ 65536) (hr : 0 ≤ r ∧ r < (a.length : Int)) (hp : ps.length + 1 = (a.getD r.toNat []).length) (hpl : (a.getD r.toNat []).length ≤ 65536) (hi : i < ps.length) (hpa : d.length ≤ 65536) (hpp : ∀ x, x ∈ d → x.length ≤ 65536) (hst : c.length ≤ 65536) (how : ow.length ≤ 65536) (hin : ∀ s, s ∈ pthR a r → 0 ≤ s ∧ s < (c.length : Int)) (hpo : ∀ s : Int, 0 ≤ s → s < (c.length : Int) → 0 ≤ partI d s ∧ partI d s < (ow.length : Int)) : Fn Try.prog 36 [.rp [.one, .one, .one, .one, .ro a.length (enc eIL a), .one, .one, .one, .one, .one, .rp [.one, .one, .ro d.length (enc eIL d), .one, .one, .one, .one, .one, .one, .one], .one], .rp [.v (.int .i64 r), .v (.int .i64 tr), .v (.int .i64 en), .ro ps.length (enc eU8 ps)], .v (.int .i64 (i : Int)), .v (.int .i64 e), .ro c.length (enc eU8 c), .ro ow.length (enc eI ow)] (.v (.int .u8 (tnP a d c ow e (⟨r, tr, en, ps⟩ : Lk) i))) := by
 have hpq := pth_len (routes := a) (r := r)
 have hsr := hin _ (getD_mem (l := pthR a r) (k := i) 0 om)
 have hpr := hpo _ hsr.1 hsr.2
 refine fnE_of_body (N := 97) Try.func36 rfl rfl (resOf1 rfl) (by simp) (fun w0 X hL_ => ?_)
 refine seqR ?_
 refine mG (.v (.int .u8 0)) ?_
 refine op0 ?_
 refine seqR ?_
 refine mG (.rp (Z49 a d)) ?_
 refine mG (Z4a r tr en ps) ?_
 refine oG (aop_nilCheck rfl rfl rfl rfl rfl ?_)
 refine oG (qF (Z4a r tr en ps) (Z4a r tr en ps) ft47_0 sz3 ?_)
 refine oG (qL (.i r) ag3 ?_)
 refine oG (qC (r_pieces a r hro hr om) bd34 ?_)
 refine mG (.i (i : Int)) ?_
 refine oG (qX (0 : Int) ut42 sz3 ?_)
 refine oG (qL (.i ((pthR a r).getD i 0)) ag3 ?_)
 refine mG (.i ((pthR a r).getD i 0)) ?_
 refine rU (Z4b a d r tr en ps i e c ow) noOb ?_
 refine awp_seq ?_
 refine seqR ?_
 refine mG (Z4a r tr en ps) ?_
 refine oG (aop_nilCheck rfl rfl rfl rfl rfl ?_)
 refine oG (qF (Z4a r tr en ps) (.rp [.q eU8 ps]) ft47_3 sz37 ?_)
 refine oG (qL (.q eU8 ps) ag37 ?_)
 refine mG (.i (i : Int)) ?_
 refine oG (qX (0 : Int) ut37 sz5 ?_)
 refine oG (qL (.v (.int .u8 (ps.getD i 0))) ag5 ?_)
 refine rU (upd (Z4b a d r tr en ps i e c ow) 29 (.v (.int .u8 (ps.getD i 0)))) noOb ?_
 refine awp_block ?_
 refine seqR ?_
 refine bG ((.bool ((ps.getD i 0) == 2))) ?_
 refine mG (.b ((ps.getD i 0) == 2)) ?_
 refine op0 ?_
 refine awp_cond ((ps.getD i 0) == 2) rfl rfl (fun hc0 => ?_) (fun hc0 => ?_)
 ·skip
  have hf1 := (beq_iff_eq).1 hc0
  refine seqR ?_
  refine mG (.q eU8 c) ?_
  refine mG (.i ((pthR a r).getD i 0)) ?_
  refine oG (aop_ixI 0 rfl rfl rfl ut37 sz5 rfl rfl (fun _ => rfl) rfl om oo ?_)
  refine oG (qL (.v (.int .u8 (c.getD ((pthR a r).getD i 0).toNat 0))) ag5 ?_)
  refine bG ((.bool ((c.getD ((pthR a r).getD i 0).toNat 0) == 0))) ?_
  refine mG (.b ((c.getD ((pthR a r).getD i 0).toNat 0) == 0)) ?_
  refine aops_grp 9 46 (.b (((c.getD ((pthR a r).getD i 0).toNat 0) == 0) && (!((ps.take i).any (fun b : Int => b != 0))))) ?_ ?_
  ·refine (Bool.eq_false_or_eq_true ((c.getD ((pthR a r).getD i 0).toNat 0) == 0)).elim (fun hg2 => ?_) (fun hg2 => ?_)
   ·skip
    have hf3 := (beq_iff_eq).1 hg2
    refine oY hg2 (qM (Z4a r tr en ps) ?_)
    refine oY hg2 (aop_nilCheck rfl rfl rfl rfl rfl ?_)
    refine oY hg2 (qF (Z4a r tr en ps) (.rp [.q eU8 ps]) ft47_3 sz37 ?_)
    refine oY hg2 (qL (.q eU8 ps) ag37 ?_)
    refine oY hg2 (qM (.i (i : Int)) ?_)
    refine oY hg2 (aop_sliceRoN (l := 0) (hgh := i) (cells' := enc eU8 (ps.take i)) ((ps.take i)).length rfl rfl rfl ut37 sz5 rfl rfl ⟨_, rfl⟩ om oo (sliceE (f := eU8) (fun _ => rfl) _ 0 _) (by simp; omega) ?_)
    refine oY hg2 (qJ (coBt (ps.take i) (by rw [List.length_take]; omega)) bd59 ?_)
    refine oY hg2 (aop_not rfl rfl rfl rfl ?_)
    refine oG (qP ((c.getD ((pthR a r).getD i 0).toNat 0) == 0) (.b (!((ps.take i).any (fun b : Int => b != 0)))) hg2 ?_)
    refine op0 ?_
    exact imp_env (lee_both 46 _ _ (by rw [hg2] <;> rfl) lO)
   have hf4 := (beq_eq_false_iff_ne).1 hg2
   refine nG hg2 ?_
   refine nG hg2 ?_
   refine nG hg2 ?_
   refine nG hg2 ?_
   refine nG hg2 ?_
   refine nG hg2 ?_
   refine nG hg2 ?_
   refine nG hg2 ?_
   refine oG (qP ((c.getD ((pthR a r).getD i 0).toNat 0) == 0) (.b false) hg2 ?_)
   refine op0 ?_
   exact imp_env (lee_both 46 _ _ (by rw [hg2] <;> rfl) lO)
  refine op0 ?_
  refine rT (upd (upd (upd (upd none_ 1 (Z4a r tr en ps)) 2 (.i (i : Int))) 12 (.v (.int .u8 0))) 46 (.b (((c.getD ((pthR a r).getD i 0).toNat 0) == 0) && (!((ps.take i).any (fun b : Int => b != 0)))))) noOb ?_
  refine awp_cond (((c.getD ((pthR a r).getD i 0).toNat 0) == 0) && (!((ps.take i).any (fun b : Int => b != 0)))) rfl rfl (fun hc1 => ?_) (fun hc1 => ?_)
  ·skip
   obtain ⟨hf5a, hf5b⟩ := and_t hc1
   have hf6 := (beq_iff_eq).1 hf5a
   have hf7 := not_t hf5b
   refine seqR ?_
   refine mG (.v (.int .u8 0)) ?_
   refine op0 ?_
   refine awp_ret ?_
   exact fret (av := .v (.int .u8 0)) rfl rfl (by exact congrArg (fun v_ => AV.v (.int .u8 v_)) (tn_2t hc0 hc1))
  refine awp_skip ?_
  refine seqR ?_
  refine mG (Z4a r tr en ps) ?_
  refine oG (aop_nilCheck rfl rfl rfl rfl rfl ?_)
  refine oG (qF (Z4a r tr en ps) (.rp [.q eU8 ps]) ft47_3 sz37 ?_)
  refine oG (qL (.q eU8 ps) ag37 ?_)
  refine mG (.i (i : Int)) ?_
  refine oG (qX (0 : Int) ut37 sz5 ?_)
  refine oG (qL (.v (.int .u8 (ps.getD i 0))) ag5 ?_)
  refine mG (.v (.int .u8 (ps.getD i 0))) ?_
  refine rU (upd none_ 12 (.v (.int .u8 (ps.getD i 0)))) noOb ?_
  refine awp_ret ?_
  exact fret (av := .v (.int .u8 (ps.getD i 0))) rfl rfl (by exact congrArg (fun v_ => AV.v (.int .u8 v_)) (tn_2f hc0 hc1))
 have hf8 := (beq_eq_false_iff_ne).1 hc0
 refine seqR ?_
 refine bG ((.bool ((ps.getD i 0) == 1))) ?_
 refine mG (.b ((ps.getD i 0) == 1)) ?_
 refine rU (upd (Z4b a d r tr en ps i e c ow) 47 (.b ((ps.getD i 0) == 1))) noOb ?_
 refine awp_cond ((ps.getD i 0) == 1) rfl rfl (fun hc2 => ?_) (fun hc2 => ?_)
 ·skip
  have hf9 := (beq_iff_eq).1 hc2
  refine awp_seq ?_
  refine seqCut ⟨(upd (upd (upd (upd (upd (upd (upd none_ 1 (Z4a r tr en ps)) 2 (.i (i : Int))) 3 (.i e)) 4 (.q eU8 c)) 12 (.v (.int .u8 0))) 13 (.i ((pthR a r).getD i 0))) 69 (.b (((c.getD ((pthR a r).getD i 0).toNat 0) == 1) && ((ow.getD (partI d ((pthR a r).getD i 0)).toNat 0) == tr)))), noOb⟩ ?_ ?_
  ·skip
   refine (Bool.eq_false_or_eq_true ((c.getD ((pthR a r).getD i 0).toNat 0) == 1)).elim (fun hq0 => ?_) (fun hq0 => ?_)
   ·skip
    have hf11 := (beq_iff_eq).1 hq0
    refine aD 21 [(69, .b ((ow.getD (partI d ((pthR a r).getD i 0)).toNat 0) == tr)), (68, .b ((ow.getD (partI d ((pthR a r).getD i 0)).toNat 0) == tr)), (67, .i tr), (66, .rp [.i tr, .i en, .q eU8 ps]), (65, .rp [.i r, .i tr, .i en, .q eU8 ps]), (64, .rp [.i r, .i tr, .i en, .q eU8 ps]), (63, .i (ow.getD (partI d ((pthR a r).getD i 0)).toNat 0)), (62, .rp (([.i (ow.getD (partI d ((pthR a r).getD i 0)).toNat 0)] : List AV) ++ ((enc eI ow).drop (((partI d ((pthR a r).getD i 0)).toNat + 1) * 1)))), (61, .i (partI d ((pthR a r).getD i 0))), (60, .i ((pthR a r).getD i 0)), (59, .rp (Z4c d)), (58, .rp [.rp (Z4c d), .one]), (57, .rp (Z49 a d)), (56, .rp (Z49 a d)), (55, .q eI ow), (54, .b ((c.getD ((pthR a r).getD i 0).toNat 0) == 1)), (53, .b ((c.getD ((pthR a r).getD i 0).toNat 0) == 1)), (52, .v (.int .u8 (c.getD ((pthR a r).getD i 0).toNat 0))), (51, .rp (([.v (.int .u8 (c.getD ((pthR a r).getD i 0).toNat 0))] : List AV) ++ ((enc eU8 c).drop ((((pthR a r).getD i 0).toNat + 1) * 1)))), (50, .i ((pthR a r).getD i 0)), (49, .q eU8 c)] mixed ?_ ?_
    ·iterate 21 (refine ⟨?_, ?_⟩; rotate_left)
     trivial
     ·exact sMv
     ·exact sMv
     ·exact dW 51 fun st hob hE => aop_ixI 0 rfl rfl rfl ut37 sz5 (hE 49 rfl) (hE 50 rfl) (fun _ => rfl) rfl om oo (by rw [hob]; rfl)
     ·exact (sLd ag5)
     ·exact sB (.bool ((c.getD ((pthR a r).getD i 0).toNat 0) == 1)) rfl
     ·exact sMv
     ·exact gy1 hq0 sMv
     ·exact gy1 hq0 sMv
     ·exact gy1 hq0 (dW 57 fun st hob hE => aop_nilCheck rfl rfl rfl (hE 56 rfl) rfl (by rw [hob]; rfl))
     ·exact gy1 hq0 (sF (.rp (Z49 a d)) (.rp [.rp (Z4c d), .one]) ft65_1 sz61)
     ·exact gy1 hq0 (sLd ag61)
     ·exact gy1 hq0 sMv
     ·exact gy1 hq0 (dW 61 fun st hob hE => call_ (g_Part d ((pthR a r).getD i 0) hpa hpp) rfl rfl rfl rfl rfl bd61 (by show [st.env 59, st.env 60] ++ _ = _; rw [hE 59 rfl, hE 60 rfl]; rfl) (by rw [hob]; rfl))
     ·exact gy1 hq0 (dW 62 fun st hob hE => aop_ixI 0 rfl rfl rfl ut42 sz3 (hE 55 rfl) (hE 61 rfl) (fun _ => rfl) rfl om oo (by rw [hob]; rfl))
     ·exact gy1 hq0 (sLd ag3)
     ·exact gy1 hq0 sMv
     ·exact gy1 hq0 (dW 65 fun st hob hE => aop_nilCheck rfl rfl rfl (hE 64 rfl) rfl (by rw [hob]; rfl))
     ·exact gy1 hq0 (sF (Z4a r tr en ps) (.rp [.i tr, .i en, .q eU8 ps]) ft47_1 sz3)
     ·exact gy1 hq0 (sLd ag3)
     ·exact gy1 hq0 (sB (.bool ((ow.getD (partI d ((pthR a r).getD i 0)).toNat 0) == tr)) rfl)
     exact dW 69 fun st hob hE => aop_pick (b := ((c.getD ((pthR a r).getD i 0).toNat 0) == 1)) (av := .b ((ow.getD (partI d ((pthR a r).getD i 0)).toNat 0) == tr)) rfl rfl rfl (hE 54 rfl) (by rw [hq0]; exact hE 68 rfl) (by rw [hob]; rfl)
    refine op0 ?_
    show Imp _ _ _
    exact iN (he := (sS (by exact congrArg (fun b_ => AV.v (.bool b_)) (by rw [hq0]; rfl)) (sS rfl (sS rfl (sS rfl (sS rfl (sS rfl (sS rfl sr_none))))))))
   have hf12 := (beq_eq_false_iff_ne).1 hq0
   refine aD 21 [(69, .b false), (68, .v undef), (67, .v undef), (66, .v undef), (65, .v undef), (64, .v undef), (63, .v undef), (62, .v undef), (61, .v undef), (60, .v undef), (59, .v undef), (58, .v undef), (57, .v undef), (56, .v undef), (55, .v undef), (54, .b ((c.getD ((pthR a r).getD i 0).toNat 0) == 1)), (53, .b ((c.getD ((pthR a r).getD i 0).toNat 0) == 1)), (52, .v (.int .u8 (c.getD ((pthR a r).getD i 0).toNat 0))), (51, .rp (([.v (.int .u8 (c.getD ((pthR a r).getD i 0).toNat 0))] : List AV) ++ ((enc eU8 c).drop ((((pthR a r).getD i 0).toNat + 1) * 1)))), (50, .i ((pthR a r).getD i 0)), (49, .q eU8 c)] mixed ?_ ?_
   ·iterate 21 (refine ⟨?_, ?_⟩; rotate_left)
    trivial
    ·exact sMv
    ·exact sMv
    ·exact dW 51 fun st hob hE => aop_ixI 0 rfl rfl rfl ut37 sz5 (hE 49 rfl) (hE 50 rfl) (fun _ => rfl) rfl om oo (by rw [hob]; rfl)
    ·exact (sLd ag5)
    ·exact sB (.bool ((c.getD ((pthR a r).getD i 0).toNat 0) == 1)) rfl
    ·exact sMv
    ·exact gn1 hq0
    ·exact gn1 hq0
    ·exact gn1 hq0
    ·exact gn1 hq0
    ·exact gn1 hq0
    ·exact gn1 hq0
    ·exact gn1 hq0
    ·exact gn1 hq0
    ·exact gn1 hq0
    ·exact gn1 hq0
    ·exact gn1 hq0
    ·exact gn1 hq0
    ·exact gn1 hq0
    ·exact gn1 hq0
    exact sPk ((c.getD ((pthR a r).getD i 0).toNat 0) == 1) (.b false) hq0
   refine op0 ?_
   show Imp _ _ _
   exact iN (he := (sS (by exact congrArg (fun b_ => AV.v (.bool b_)) (by rw [hq0]; rfl)) (sS rfl (sS rfl (sS rfl (sS rfl (sS rfl (sS rfl sr_none))))))))
  refine awp_cond (((c.getD ((pthR a r).getD i 0).toNat 0) == 1) && ((ow.getD (partI d ((pthR a r).getD i 0)).toNat 0) == tr)) rfl rfl (fun hc3 => ?_) (fun hc3 => ?_)
  ·skip
   refine seqR ?_
   refine mG (.v (.int .u8 2)) ?_
   refine op0 ?_
   refine awp_ret ?_
   exact fret (av := .v (.int .u8 2)) rfl rfl (by exact congrArg (fun v_ => AV.v (.int .u8 v_)) (tn_1a hc0 hc2 hc3))
  refine awp_skip ?_
  refine seqR ?_
  refine mG (.q eU8 c) ?_
  refine mG (.i ((pthR a r).getD i 0)) ?_
  refine oG (aop_ixI 0 rfl rfl rfl ut37 sz5 rfl rfl (fun _ => rfl) rfl om oo ?_)
  refine oG (qL (.v (.int .u8 (c.getD ((pthR a r).getD i 0).toNat 0))) ag5 ?_)
  refine bG ((.bool ((c.getD ((pthR a r).getD i 0).toNat 0) == 0))) ?_
  refine mG (.b ((c.getD ((pthR a r).getD i 0).toNat 0) == 0)) ?_
  refine aops_grp 6 81 (.b (((c.getD ((pthR a r).getD i 0).toNat 0) == 0) && (decide (en ≥ 0)))) ?_ ?_
  ·refine (Bool.eq_false_or_eq_true ((c.getD ((pthR a r).getD i 0).toNat 0) == 0)).elim (fun hg13 => ?_) (fun hg13 => ?_)
   ·skip
    have hf14 := (beq_iff_eq).1 hg13
    refine oY hg13 (qM (Z4a r tr en ps) ?_)
    refine oY hg13 (aop_nilCheck rfl rfl rfl rfl rfl ?_)
    refine oY hg13 (qF (Z4a r tr en ps) (.rp [.i en, .q eU8 ps]) ft47_2 sz2 ?_)
    refine oY hg13 (qL (.i en) ag2 ?_)
    refine oY hg13 (qB (.bool (decide (en ≥ 0))) rfl ?_)
    refine oG (qP ((c.getD ((pthR a r).getD i 0).toNat 0) == 0) (.b (decide (en ≥ 0))) hg13 ?_)
    refine op0 ?_
    exact imp_env (lee_both 81 _ _ (by rw [hg13] <;> rfl) lO)
   have hf15 := (beq_eq_false_iff_ne).1 hg13
   refine nG hg13 ?_
   refine nG hg13 ?_
   refine nG hg13 ?_
   refine nG hg13 ?_
   refine nG hg13 ?_
   refine oG (qP ((c.getD ((pthR a r).getD i 0).toNat 0) == 0) (.b false) hg13 ?_)
   refine op0 ?_
   exact imp_env (lee_both 81 _ _ (by rw [hg13] <;> rfl) lO)
  refine mG (.b (((c.getD ((pthR a r).getD i 0).toNat 0) == 0) && (decide (en ≥ 0)))) ?_
  refine aops_grp 7 89 (.b ((((c.getD ((pthR a r).getD i 0).toNat 0) == 0) && (decide (en ≥ 0))) && (decide (en ≤ e)))) ?_ ?_
  ·refine (Bool.eq_false_or_eq_true (((c.getD ((pthR a r).getD i 0).toNat 0) == 0) && (decide (en ≥ 0)))).elim (fun hg16 => ?_) (fun hg16 => ?_)
   ·skip
    obtain ⟨hf17a, hf17b⟩ := and_t hg16
    have hf18 := (beq_iff_eq).1 hf17a
    have hf19 := of_decide_eq_true hf17b
    refine oY hg16 (qM (Z4a r tr en ps) ?_)
    refine oY hg16 (aop_nilCheck rfl rfl rfl rfl rfl ?_)
    refine oY hg16 (qF (Z4a r tr en ps) (.rp [.i en, .q eU8 ps]) ft47_2 sz2 ?_)
    refine oY hg16 (qL (.i en) ag2 ?_)
    refine oY hg16 (qM (.i e) ?_)
    refine oY hg16 (qB (.bool (decide (en ≤ e))) rfl ?_)
    refine oG (qP (((c.getD ((pthR a r).getD i 0).toNat 0) == 0) && (decide (en ≥ 0))) (.b (decide (en ≤ e))) hg16 ?_)
    refine op0 ?_
    exact imp_env (lee_both 89 _ _ (by rw [hg16] <;> rfl) lO)
   refine nG hg16 ?_
   refine nG hg16 ?_
   refine nG hg16 ?_
   refine nG hg16 ?_
   refine nG hg16 ?_
   refine nG hg16 ?_
   refine oG (qP (((c.getD ((pthR a r).getD i 0).toNat 0) == 0) && (decide (en ≥ 0))) (.b false) hg16 ?_)
   refine op0 ?_
   exact imp_env (lee_both 89 _ _ (by rw [hg16] <;> rfl) lO)
  refine op0 ?_
  refine rT (upd (upd (upd (upd none_ 1 (Z4a r tr en ps)) 2 (.i (i : Int))) 12 (.v (.int .u8 0))) 89 (.b ((((c.getD ((pthR a r).getD i 0).toNat 0) == 0) && (decide (en ≥ 0))) && (decide (en ≤ e))))) noOb ?_
  refine awp_cond ((((c.getD ((pthR a r).getD i 0).toNat 0) == 0) && (decide (en ≥ 0))) && (decide (en ≤ e))) rfl rfl (fun hc4 => ?_) (fun hc4 => ?_)
  ·skip
   obtain ⟨hf20a, hf20b⟩ := and_t hc4
   obtain ⟨hf21a, hf21b⟩ := and_t hf20a
   have hf22 := (beq_iff_eq).1 hf21a
   have hf23 := of_decide_eq_true hf21b
   have hf24 := of_decide_eq_true hf20b
   refine seqR ?_
   refine mG (.v (.int .u8 0)) ?_
   refine op0 ?_
   refine awp_ret ?_
   exact fret (av := .v (.int .u8 0)) rfl rfl (by exact congrArg (fun v_ => AV.v (.int .u8 v_)) (tn_1b hc0 hc2 hc3 hc4))
  refine awp_skip ?_
  refine seqR ?_
  refine mG (Z4a r tr en ps) ?_
  refine oG (aop_nilCheck rfl rfl rfl rfl rfl ?_)
  refine oG (qF (Z4a r tr en ps) (.rp [.q eU8 ps]) ft47_3 sz37 ?_)
  refine oG (qL (.q eU8 ps) ag37 ?_)
  refine mG (.i (i : Int)) ?_
  refine oG (qX (0 : Int) ut37 sz5 ?_)
  refine oG (qL (.v (.int .u8 (ps.getD i 0))) ag5 ?_)
  refine mG (.v (.int .u8 (ps.getD i 0))) ?_
  refine rU (upd none_ 12 (.v (.int .u8 (ps.getD i 0)))) noOb ?_
  refine awp_ret ?_
  exact fret (av := .v (.int .u8 (ps.getD i 0))) rfl rfl (by exact congrArg (fun v_ => AV.v (.int .u8 v_)) (tn_1c hc0 hc2 hc3 hc4))
 have hf25 := (beq_eq_false_iff_ne).1 hc2
 refine awp_skip ?_
 refine seqR ?_
 refine mG (Z4a r tr en ps) ?_
 refine oG (aop_nilCheck rfl rfl rfl rfl rfl ?_)
 refine oG (qF (Z4a r tr en ps) (.rp [.q eU8 ps]) ft47_3 sz37 ?_)
 refine oG (qL (.q eU8 ps) ag37 ?_)
 refine mG (.i (i : Int)) ?_
 refine oG (qX (0 : Int) ut37 sz5 ?_)
 refine oG (qL (.v (.int .u8 (ps.getD i 0))) ag5 ?_)
 refine mG (.v (.int .u8 (ps.getD i 0))) ?_
 refine rU (upd none_ 12 (.v (.int .u8 (ps.getD i 0)))) noOb ?_
 refine awp_ret ?_
 exact fret (av := .v (.int .u8 (ps.getD i 0))) rfl rfl (by exact congrArg (fun v_ => AV.v (.int .u8 v_)) (tn_0 hc0 hc2))
theorem r_free1 (s : Int) (c : List (List Int)) (ls : List Lk) (a : List Int) (hro : c.length ≤ 65536) (hll : ls.length ≤ 65536) (hlk : ∀ x, x ∈ ls → LkP c x) (hst : a.length ≤ 65536) (hs : 0 ≤ s) : Fn Try.prog 46 [.v (.int .i64 s), .rp [.ro a.length (enc eU8 a)], .rp [.rp [.one, .one, .one, .one, .ro c.length (enc eIL c), .one, .one, .one, .one, .one, .one, .ro ls.length (enc eLp ls)]]] (.v (.bool (bzQ c ls a s))) := by
 refine fnE_of_body (N := 22) Try.func46 rfl rfl (resOf1 rfl) (by simp) (fun w0 X hL_ => ?_)
 refine seqR ?_
 refine mG (.b false) ?_
 refine op0 ?_
 refine seqR ?_
 refine mG (.i s) ?_
 refine oG (qL (.q eU8 a) ag37 ?_)
 refine oG (qN ut37 ?_)
 refine bG ((.bool (decide (s ≥ (a.length : Int))))) ?_
 refine mG (.b (decide (s ≥ (a.length : Int)))) ?_
 refine aops_grp 6 15 (.b ((decide (s ≥ (a.length : Int))) || ((a.getD s.toNat 0) != 0))) ?_ ?_
 ·refine (Bool.eq_false_or_eq_true (decide (s ≥ (a.length : Int)))).elim (fun hg1 => ?_) (fun hg1 => ?_)
  ·skip
   have hf2 := of_decide_eq_true hg1
   refine nG hg1 ?_
   refine nG hg1 ?_
   refine nG hg1 ?_
   refine nG hg1 ?_
   refine nG hg1 ?_
   refine oG (qP (decide (s ≥ (a.length : Int))) (.b true) hg1 ?_)
   refine op0 ?_
   exact imp_env (lee_both 15 _ _ (by rw [hg1] <;> rfl) lO)
  have hf3 := of_decide_eq_false hg1
  refine oY hg1 (qL (.q eU8 a) ag37 ?_)
  refine oY hg1 (qM (.i s) ?_)
  refine oY hg1 (aop_ixI 0 rfl rfl rfl ut37 sz5 rfl rfl (fun _ => rfl) rfl om oo ?_)
  refine oY hg1 (qL (.v (.int .u8 (a.getD s.toNat 0))) ag5 ?_)
  refine oY hg1 (qB (.bool ((a.getD s.toNat 0) != 0)) rfl ?_)
  refine oG (qP (decide (s ≥ (a.length : Int))) (.b ((a.getD s.toNat 0) != 0)) hg1 ?_)
  refine op0 ?_
  exact imp_env (lee_both 15 _ _ (by rw [hg1] <;> rfl) lO)
 refine mG (.b ((decide (s ≥ (a.length : Int))) || ((a.getD s.toNat 0) != 0))) ?_
 refine aops_grp 5 21 (.b (((decide (s ≥ (a.length : Int))) || ((a.getD s.toNat 0) != 0)) || (decide ((whoQ c ls s) ≥ 0)))) ?_ ?_
 ·refine (Bool.eq_false_or_eq_true ((decide (s ≥ (a.length : Int))) || ((a.getD s.toNat 0) != 0))).elim (fun hg4 => ?_) (fun hg4 => ?_)
  ·skip
   refine nG hg4 ?_
   refine nG hg4 ?_
   refine nG hg4 ?_
   refine nG hg4 ?_
   refine oG (qP ((decide (s ≥ (a.length : Int))) || ((a.getD s.toNat 0) != 0)) (.b true) hg4 ?_)
   refine op0 ?_
   exact imp_env (lee_both 21 _ _ (by rw [hg4] <;> rfl) lO)
  obtain ⟨hf5a, hf5b⟩ := or_f hg4
  have hf6 := of_decide_eq_false hf5a
  have hf7 := (bne_eq_false_iff_eq).1 hf5b
  refine oY hg4 (qL (.rp [.one, .one, .one, .one, .q eIL c, .one, .one, .one, .one, .one, .one, .q eLp ls]) ag35 ?_)
  refine oY hg4 (qM (.i s) ?_)
  refine oY hg4 (qJ (r_Whose c ls s hro hll hlk) bd13 ?_)
  refine oY hg4 (qB (.bool (decide ((whoQ c ls s) ≥ 0))) rfl ?_)
  refine oG (qP ((decide (s ≥ (a.length : Int))) || ((a.getD s.toNat 0) != 0)) (.b (decide ((whoQ c ls s) ≥ 0))) hg4 ?_)
  refine op0 ?_
  exact imp_env (lee_both 21 _ _ (by rw [hg4] <;> rfl) lO)
 refine mG (.b (((decide (s ≥ (a.length : Int))) || ((a.getD s.toNat 0) != 0)) || (decide ((whoQ c ls s) ≥ 0)))) ?_
 refine op0 ?_
 refine rT (upd none_ 4 (.b (((decide (s ≥ (a.length : Int))) || ((a.getD s.toNat 0) != 0)) || (decide ((whoQ c ls s) ≥ 0))))) noOb ?_
 refine awp_ret ?_
 exact fret (av := .v (.bool (((decide (s ≥ (a.length : Int))) || ((a.getD s.toNat 0) != 0)) || (decide ((whoQ c ls s) ≥ 0))))) rfl rfl (by rfl)
abbrev Z4d (c : List Int) (a : List (List Int)) (ls : List Lk) : List AV := [.rp [.q eU8 c], .rp [.rp [.one, .one, .one, .one, .q eIL a, .one, .one, .one, .one, .one, .one, .q eLp ls]]]
theorem ixF (l : List Int) (a : List (List Int)) (ls : List Lk) (c : List Int) (hl : l.length ≤ 4294967296) (hin : ∀ s, s ∈ l → 0 ≤ s) (hro : a.length ≤ 65536) (hll : ls.length ≤ 65536) (hlk : ∀ x, x ∈ ls → LkP a x) (hst : c.length ≤ 65536) : Fn Try.prog 67 [.ro l.length (enc eI l), .fn 46 [.rp [.ro c.length (enc eU8 c)], .rp [.rp [.one, .one, .one, .one, .ro a.length (enc eIL a), .one, .one, .one, .one, .one, .one, .ro ls.length (enc eLp ls)]]]] (.v (.int .i64 (idxB (bzQ a ls c) l))) := by
 refine fnE_of_body (N := 19) Try.func67 rfl rfl (resOf1 rfl) (by simp) (fun w0 X hL_ => ?_)
 refine seqR ?_
 refine mG (.i 0) ?_
 refine op0 ?_
 refine awp_seq ?_
 refine seqR ?_
 refine mG (.q eI l) ?_
 refine oG (qN ut42 ?_)
 refine mG (.i 0) ?_
 refine rU (upd (upd (upd (upd (upd none_ 0 (.q eI l)) 1 (.fn 46 (Z4d c a ls))) 4 (.i 0)) 7 (.i (l.length : Int))) 8 (.i 0)) noOb ?_
 refine awp_block ?_
 refine awp_countI (fun k => ⟨(upd (upd (upd (upd (upd none_ 0 (.q eI l)) 1 (.fn 46 (Z4d c a ls))) 4 (.i 0)) 7 (.i (l.length : Int))) 8 (.i (k : Int))), noOb⟩) (fun k => (l.take k).any (bzQ a ls c) = false) (l.length) ?_ (by simp) (fun k hk_k hinv => ?_)
 ·skip
  exact iN
 refine seqR ?_
 refine bG ((.bool (decide ((k : Int) < (l.length : Int))))) ?_
 refine op0 ?_
 refine awp_seq ?_
 refine awp_cond (decide ((k : Int) < (l.length : Int))) rfl rfl (fun hc0 => ?_) (fun hc0 => ?_)
 ·skip
  have hf1 := of_decide_eq_true hc0
  have hik := hin _ (getD_mem (l := l) (k := k) 0 om)
  refine awp_skip ?_
  refine awp_seq ?_
  refine awp_block ?_
  refine seqR ?_
  refine mG (.i (k : Int)) ?_
  refine mG (.i (k : Int)) ?_
  refine op0 ?_
  refine seqR ?_
  refine mG (.fn 46 (Z4d c a ls)) ?_
  refine mG (.q eI l) ?_
  refine mG (.i (k : Int)) ?_
  refine oG (qX (0 : Int) ut42 sz3 ?_)
  refine oG (qL (.i (l.getD k 0)) ag3 ?_)
  refine oG (qJ (r_free1 (l.getD k 0) a ls c hro hll hlk hst hik) bd46 ?_)
  refine rU (upd (upd (upd (upd (upd (upd (upd none_ 0 (.q eI l)) 1 (.fn 46 (Z4d c a ls))) 4 (.i 0)) 5 (.i (k : Int))) 7 (.i (l.length : Int))) 8 (.i (k : Int))) 16 (.b (bzQ a ls c (l.getD k 0)))) noOb ?_
  refine awp_cond (bzQ a ls c (l.getD k 0)) rfl rfl (fun hc1 => ?_) (fun hc1 => ?_)
  ·skip
   refine seqR ?_
   refine mG (.i (k : Int)) ?_
   refine mG (.i (k : Int)) ?_
   refine op0 ?_
   refine awp_ret ?_
   exact fret (av := .v (.int .i64 (k : Int))) rfl rfl (by rw [idxB_stop (f := bzQ a ls c) 0 om hinv hc1] <;> rfl)
  refine awp_skip ?_
  refine regR ?_
  refine oG (qB (.int .i64 ((k + 1 : Nat) : Int)) (addN om) ?_)
  refine mG (.i ((k + 1 : Nat) : Int)) ?_
  refine op0 ?_
  show _ ∧ _
  refine ⟨by omega, (any_step 0 om hinv hc1), ?_⟩
  exact iN
 have hf2 := of_decide_eq_false hc0
 refine awp_exit ?_
 refine seqR ?_
 refine mG (.i (-1)) ?_
 refine op0 ?_
 refine awp_ret ?_
 exact fret (av := .v (.int .i64 (-1))) rfl rfl (by rw [idxB_end (f := bzQ a ls c) om hinv] <;> rfl)
theorem coF (l : List Int) (a : List (List Int)) (ls : List Lk) (c : List Int) (hl : l.length ≤ 4294967296) (hin : ∀ s, s ∈ l → 0 ≤ s) (hro : a.length ≤ 65536) (hll : ls.length ≤ 65536) (hlk : ∀ x, x ∈ ls → LkP a x) (hst : c.length ≤ 65536) : Fn Try.prog 45 [.ro l.length (enc eI l), .fn 46 [.rp [.ro c.length (enc eU8 c)], .rp [.rp [.one, .one, .one, .one, .ro a.length (enc eIL a), .one, .one, .one, .one, .one, .one, .ro ls.length (enc eLp ls)]]]] (.v (.bool (l.any (bzQ a ls c)))) := by
 refine fnE_of_body (N := 9) Try.func45 rfl rfl (resOf1 rfl) (by simp) (fun w0 X hL_ => ?_)
 refine seqR ?_
 refine mG (.b false) ?_
 refine op0 ?_
 refine seqR ?_
 refine mG (.q eI l) ?_
 refine mG (.fn 46 [.rp [.q eU8 c], .rp [.rp [.one, .one, .one, .one, .q eIL a, .one, .one, .one, .one, .one, .one, .q eLp ls]]]) ?_
 refine oG (qJ (ixF l a ls c hl hin hro hll hlk hst) bd67 ?_)
 refine bG ((.bool (decide ((idxB (bzQ a ls c) l) ≥ 0)))) ?_
 refine mG (.b (decide ((idxB (bzQ a ls c) l) ≥ 0))) ?_
 refine rU (upd none_ 4 (.b (decide ((idxB (bzQ a ls c) l) ≥ 0)))) noOb ?_
 refine awp_ret ?_
 exact fret (av := .v (.bool (decide ((idxB (bzQ a ls c) l) ≥ 0)))) rfl rfl (by rw [idxB_any 0] <;> rfl)
theorem r_free (a : List (List Int)) (ls : List Lk) (r : Int) (c : List Int) (d : a.length ≤ 65536) (hll : ls.length ≤ 65536) (hlk : ∀ x, x ∈ ls → LkP a x) (hst : c.length ≤ 65536) (hr : 0 ≤ r ∧ r < (a.length : Int)) (hp : 1 ≤ (a.getD r.toNat []).length) (hpl : (a.getD r.toNat []).length ≤ 65536) (hin : ∀ s, s ∈ pthR a r → 0 ≤ s) : Fn Try.prog 25 [.rp [.one, .one, .one, .one, .ro a.length (enc eIL a), .one, .one, .one, .one, .one, .one, .ro ls.length (enc eLp ls)], .v (.int .i64 r), .ro c.length (enc eU8 c)] (.v (.bool (!((pthR a r).any (bzQ a ls c))))) := by
 have hpq := pth_len (routes := a) (r := r)
 refine fnE_of_body (N := 13) Try.func25 rfl rfl (resOf1 rfl) (by simp) (fun w0 X hL_ => ?_)
 refine seqR ?_
 refine oG (qW 51 ?_)
 refine oG (qW 52 ?_)
 refine mG (.b false) ?_
 refine op0 ?_
 refine seqR ?_
 refine oG (qL (.rp [.one, .one, .one, .one, .q eIL a, .one, .one, .one, .one, .one, .one, .q eLp ls]) ag35 ?_)
 refine mG (.i r) ?_
 refine oG (qC (r_pieces a r d hr hp) bd34 ?_)
 refine oG (aop_makeFunc (caps := [.tmp 5, .tmp 3]) rfl rfl rfl rfl ?_)
 refine oG (callL_ (coF (pthR a r) a ls c om hin d hll hlk hst) rfl rfl rfl rfl rfl bd45 (lends_cons (lend_n (av := .q eI (pthR a r))) (lends_cons (lend_fn (lends_cons (lend_pt rfl lS) (lends_cons (lend_pt rfl lS) lends_nil))) lends_nil)) ?_)
 refine oG (aop_not rfl rfl rfl rfl ?_)
 refine mG (.b (!((pthR a r).any (bzQ a ls c)))) ?_
 refine rU (upd none_ 6 (.b (!((pthR a r).any (bzQ a ls c))))) (updO (updO noOb 51 (.live ⟨[.rp [.one, .one, .one, .one, .q eIL a, .one, .one, .one, .one, .one, .one, .q eLp ls]], 35, 1⟩)) 52 (.live ⟨[.q eU8 c], 37, 1⟩)) ?_
 refine awp_ret ?_
 exact fret (av := .v (.bool (!((pthR a r).any (bzQ a ls c))))) rfl rfl rfl
theorem r_find1 (q r : Int)  : Fn Try.prog 44 [.rp [.v (.int .i64 q), .one, .one, .one], .rp [.v (.int .i64 r)]] (.v (.bool (decide (q = r)))) := by
 refine fnE_of_body (N := 10) Try.func44 rfl rfl (resOf1 rfl) (by simp) (fun w0 X hL_ => ?_)
 refine seqR ?_
 refine mG (.b false) ?_
 refine op0 ?_
 refine awp_seq ?_
 refine aD 6 [(9, .b (q == r)), (8, .i r), (7, .i q), (6, .rp [.i q, .one, .one, .one]), (5, .rp [.i q, .one, .one, .one]), (4, .rp [.i q, .one, .one, .one])] mixed ?_ ?_
 ·refine ⟨?_, ?_, ?_, ?_, ?_, ?_, trivial⟩
  ·exact sMv
  ·exact dW 5 fun st hob hE => aop_nilCheck rfl rfl rfl (hE 4 rfl) rfl (by rw [hob]; rfl)
  ·exact sF (.rp [.i q, .one, .one, .one]) (.rp [.i q, .one, .one, .one]) ft47_0 sz3
  ·exact (sLd ag3)
  ·exact (sLd ag3)
  exact sB (.bool (q == r)) rfl
 refine mG (.b (q == r)) ?_
 refine op0 ?_
 refine awp_ret ?_
 exact fret (av := .v (.bool (q == r))) rfl rfl (by rfl)
abbrev Z4e (l : List Lk) (r : Int) : Nat → AV := (upd (upd (upd none_ 0 (.q eLp l)) 1 (.fn 44 [.rp [.i r]])) 4 (.i 0))
theorem ixLp (l : List Lk) (r : Int) (hl : l.length ≤ 4294967296)  : Fn Try.prog 43 [.ro l.length (enc eLp l), .fn 44 [.rp [.v (.int .i64 r)]]] (.v (.int .i64 (idxB (fun x : Lk => decide (x.route = r)) l))) := by
 refine fnE_of_body (N := 19) Try.func43 rfl rfl (resOf1 rfl) (by simp) (fun w0 X hL_ => ?_)
 refine seqR ?_
 refine mG (.i 0) ?_
 refine op0 ?_
 refine awp_seq ?_
 refine seqR ?_
 refine mG (.q eLp l) ?_
 refine oG (qN ut63 ?_)
 refine mG (.i 0) ?_
 refine rU (upd (upd (Z4e l r) 7 (.i (l.length : Int))) 8 (.i 0)) noOb ?_
 refine awp_block ?_
 refine awp_countI (fun k => ⟨(upd (upd (Z4e l r) 7 (.i (l.length : Int))) 8 (.i (k : Int))), noOb⟩) (fun k => (l.take k).any (fun x : Lk => decide (x.route = r)) = false) (l.length) ?_ (by simp) (fun k hk_k hinv => ?_)
 ·skip
  exact iN
 refine seqR ?_
 refine bG ((.bool (decide ((k : Int) < (l.length : Int))))) ?_
 refine op0 ?_
 refine awp_seq ?_
 refine awp_cond (decide ((k : Int) < (l.length : Int))) rfl rfl (fun hc0 => ?_) (fun hc0 => ?_)
 ·skip
  have hf1 := of_decide_eq_true hc0
  refine awp_skip ?_
  refine awp_seq ?_
  refine awp_block ?_
  refine seqR ?_
  refine mG (.i (k : Int)) ?_
  refine mG (.i (k : Int)) ?_
  refine op0 ?_
  refine seqR ?_
  refine mG (.fn 44 [.rp [.i r]]) ?_
  refine mG (.q eLp l) ?_
  refine mG (.i (k : Int)) ?_
  refine oG (qX dLk ut63 sz69 ?_)
  refine oG (qL (.rp [.i ((l.getD k dLk).route), .i ((l.getD k dLk).train), .i ((l.getD k dLk).ends), .ro ((l.getD k dLk).pieces.length) (enc eU8 ((l.getD k dLk).pieces))]) ag69 ?_)
  refine oG (qC (r_find1 ((l.getD k dLk).route) r) bd44 ?_)
  refine rU (upd (upd (upd (upd (Z4e l r) 5 (.i (k : Int))) 7 (.i (l.length : Int))) 8 (.i (k : Int))) 16 (.b (decide (((l.getD k dLk).route) = r)))) noOb ?_
  refine awp_cond (decide (((l.getD k dLk).route) = r)) rfl rfl (fun hc1 => ?_) (fun hc1 => ?_)
  ·skip
   refine seqR ?_
   refine mG (.i (k : Int)) ?_
   refine mG (.i (k : Int)) ?_
   refine op0 ?_
   refine awp_ret ?_
   exact fret (av := .v (.int .i64 (k : Int))) rfl rfl (by rw [idxB_stop (f := fun x : Lk => decide (x.route = r)) dLk om hinv hc1] <;> rfl)
  refine awp_skip ?_
  refine regR ?_
  refine oG (qB (.int .i64 ((k + 1 : Nat) : Int)) (addN om) ?_)
  refine mG (.i ((k + 1 : Nat) : Int)) ?_
  refine op0 ?_
  show _ ∧ _
  refine ⟨by omega, (any_step dLk om hinv hc1), ?_⟩
  exact iN
 have hf2 := of_decide_eq_false hc0
 refine awp_exit ?_
 refine seqR ?_
 refine mG (.i (-1)) ?_
 refine op0 ?_
 refine awp_ret ?_
 exact fret (av := .v (.int .i64 (-1))) rfl rfl (by rw [idxB_end (f := fun x : Lk => decide (x.route = r)) om hinv] <;> rfl)
abbrev Z4g (a : List Pnt) : List AV := [.one, .one, .one, .q ePnt a, .one, .one, .one, .one, .one, .one]
abbrev Z4f (a : List Pnt) : List AV := [.one, .one, .one, .q ePnt a, .one, .one, .one, .one, .one, .one, .one, .one]
theorem r_Set1 (p : Int) (rt : Bool) (a : List Pnt) (d : List Int) (c : List View) (e f : List Bool) (hp : a.length ≤ 65536) (hs : d.length ≤ 65536) (hn : c.length ≤ 65536) (hlk : e.length ≤ 65536) (hh : f.length ≤ 65536) (hv : ∀ v, v ∈ c → v.span.length ≤ 65536) : Fn Try.prog 31 [.agg [.v (.int .i64 p), .v (.bool rt)], .rp [.rp [.one, .one, .one, .ro a.length (enc ePnt a), .one, .one, .one, .one, .one, .one, .one, .one]], .rp [.ro d.length (enc eU8 d)], .rp [.ro c.length (enc eV c)], .rp [.ro e.length (enc eB e)], .rp [.ro f.length (enc eB f)]] (.v (.bool (noQ a d c e f ⟨p, rt⟩))) := by
 refine fnE_of_body (N := 20) Try.func31 rfl rfl (resOf1 rfl) (by simp) (fun w0 X hL_ => ?_)
 refine seqR ?_
 refine oG (qW 51 ?_)
 refine mG (.b false) ?_
 refine op0 ?_
 refine awp_seq ?_
 refine aD 12 [(19, .b (!(mayB a d c e f p))), (18, .b (mayB a d c e f p)), (17, .i p), (16, .pt 51 0), (15, .q eB f), (14, .q eB e), (13, .q eV c), (12, .q eU8 d), (11, .agg (Z4g a)), (10, .rp (Z4f a)), (9, .rp (Z4f a)), (8, .rp (Z4f a))] mixed ?_ ?_
 ·refine ⟨?_, ?_, ?_, ?_, ?_, ?_, ?_, ?_, ?_, ?_, ?_, ?_, trivial⟩
  ·exact (sLd ag35)
  ·exact dW 9 fun st hob hE => aop_nilCheck rfl rfl rfl (hE 8 rfl) rfl (by rw [hob]; rfl)
  ·exact sF (.rp (Z4f a)) (.rp (Z4f a)) ft65_0 sz33
  ·exact dW 11 fun st hob hE => aop_ldB (cells' := (Z4g a)) rfl rfl rfl ag33 sz33 (hE 10 rfl) rfl rfl rfl (by rw [hob]; rfl)
  ·exact (sLd ag37)
  ·exact (sLd ag66)
  ·exact (sLd ag38)
  ·exact (sLd ag38)
  ·exact sF (.pt 51 0) (.pt 51 0) ft79_0 sz3
  ·exact sL ag3
  ·exact dW 18 fun st hob hE => call_ (p_May a d c e f p hp hs hn hlk hh hv) rfl rfl rfl rfl rfl bd32 (by show [st.env 11, st.env 12, st.env 13, st.env 14, st.env 15, st.env 17] ++ _ = _; rw [hE 11 rfl, hE 12 rfl, hE 13 rfl, hE 14 rfl, hE 15 rfl, hE 17 rfl]; rfl) (by rw [hob]; rfl)
  exact dW 19 fun st hob hE => aop_not rfl rfl rfl (hE 18 rfl) (by rw [hob]; rfl)
 refine mG (.b (!(mayB a d c e f p))) ?_
 refine op0 ?_
 refine awp_ret ?_
 exact fret (av := .v (.bool (!(mayB a d c e f p)))) rfl rfl (by rfl)
abbrev Z4h (c : List Pnt) (d : List Int) (a : List View) (e g : List Bool) : List AV := [.rp [.rp [.one, .one, .one, .q ePnt c, .one, .one, .one, .one, .one, .one, .one, .one]], .rp [.q eU8 d], .rp [.q eV a], .rp [.q eB e], .rp [.q eB g]]
theorem ixS (l : List Need) (c : List Pnt) (d : List Int) (a : List View) (e g : List Bool) (hl : l.length ≤ 4294967296) (hp : c.length ≤ 65536) (hs : d.length ≤ 65536) (hn : a.length ≤ 65536) (hlk : e.length ≤ 65536) (hh : g.length ≤ 65536) (hv : ∀ v, v ∈ a → v.span.length ≤ 65536) : Fn Try.prog 54 [.ro l.length (enc eN l), .fn 31 [.rp [.rp [.one, .one, .one, .ro c.length (enc ePnt c), .one, .one, .one, .one, .one, .one, .one, .one]], .rp [.ro d.length (enc eU8 d)], .rp [.ro a.length (enc eV a)], .rp [.ro e.length (enc eB e)], .rp [.ro g.length (enc eB g)]]] (.v (.int .i64 (idxB (noQ c d a e g) l))) := by
 refine fnE_of_body (N := 19) Try.func54 rfl rfl (resOf1 rfl) (by simp) (fun w0 X hL_ => ?_)
 refine seqR ?_
 refine mG (.i 0) ?_
 refine op0 ?_
 refine awp_seq ?_
 refine seqR ?_
 refine mG (.q eN l) ?_
 refine oG (qN ut72 ?_)
 refine mG (.i 0) ?_
 refine rU (upd (upd (upd (upd (upd none_ 0 (.q eN l)) 1 (.fn 31 (Z4h c d a e g))) 4 (.i 0)) 7 (.i (l.length : Int))) 8 (.i 0)) noOb ?_
 refine awp_block ?_
 refine awp_countI (fun k => ⟨(upd (upd (upd (upd (upd none_ 0 (.q eN l)) 1 (.fn 31 (Z4h c d a e g))) 4 (.i 0)) 7 (.i (l.length : Int))) 8 (.i (k : Int))), noOb⟩) (fun k => (l.take k).any (noQ c d a e g) = false) (l.length) ?_ (by simp) (fun k hk_k hinv => ?_)
 ·skip
  exact iN
 refine seqR ?_
 refine bG ((.bool (decide ((k : Int) < (l.length : Int))))) ?_
 refine op0 ?_
 refine awp_seq ?_
 refine awp_cond (decide ((k : Int) < (l.length : Int))) rfl rfl (fun hc0 => ?_) (fun hc0 => ?_)
 ·skip
  have hf1 := of_decide_eq_true hc0
  refine awp_skip ?_
  refine awp_seq ?_
  refine awp_block ?_
  refine seqR ?_
  refine mG (.i (k : Int)) ?_
  refine mG (.i (k : Int)) ?_
  refine op0 ?_
  refine seqR ?_
  refine mG (.fn 31 (Z4h c d a e g)) ?_
  refine mG (.q eN l) ?_
  refine mG (.i (k : Int)) ?_
  refine oG (qX dN ut72 sz79 ?_)
  refine oG (qLB [.i ((l.getD k dN).point), .b ((l.getD k dN).right)] ag79 sz79 ?_)
  refine oG (qJ (r_Set1 (l.getD k dN).point (l.getD k dN).right c d a e g hp hs hn hlk hh hv) bd31 ?_)
  refine rU (upd (upd (upd (upd (upd (upd (upd none_ 0 (.q eN l)) 1 (.fn 31 (Z4h c d a e g))) 4 (.i 0)) 5 (.i (k : Int))) 7 (.i (l.length : Int))) 8 (.i (k : Int))) 16 (.b (noQ c d a e g ⟨((l.getD k dN).point), ((l.getD k dN).right)⟩))) noOb ?_
  refine awp_cond (noQ c d a e g ⟨((l.getD k dN).point), ((l.getD k dN).right)⟩) rfl rfl (fun hc1 => ?_) (fun hc1 => ?_)
  ·skip
   refine seqR ?_
   refine mG (.i (k : Int)) ?_
   refine mG (.i (k : Int)) ?_
   refine op0 ?_
   refine awp_ret ?_
   exact fret (av := .v (.int .i64 (k : Int))) rfl rfl (by rw [idxB_stop (f := noQ c d a e g) dN om hinv hc1] <;> rfl)
  refine awp_skip ?_
  refine regR ?_
  refine oG (qB (.int .i64 ((k + 1 : Nat) : Int)) (addN om) ?_)
  refine mG (.i ((k + 1 : Nat) : Int)) ?_
  refine op0 ?_
  show _ ∧ _
  refine ⟨by omega, (any_step dN om hinv hc1), ?_⟩
  exact iN
 have hf2 := of_decide_eq_false hc0
 refine awp_exit ?_
 refine seqR ?_
 refine mG (.i (-1)) ?_
 refine op0 ?_
 refine awp_ret ?_
 exact fret (av := .v (.int .i64 (-1))) rfl rfl (by rw [idxB_end (f := noQ c d a e g) om hinv] <;> rfl)
theorem coS (l : List Need) (c : List Pnt) (d : List Int) (a : List View) (e f : List Bool) (hl : l.length ≤ 4294967296) (hp : c.length ≤ 65536) (hs : d.length ≤ 65536) (hn : a.length ≤ 65536) (hlk : e.length ≤ 65536) (hh : f.length ≤ 65536) (hv : ∀ v, v ∈ a → v.span.length ≤ 65536) : Fn Try.prog 30 [.ro l.length (enc eN l), .fn 31 [.rp [.rp [.one, .one, .one, .ro c.length (enc ePnt c), .one, .one, .one, .one, .one, .one, .one, .one]], .rp [.ro d.length (enc eU8 d)], .rp [.ro a.length (enc eV a)], .rp [.ro e.length (enc eB e)], .rp [.ro f.length (enc eB f)]]] (.v (.bool (l.any (noQ c d a e f)))) := by
 refine fnE_of_body (N := 9) Try.func30 rfl rfl (resOf1 rfl) (by simp) (fun w0 X hL_ => ?_)
 refine seqR ?_
 refine mG (.b false) ?_
 refine op0 ?_
 refine seqR ?_
 refine mG (.q eN l) ?_
 refine mG (.fn 31 [.rp [.rp [.one, .one, .one, .q ePnt c, .one, .one, .one, .one, .one, .one, .one, .one]], .rp [.q eU8 d], .rp [.q eV a], .rp [.q eB e], .rp [.q eB f]]) ?_
 refine oG (qJ (ixS l c d a e f hl hp hs hn hlk hh hv) bd54 ?_)
 refine bG ((.bool (decide ((idxB (noQ c d a e f) l) ≥ 0)))) ?_
 refine mG (.b (decide ((idxB (noQ c d a e f) l) ≥ 0))) ?_
 refine rU (upd none_ 4 (.b (decide ((idxB (noQ c d a e f) l) ≥ 0)))) noOb ?_
 refine awp_ret ?_
 exact fret (av := .v (.bool (decide ((idxB (noQ c d a e f) l) ≥ 0)))) rfl rfl (by rw [idxB_any dN] <;> rfl)
theorem bd21 : bodied Try.prog 21 = true := by kernel_rfl
theorem bd23 : bodied Try.prog 23 = true := by kernel_rfl
theorem bd24 : bodied Try.prog 24 = true := by kernel_rfl
theorem bd36 : bodied Try.prog 36 = true := by kernel_rfl
theorem bd37 : bodied Try.prog 37 = true := by kernel_rfl
theorem bd38 : bodied Try.prog 38 = true := by kernel_rfl
theorem bd40 : bodied Try.prog 40 = true := by kernel_rfl
theorem bd43 : bodied Try.prog 43 = true := by kernel_rfl
theorem in47 : (Try.prog.info? 47).map (fun i => (i.zero, i.size, i.bytes)) = some (some (.agg #[(.int .i64 0), (.int .i64 0), (.int .i64 0), (.slice none 0 0)]), 4, 48) := by kernel_rfl
theorem in5 : (Try.prog.info? 5).map (fun i => (i.zero, i.size, i.bytes)) = some (some (.int .u8 0), 1, 1) := by kernel_rfl
theorem iz47 : (Try.prog.info? 47).map (fun i => (i.zero, i.size)) = some (some (.agg #[(.int .i64 0), (.int .i64 0), (.int .i64 0), (.slice none 0 0)]), 4) := by kernel_rfl
theorem iz5 : (Try.prog.info? 5).map (fun i => (i.zero, i.size)) = some (some (.int .u8 0), 1) := by kernel_rfl
theorem pl104 : placesOf Try.prog 104 = some ((.agg #[(.slice none 0 0), (.slice none 0 0), (.slice none 0 0), (.slice none 0 0), (.slice none 0 0), (.int .i64 0), (.int .i64 0), (.int .i64 0), (.int .i64 0), (.int .i64 0)]), fun i => ([(0, 10)] : List (Nat × Nat)).toArray[i]?) := by kernel_rfl
theorem pl47 : placesOf Try.prog 47 = some ((.agg #[(.int .i64 0), (.int .i64 0), (.int .i64 0), (.slice none 0 0)]), fun i => ([(0, 1), (1, 1), (2, 1), (3, 1)] : List (Nat × Nat)).toArray[i]?) := by kernel_rfl
theorem pl65 : placesOf Try.prog 65 = some ((.agg #[(.slice none 0 0), (.slice none 0 0), (.slice none 0 0), (.slice none 0 0), (.slice none 0 0), (.int .i64 0), (.int .i64 0), (.int .i64 0), (.int .i64 0), (.int .i64 0), (.pointer none), (.slice none 0 0)]), fun i => ([(0, 10), (10, 1), (11, 1)] : List (Nat × Nat)).toArray[i]?) := by kernel_rfl
theorem ut44 : Try.prog.underlying 44 = some (.slice 47) := by kernel_rfl
theorem ut69 : Try.prog.underlying 69 = some (.pointer 47) := by kernel_rfl
theorem ze69 : (Try.prog.info? 69).bind (·.zero) = some (.pointer none) := by kernel_rfl
theorem cl_BR (l : List Bool) (hl : l.length ≤ 4294967296) : Fn Try.prog 22 [.ro l.length (enc eB l)] (.ro l.length (enc eB l)) := by
 refine fnE_of_body (N := 8) Try.func22 rfl rfl (resOf1 rfl) (by simp) (fun w0 X hL_ => ?_)
 refine seqR ?_
 refine mG vN ?_
 refine op0 ?_
 refine awp_seq ?_
 refine seqR ?_
 refine mG (.q eB l) ?_
 refine oG (aop_slNil rfl rfl rfl ut38 rfl rfl (.inl rfl) (fun b4_ hb4_ => ?_))
 refine op0 ?_
 refine awp_cond b4_ rfl rfl (fun hc0 => ?_) (fun hc0 => ?_)
 ·skip
  have h0 : l.length = 0 := Decidable.byContradiction fun h => by have := hb4_ h; rw [hc0] at this; cases this
  refine seqR ?_
  refine mG vN ?_
  refine rU (upd (upd none_ 0 (.q eB l)) 2 vN) noOb ?_
  refine awp_imp _ (imp_frozen rfl (fun _ h => h) (lee_lend 2 (.ro 0 []) .nil lee_lend0)) ?_
  refine awp_ret ?_
  exact fret (av := .ro 0 []) rfl rfl (by rw [List.length_eq_zero_iff.1 h0]; rfl)
 refine awp_skip ?_
 refine seqR ?_
 refine oG (aop_litO 51 rfl rfl rfl ut38 iz4 (by decide) (by decide) rfl rfl rfl rfl ?_)
 refine mG (.q eB l) ?_
 refine oG (aop_appE (f := eB) (l := ([] : List Bool)) (l2 := l) 52 rfl rfl rfl rfl ut38 in4 rfl (by decide) rfl rfl rfl rfl rfl rfl (fun _ => rfl) rfl rfl rfl oo oo rfl ?_)
 refine mG (.sl 52 0 ((([] : List Bool) ++ l).length)) ?_
 refine rU (upd none_ 2 (.sl 52 0 ((([] : List Bool) ++ l).length))) (updO (updO (updO noOb 51 (.live ⟨[], 4, 1⟩)) 51 .dead) 52 (.live ⟨(enc eB (([] : List Bool) ++ l)), 4, 1⟩)) ?_
 refine awp_imp _ (imp_frozen rfl (fun _ h => h) (lee_lend 2 (.q eB (([] : List Bool) ++ l)) (lend_s (id := 52) (n := (([] : List Bool) ++ l).length) (o := ⟨(enc eB (([] : List Bool) ++ l)), 4, 1⟩) rfl (enc_len (fun _ => rfl) (by first | rfl | (simp; done)))) lee_lend0)) ?_
 refine awp_ret ?_
 exact fret (av := .ro ((([] : List Bool) ++ l).length) (enc eB (([] : List Bool) ++ l))) rfl rfl rfl
theorem g_NewF (a : List Sec) (b : List (List Int)) (c : List Pnt)  : Fn Try.prog 21 [.agg [.one, .ro a.length (enc eSec a), .ro b.length (enc eIL b), .ro c.length (enc ePnt c), .one, .one, .one, .one, .one, .one]] (.rp [.one, .ro a.length (enc eSec a), .ro b.length (enc eIL b), .ro c.length (enc ePnt c), .one, .one, .one, .one, .one, .one]) := by
 refine fnE_of_body (N := 6) Try.func21 rfl rfl (resOf1 rfl) (by simp) (fun w0 X hL_ => ?_)
 refine seqR ?_
 refine oG (qW 51 ?_)
 refine mG (.v (.pointer none)) ?_
 refine op0 ?_
 refine seqR ?_
 refine oG (qLB [.one, .q eSec a, .q eIL b, .q ePnt c, .one, .one, .one, .one, .one, .one] ag33 sz33 ?_)
 refine oG (qD pl104 ?_)
 refine oG (qW 52 ?_)
 refine mG (.pt 52 0) ?_
 refine rU (upd none_ 2 (.pt 52 0)) (updO (updO noOb 51 (.live ⟨[.one, .q eSec a, .q eIL b, .q ePnt c, .one, .one, .one, .one, .one, .one], 33, 1⟩)) 52 (.live ⟨[.one, .q eSec a, .q eIL b, .q ePnt c, .one, .one, .one, .one, .one, .one], 104, 1⟩)) ?_
 refine awp_imp _ (imp_frozen rfl (fun _ h => h) (lee_lend 2 (.rp [.one, .q eSec a, .q eIL b, .q ePnt c, .one, .one, .one, .one, .one, .one]) (lend_pt rfl lS) lee_lend0)) ?_
 refine awp_ret ?_
 exact fret (av := .rp [.one, .ro a.length (enc eSec a), .ro b.length (enc eIL b), .ro c.length (enc ePnt c), .one, .one, .one, .one, .one, .one]) rfl rfl rfl
theorem r_New (a : List Sec) (b : List (List Int)) (c : List Pnt) (d : List (List Int)) (cn : Int)  : FnO Try.prog 9 [.agg [.one, .ro a.length (enc eSec a), .ro b.length (enc eIL b), .ro c.length (enc ePnt c), .ro d.length (enc eIL d), .one, .one, .one, .v (.int .i64 cn), .one]] (.pt 0 0) [⟨[.one, .ro a.length (enc eSec a), .ro b.length (enc eIL b), .ro c.length (enc ePnt c), .ro d.length (enc eIL d), .one, .one, .one, .v (.int .i64 cn), .one, .rp [.one, .ro a.length (enc eSec a), .ro b.length (enc eIL b), .ro c.length (enc ePnt c), .one, .one, .one, .one, .one, .one], vN], 65, 1⟩] := by
 refine fnE_of_body (N := 8) Try.func9 rfl rfl (resOf1 rfl) (by simp) (fun w0 X hL_ => ?_)
 refine seqR ?_
 refine oG (qW 51 ?_)
 refine mG (.v (.pointer none)) ?_
 refine op0 ?_
 refine awp_seq ?_
 refine aD 4 [(6, .agg [.one, .q eSec a, .q eIL b, .q ePnt c, .q eIL d, .one, .one, .one, .i cn, .one, .rp [.one, .q eSec a, .q eIL b, .q ePnt c, .one, .one, .one, .one, .one, .one], vN]), (5, .rp [.one, .q eSec a, .q eIL b, .q ePnt c, .one, .one, .one, .one, .one, .one]), (4, .agg [.one, .q eSec a, .q eIL b, .q ePnt c, .q eIL d, .one, .one, .one, .i cn, .one]), (3, .agg [.one, .q eSec a, .q eIL b, .q ePnt c, .q eIL d, .one, .one, .one, .i cn, .one])] mixed ?_ ?_
 ·refine ⟨?_, ?_, ?_, ?_, trivial⟩
  ·exact sLB [.one, .q eSec a, .q eIL b, .q ePnt c, .q eIL d, .one, .one, .one, .i cn, .one] ag33 sz33
  ·exact sLB [.one, .q eSec a, .q eIL b, .q ePnt c, .q eIL d, .one, .one, .one, .i cn, .one] ag33 sz33
  ·exact sC (g_NewF a b c) bd21
  exact dW 6 fun st hob hE => aop_build rfl rfl rfl pl65 (by simp only [partsA, List.map, evA, hE 3 rfl, hE 5 rfl]; rfl) (by rw [hob]; rfl)
 refine oG (qW 52 ?_)
 refine mG (.pt 52 0) ?_
 refine op0 ?_
 refine rT (upd none_ 2 (.pt 52 0)) (updO (updO noOb 51 (.live ⟨[.one, .q eSec a, .q eIL b, .q ePnt c, .q eIL d, .one, .one, .one, .i cn, .one], 33, 1⟩)) 52 (.live ⟨[.one, .q eSec a, .q eIL b, .q ePnt c, .q eIL d, .one, .one, .one, .i cn, .one, .rp [.one, .q eSec a, .q eIL b, .q ePnt c, .one, .one, .one, .one, .one, .one], vN], 65, 1⟩)) ?_
 refine awp_ret ?_
 exact fretP 52 rfl rfl rfl rfl
theorem r_findN (ls : List Lk) (r : Int) (hll : ls.length ≤ 65536) (hn : (idxB (fun x : Lk => decide (x.route = r)) ls) < 0) : Fn Try.prog 24 [.rp [.one, .one, .one, .one, .one, .one, .one, .one, .one, .one, .one, .ro ls.length (enc eLp ls)], .v (.int .i64 r)] (.v (.pointer none)) := by
 refine fnE_of_body (N := 21) Try.func24 rfl rfl (resOf1 rfl) (by simp) (fun w0 X hL_ => ?_)
 refine seqR ?_
 refine oG (qW 51 ?_)
 refine mG (.v (.pointer none)) ?_
 refine op0 ?_
 refine seqR ?_
 refine mG (.rp [.one, .one, .one, .one, .one, .one, .one, .one, .one, .one, .one, .q eLp ls]) ?_
 refine oG (aop_nilCheck rfl rfl rfl rfl rfl ?_)
 refine oG (qF (.rp [.one, .one, .one, .one, .one, .one, .one, .one, .one, .one, .one, .q eLp ls]) (.rp [.q eLp ls]) ft65_2 sz63 ?_)
 refine oG (qL (.q eLp ls) ag63 ?_)
 refine oG (aop_makeFunc (caps := [.tmp 3]) rfl rfl rfl rfl ?_)
 refine oG (callL_ (ixLp ls r om) rfl rfl rfl rfl rfl bd43 (lends_cons (lend_n (av := .q eLp ls)) (lends_cons (lend_fn (lends_cons (lend_pt rfl lS) lends_nil)) lends_nil)) ?_)
 refine mG (.i (idxB (fun x : Lk => decide (x.route = r)) ls)) ?_
 refine rU (upd (upd (upd none_ 0 (.rp [.one, .one, .one, .one, .one, .one, .one, .one, .one, .one, .one, .q eLp ls])) 4 (.v (.pointer none))) 5 (.i (idxB (fun x : Lk => decide (x.route = r)) ls))) (updO noOb 51 (.live ⟨[.i r], 3, 1⟩)) ?_
 refine awp_seq ?_
 refine seqR ?_
 refine mG (.i (idxB (fun x : Lk => decide (x.route = r)) ls)) ?_
 refine bG ((.bool (decide ((idxB (fun x : Lk => decide (x.route = r)) ls) < 0)))) ?_
 refine op0 ?_
 refine awp_cond (decide ((idxB (fun x : Lk => decide (x.route = r)) ls) < 0)) rfl rfl (fun hc0 => ?_) (fun hc0 => ?_)
 ·skip
  have hf1 := of_decide_eq_true hc0
  refine seqR ?_
  refine mG (.v (.pointer none)) ?_
  refine op0 ?_
  refine awp_ret ?_
  exact fret (av := .v (.pointer none)) rfl rfl rfl
 have hf2 := of_decide_eq_false hc0
 exfalso; have h9_ := of_decide_eq_false hc0; omega
abbrev Z4j (b : List Sec) (c : List (List Int)) (d : List Pnt) : List AV := [.one, .q eSec b, .q eIL c, .q ePnt d, .one, .one, .one, .one, .one, .one]
abbrev Z4i (b : List Sec) (c : List (List Int)) (d : List Pnt) (e : List (List Int)) (cn r tr en : Int) (ps : List Int) : Nat → OSt := (updO (updO (updO (updO noOb 0 (.live ⟨[.one, .q eSec b, .q eIL c, .q ePnt d, .q eIL e, .one, .one, .one, .i cn, .one, .rp (Z4j b c d), .sl 1 0 1], 65, 1⟩)) 1 (.live ⟨[.pt 2 0], 69, 1⟩)) 2 (.live ⟨[.i r, .i tr, .i en, .sl 3 0 ps.length], 47, 1⟩)) 3 (.live ⟨(enc eU8 ps), 5, 1⟩))
theorem r_findO (b : List Sec) (c : List (List Int)) (d : List Pnt) (e : List (List Int)) (cn : Int) (r tr en : Int) (ps : List Int)  : FnGO Try.prog 24 [⟨[.one, .ro b.length (enc eSec b), .ro c.length (enc eIL c), .ro d.length (enc ePnt d), .ro e.length (enc eIL e), .one, .one, .one, .v (.int .i64 cn), .one, .rp [.one, .ro b.length (enc eSec b), .ro c.length (enc eIL c), .ro d.length (enc ePnt d), .one, .one, .one, .one, .one, .one], .sl 1 0 1], 65, 1⟩, ⟨[.pt 2 0], 69, 1⟩, ⟨[.v (.int .i64 r), .v (.int .i64 tr), .v (.int .i64 en), .sl 3 0 ps.length], 47, 1⟩, ⟨(enc eU8 ps), 5, 1⟩] [.pt 0 0, .v (.int .i64 r)] (.pt 2 0) [.live ⟨[.one, .ro b.length (enc eSec b), .ro c.length (enc eIL c), .ro d.length (enc ePnt d), .ro e.length (enc eIL e), .one, .one, .one, .v (.int .i64 cn), .one, .rp [.one, .ro b.length (enc eSec b), .ro c.length (enc eIL c), .ro d.length (enc ePnt d), .one, .one, .one, .one, .one, .one], .sl 1 0 1], 65, 1⟩, .live ⟨[.pt 2 0], 69, 1⟩, .live ⟨[.v (.int .i64 r), .v (.int .i64 tr), .v (.int .i64 en), .sl 3 0 ps.length], 47, 1⟩, .live ⟨(enc eU8 ps), 5, 1⟩] := by
 have hix : idxB (fun x : Lk => decide (x.route = r)) ([(⟨r, tr, en, ps⟩ : Lk)] : List Lk) = 0 := by simp [idxB, idxFrom]
 refine fnG_of_body (N := 21) 4 rfl Try.func24 rfl rfl (resOf1 rfl) (by simp) (fun w0 G C hL_ hLG_ => ?_)
 refine seqR ?_
 refine oG (qW 51 ?_)
 refine mG (.v (.pointer none)) ?_
 refine op0 ?_
 refine seqR ?_
 refine mG (.pt 0 0) ?_
 refine oG (aop_nilCheck rfl rfl rfl rfl rfl ?_)
 refine fG (.pt 0 11) ft65_2 sz63 ?_
 refine oG (qL (.sl 1 0 1) ag63 ?_)
 refine oG (aop_makeFunc (caps := [.tmp 3]) rfl rfl rfl rfl ?_)
 refine oG (callL_ (show Fn Try.prog 43 [.q eLp ([(⟨r, tr, en, ps⟩ : Lk)] : List Lk), .fn 44 [.rp [.i r]]] (.i 0) from (by have h_ := ixLp ([(⟨r, tr, en, ps⟩ : Lk)] : List Lk) r (by simp); rw [hix] at h_; exact h_)) rfl rfl rfl rfl rfl bd43 (lends_cons (lend_rowX (o := ⟨[.pt 2 0], 69, 1⟩) rfl (lends_cons (lend_pt rfl (lends_cons (lend_n (av := .i r)) (lends_cons (lend_n (av := .i tr)) (lends_cons (lend_n (av := .i en)) (lends_cons (lend_s (id := 3) (n := ps.length) (o := ⟨(enc eU8 ps), 5, 1⟩) rfl (enc_len (fun _ => rfl) (by first | rfl | (simp; done)))) lends_nil))))) lends_nil) rfl) (lends_cons (lend_fn (lends_cons (lend_pt rfl lS) lends_nil)) lends_nil)) ?_)
 refine mG (.i 0) ?_
 refine rU (upd (upd (upd none_ 0 (.pt 0 0)) 4 (.v (.pointer none))) 5 (.i 0)) (updO (Z4i b c d e cn r tr en ps) 51 (.live ⟨[.i r], 3, 1⟩)) ?_
 refine awp_seq ?_
 refine seqR ?_
 refine mG (.i 0) ?_
 refine bG ((.bool (decide ((0 : Int) < 0)))) ?_
 refine op0 ?_
 refine awp_cond (decide ((0 : Int) < 0)) rfl rfl (fun hc0 => ?_) (fun hc0 => ?_)
 ·skip
  have hf1 := of_decide_eq_true hc0
  exfalso; simp at hc0
 have hf2 := of_decide_eq_false hc0
 refine awp_skip ?_
 refine seqR ?_
 refine mG (.pt 0 0) ?_
 refine oG (aop_nilCheck rfl rfl rfl rfl rfl ?_)
 refine fG (.pt 0 11) ft65_2 sz63 ?_
 refine oG (qL (.sl 1 0 1) ag63 ?_)
 refine mG (.i 0) ?_
 refine oG (aop_ixO (k := 0) rfl rfl rfl ut63 sz69 rfl rfl oo ?_)
 refine oG (qL (.pt 2 0) ag69 ?_)
 refine mG (.pt 2 0) ?_
 refine rU (upd none_ 4 (.pt 2 0)) (updO (Z4i b c d e cn r tr en ps) 51 (.live ⟨[.i r], 3, 1⟩)) ?_
 refine awp_imp ⟨(upd none_ 4 (.pt 2 0)), (Z4i b c d e cn r tr en ps)⟩ ?_ ?_
 ·skip
  exact iL [(0, 0), (1, 1), (2, 2), (3, 3)] [((0, 0), .live _), ((1, 1), .live _), ((2, 2), .live _), ((3, 3), .live _)] ⟨row_map (o := ⟨[.one, .q eSec b, .q eIL c, .q ePnt d, .q eIL e, .one, .one, .one, .i cn, .one, .rp (Z4j b c d), .sl 1 0 1], 65, 1⟩) rfl (om_ (lm_cons (am_no (a := .one)) (lm_cons (am_no (a := .q eSec b)) (lm_cons (am_no (a := .q eIL c)) (lm_cons (am_no (a := .q ePnt d)) (lm_cons (am_no (a := .q eIL e)) (lm_cons (am_no (a := .one)) (lm_cons (am_no (a := .one)) (lm_cons (am_no (a := .one)) (lm_cons (am_no (a := .i cn)) (lm_cons (am_no (a := .one)) (lm_cons (am_no (a := .rp (Z4j b c d))) (lm_cons rfl lm_nil))))))))))))) (oks_cons (ok_no (a := .one)) (oks_cons (ok_no (a := .q eSec b)) (oks_cons (ok_no (a := .q eIL c)) (oks_cons (ok_no (a := .q ePnt d)) (oks_cons (ok_no (a := .q eIL e)) (oks_cons (ok_no (a := .one)) (oks_cons (ok_no (a := .one)) (oks_cons (ok_no (a := .one)) (oks_cons (ok_no (a := .i cn)) (oks_cons (ok_no (a := .one)) (oks_cons (ok_no (a := .rp (Z4j b c d))) (oks_cons (.sl _ _ _ (by simp)) oks_nil)))))))))))), row_map (o := ⟨[.pt 2 0], 69, 1⟩) rfl (om_ (lm_cons rfl lm_nil)) (oks_cons (.pt _ _ (by simp)) oks_nil), row_map (o := ⟨[.i r, .i tr, .i en, .sl 3 0 ps.length], 47, 1⟩) rfl (om_ (lm_cons (am_no (a := .i r)) (lm_cons (am_no (a := .i tr)) (lm_cons (am_no (a := .i en)) (lm_cons rfl lm_nil))))) (oks_cons (ok_no (a := .i r)) (oks_cons (ok_no (a := .i tr)) (oks_cons (ok_no (a := .i en)) (oks_cons (.sl _ _ _ (by simp)) oks_nil)))), row_no rfl rfl, trivial⟩
 refine awp_ret ?_
 exact fretG rfl rfl rfl rfl
abbrev Z4p (g : Int) : Nat → AV := (upd (upd (upd (upd none_ 0 (.pt 0 0)) 2 (.i g)) 6 (.i 0)) 7 (.pt 2 0))
abbrev Z4o (r tr en : Int) (ps : List Int) : LObj := ⟨[.i r, .i tr, .i en, .sl 3 0 ps.length], 47, 1⟩
abbrev Z4m (c : List Sec) (d : List (List Int)) (e : List Pnt) : List AV := [.one, .q eSec c, .q eIL d, .q ePnt e, .one, .one, .one, .one, .one, .one]
abbrev Z4k (c : List Sec) (d : List (List Int)) (e : List Pnt) (f : List (List Int)) (cn : Int) : LObj := ⟨[.one, .q eSec c, .q eIL d, .q ePnt e, .q eIL f, .one, .one, .one, .i cn, .one, .rp (Z4m c d e), .sl 1 0 1], 65, 1⟩
abbrev Z4n (c : List Sec) (d : List (List Int)) (e : List Pnt) (f : List (List Int)) (cn : Int) : Nat → OSt := (updO (updO noOb 0 (.live (Z4k c d e f cn))) 1 (.live ⟨[.pt 2 0], 69, 1⟩))
abbrev Z4l (c : List Sec) (d : List (List Int)) (e : List Pnt) (f : List (List Int)) (cn r tr en : Int) (ps : List Int) : Nat → OSt := (updO (updO (updO (updO (updO (updO (Z4n c d e f cn) 2 (.live (Z4o r tr en ps))) 3 (.live ⟨(enc eU8 ps), 5, 1⟩)) 0 (.live (Z4k c d e f cn))) 1 (.live ⟨[.pt 2 0], 69, 1⟩)) 2 (.live (Z4o r tr en ps))) 3 (.live ⟨(enc eU8 ps), 5, 1⟩))
theorem r_CanO (c : List Sec) (d : List (List Int)) (e : List Pnt) (f : List (List Int)) (cn : Int) (r tr en : Int) (ps : List Int) (g : Int) (hro : f.length ≤ 65536) (hr : hasR f r = true) (hnc : 0 ≤ g ∧ g ≤ 1000000000) (hcn : 0 ≤ cn ∧ cn ≤ 65536) : FnGO Try.prog 15 [⟨[.one, .ro c.length (enc eSec c), .ro d.length (enc eIL d), .ro e.length (enc ePnt e), .ro f.length (enc eIL f), .one, .one, .one, .v (.int .i64 cn), .one, .rp [.one, .ro c.length (enc eSec c), .ro d.length (enc eIL d), .ro e.length (enc ePnt e), .one, .one, .one, .one, .one, .one], .sl 1 0 1], 65, 1⟩, ⟨[.pt 2 0], 69, 1⟩, ⟨[.v (.int .i64 r), .v (.int .i64 tr), .v (.int .i64 en), .sl 3 0 ps.length], 47, 1⟩, ⟨(enc eU8 ps), 5, 1⟩] [.pt 0 0, .v (.int .i64 r), .v (.int .i64 g)] (.v (.int .i64 0)) [.live ⟨[.one, .ro c.length (enc eSec c), .ro d.length (enc eIL d), .ro e.length (enc ePnt e), .ro f.length (enc eIL f), .one, .one, .one, .v (.int .i64 cn), .one, .rp [.one, .ro c.length (enc eSec c), .ro d.length (enc eIL d), .ro e.length (enc ePnt e), .one, .one, .one, .one, .one, .one], .sl 1 0 1], 65, 1⟩, .live ⟨[.pt 2 0], 69, 1⟩, .live ⟨[.v (.int .i64 r), .v (.int .i64 tr), .v (.int .i64 (if en < 0 then g + cn else en)), .sl 3 0 ps.length], 47, 1⟩, .live ⟨(enc eU8 ps), 5, 1⟩] := by
 refine fnG_of_body (N := 32) 4 rfl Try.func15 rfl rfl (resOf1 rfl) (by simp) (fun w0 G C hL_ hLG_ => ?_)
 refine seqR ?_
 refine mG (.i 0) ?_
 refine op0 ?_
 refine awp_seq ?_
 refine seqR ?_
 refine mG (.pt 0 0) ?_
 refine mG (.i r) ?_
 refine oG (callL_ (r_has f r oo) rfl rfl rfl rfl rfl bd23 (lends_cons (lend_pt rfl lS) lS) ?_)
 refine oG (aop_not rfl rfl rfl rfl ?_)
 refine rU (upd (upd (upd (upd (upd none_ 0 (.pt 0 0)) 1 (.i r)) 2 (.i g)) 6 (.i 0)) 11 (.b (!(hasR f r)))) (updO (updO (Z4n c d e f cn) 2 (.live (Z4o r tr en ps))) 3 (.live ⟨(enc eU8 ps), 5, 1⟩)) ?_
 refine awp_cond (!(hasR f r)) rfl rfl (fun hc0 => ?_) (fun hc0 => ?_)
 ·skip
  have hf1 := not_t hc0
  exfalso; rw [hr] at hc0; cases hc0
 have hf2 := not_f hc0
 refine awp_skip ?_
 refine seqR ?_
 refine mG (.pt 0 0) ?_
 refine mG (.i r) ?_
 refine oG (callG_ false [0, 1, 2, 3] [] (r_findO c d e f cn r tr en ps) rfl rfl rfl rfl rfl bd24 (by decide) ⟨giv_map (o := (Z4k c d e f cn)) rfl (om_ (lm_cons (am_no (a := .one)) (lm_cons (am_no (a := .q eSec c)) (lm_cons (am_no (a := .q eIL d)) (lm_cons (am_no (a := .q ePnt e)) (lm_cons (am_no (a := .q eIL f)) (lm_cons (am_no (a := .one)) (lm_cons (am_no (a := .one)) (lm_cons (am_no (a := .one)) (lm_cons (am_no (a := .i cn)) (lm_cons (am_no (a := .one)) (lm_cons (am_no (a := .rp (Z4m c d e))) (lm_cons rfl lm_nil))))))))))))) (oks_cons (ok_no (a := .one)) (oks_cons (ok_no (a := .q eSec c)) (oks_cons (ok_no (a := .q eIL d)) (oks_cons (ok_no (a := .q ePnt e)) (oks_cons (ok_no (a := .q eIL f)) (oks_cons (ok_no (a := .one)) (oks_cons (ok_no (a := .one)) (oks_cons (ok_no (a := .one)) (oks_cons (ok_no (a := .i cn)) (oks_cons (ok_no (a := .one)) (oks_cons (ok_no (a := .rp (Z4m c d e))) (oks_cons (.sl _ _ _ (by simp)) oks_nil)))))))))))), giv_map (o := ⟨[.pt 2 0], 69, 1⟩) rfl (om_ (lm_cons rfl lm_nil)) (oks_cons (.pt _ _ (by simp)) oks_nil), giv_map (o := (Z4o r tr en ps)) rfl (om_ (lm_cons (am_no (a := .i r)) (lm_cons (am_no (a := .i tr)) (lm_cons (am_no (a := .i en)) (lm_cons rfl lm_nil))))) (oks_cons (ok_no (a := .i r)) (oks_cons (ok_no (a := .i tr)) (oks_cons (ok_no (a := .i en)) (oks_cons (.sl _ _ _ (by simp)) oks_nil)))), giv_no (o := ⟨(enc eU8 ps), 5, 1⟩) rfl rfl, trivial⟩ ⟨(arg_own (.pt _ _ (by simp)) rfl), (arg_no (a := .i r)), trivial⟩ rfl trivial (fun h => by cases h) rfl (place_cons (ost_map (lm_cons (am_no (a := .one)) (lm_cons (am_no (a := .q eSec c)) (lm_cons (am_no (a := .q eIL d)) (lm_cons (am_no (a := .q ePnt e)) (lm_cons (am_no (a := .q eIL f)) (lm_cons (am_no (a := .one)) (lm_cons (am_no (a := .one)) (lm_cons (am_no (a := .one)) (lm_cons (am_no (a := .i cn)) (lm_cons (am_no (a := .one)) (lm_cons (am_no (a := .rp (Z4m c d e))) (lm_cons rfl lm_nil))))))))))))) (place_cons (ost_map (lm_cons rfl lm_nil)) (place_cons (ost_map (lm_cons (am_no (a := .i r)) (lm_cons (am_no (a := .i tr)) (lm_cons (am_no (a := .i en)) (lm_cons rfl lm_nil))))) (place_cons (ost_no (cs := (enc eU8 ps))) place_nil)))) ?_)
 refine mG (.pt 2 0) ?_
 refine rU (Z4p g) (Z4l c d e f cn r tr en ps) ?_
 refine awp_seq ?_
 refine seqR ?_
 refine mG (.pt 2 0) ?_
 refine oG (aop_ptNil rfl rfl rfl ut69 rfl rfl rfl (.inl ⟨rfl, rfl⟩) ?_)
 refine op0 ?_
 refine awp_cond false rfl rfl (fun h => by cases h) (fun _ => ?_)
 refine awp_skip ?_
 refine awp_seq ?_
 refine seqR ?_
 refine mG (.pt 2 0) ?_
 refine oG (aop_nilCheck rfl rfl rfl rfl rfl ?_)
 refine fG (.pt 2 2) ft47_2 sz2 ?_
 refine oG (qL (.i en) ag2 ?_)
 refine bG ((.bool (decide (en < 0)))) ?_
 refine rU (upd (Z4p g) 21 (.b (decide (en < 0)))) (Z4l c d e f cn r tr en ps) ?_
 refine awp_cond (decide (en < 0)) rfl rfl (fun hc2 => ?_) (fun hc2 => ?_)
 ·skip
  have hf3 := of_decide_eq_true hc2
  have hen : (if en < 0 then g + cn else en) = g + cn := if_pos (of_decide_eq_true hc2)
  refine regR ?_
  refine mG (.pt 2 0) ?_
  refine mG (.i g) ?_
  refine mG (.pt 0 0) ?_
  refine oG (aop_nilCheck rfl rfl rfl rfl rfl ?_)
  refine fG (.pt 0 0) ft65_0 sz33 ?_
  refine fG (.pt 0 8) ft33_8 sz2 ?_
  refine oG (qL (.i cn) ag2 ?_)
  refine oG (qB (.int .i64 (g + cn)) (addI om) ?_)
  refine oG (aop_nilCheck rfl rfl rfl rfl rfl ?_)
  refine fG (.pt 2 2) ft47_2 sz2 ?_
  refine oG (qS sz2 ?_)
  refine op0 ?_
  refine rT (upd none_ 6 (.i 0)) (updO (Z4l c d e f cn r tr en ps) 2 (.live ⟨[.i r, .i tr, .i (g + cn), .sl 3 0 ps.length], 47, 1⟩)) ?_
  refine seqR ?_
  refine mG (.i 0) ?_
  refine op0 ?_
  refine awp_imp ⟨(upd none_ 6 (.i 0)), (updO (updO (Z4n c d e f cn) 2 (.live ⟨[.i r, .i tr, .i (if en < 0 then g + cn else en), .sl 3 0 ps.length], 47, 1⟩)) 3 (.live ⟨(enc eU8 ps), 5, 1⟩))⟩ ?_ ?_
  ·skip
   exact iL [(0, 0), (1, 1), (2, 2), (3, 3)] [((0, 0), .live _), ((1, 1), .live _), ((2, 2), .live _), ((3, 3), .live _)] ⟨row_map (o := (Z4k c d e f cn)) rfl (om_ (lm_cons (am_no (a := .one)) (lm_cons (am_no (a := .q eSec c)) (lm_cons (am_no (a := .q eIL d)) (lm_cons (am_no (a := .q ePnt e)) (lm_cons (am_no (a := .q eIL f)) (lm_cons (am_no (a := .one)) (lm_cons (am_no (a := .one)) (lm_cons (am_no (a := .one)) (lm_cons (am_no (a := .i cn)) (lm_cons (am_no (a := .one)) (lm_cons (am_no (a := .rp (Z4m c d e))) (lm_cons rfl lm_nil))))))))))))) (oks_cons (ok_no (a := .one)) (oks_cons (ok_no (a := .q eSec c)) (oks_cons (ok_no (a := .q eIL d)) (oks_cons (ok_no (a := .q ePnt e)) (oks_cons (ok_no (a := .q eIL f)) (oks_cons (ok_no (a := .one)) (oks_cons (ok_no (a := .one)) (oks_cons (ok_no (a := .one)) (oks_cons (ok_no (a := .i cn)) (oks_cons (ok_no (a := .one)) (oks_cons (ok_no (a := .rp (Z4m c d e))) (oks_cons (.sl _ _ _ (by simp)) oks_nil)))))))))))), row_map (o := ⟨[.pt 2 0], 69, 1⟩) rfl (om_ (lm_cons rfl lm_nil)) (oks_cons (.pt _ _ (by simp)) oks_nil), row_map (o := ⟨[.i r, .i tr, .i (g + cn), .sl 3 0 ps.length], 47, 1⟩) rfl (congrArg (fun e_ : Int => LObj.mk [.i r, .i tr, .i e_, .sl 3 0 ps.length] 47 1) hen.symm) (oks_cons (ok_no (a := .i r)) (oks_cons (ok_no (a := .i tr)) (oks_cons (ok_no (a := .i (g + cn))) (oks_cons (.sl _ _ _ (by simp)) oks_nil)))), row_no rfl rfl, trivial⟩
  refine awp_ret ?_
  exact fretG rfl rfl rfl rfl
 have hf4 := of_decide_eq_false hc2
 have hen : (if en < 0 then g + cn else en) = en := if_neg (of_decide_eq_false hc2)
 refine awp_skip ?_
 refine seqR ?_
 refine mG (.i 0) ?_
 refine op0 ?_
 refine awp_imp ⟨(upd none_ 6 (.i 0)), (updO (updO (Z4n c d e f cn) 2 (.live ⟨[.i r, .i tr, .i (if en < 0 then g + cn else en), .sl 3 0 ps.length], 47, 1⟩)) 3 (.live ⟨(enc eU8 ps), 5, 1⟩))⟩ ?_ ?_
 ·skip
  exact iL [(0, 0), (1, 1), (2, 2), (3, 3)] [((0, 0), .live _), ((1, 1), .live _), ((2, 2), .live _), ((3, 3), .live _)] ⟨row_map (o := (Z4k c d e f cn)) rfl (om_ (lm_cons (am_no (a := .one)) (lm_cons (am_no (a := .q eSec c)) (lm_cons (am_no (a := .q eIL d)) (lm_cons (am_no (a := .q ePnt e)) (lm_cons (am_no (a := .q eIL f)) (lm_cons (am_no (a := .one)) (lm_cons (am_no (a := .one)) (lm_cons (am_no (a := .one)) (lm_cons (am_no (a := .i cn)) (lm_cons (am_no (a := .one)) (lm_cons (am_no (a := .rp (Z4m c d e))) (lm_cons rfl lm_nil))))))))))))) (oks_cons (ok_no (a := .one)) (oks_cons (ok_no (a := .q eSec c)) (oks_cons (ok_no (a := .q eIL d)) (oks_cons (ok_no (a := .q ePnt e)) (oks_cons (ok_no (a := .q eIL f)) (oks_cons (ok_no (a := .one)) (oks_cons (ok_no (a := .one)) (oks_cons (ok_no (a := .one)) (oks_cons (ok_no (a := .i cn)) (oks_cons (ok_no (a := .one)) (oks_cons (ok_no (a := .rp (Z4m c d e))) (oks_cons (.sl _ _ _ (by simp)) oks_nil)))))))))))), row_map (o := ⟨[.pt 2 0], 69, 1⟩) rfl (om_ (lm_cons rfl lm_nil)) (oks_cons (.pt _ _ (by simp)) oks_nil), row_map (o := (Z4o r tr en ps)) rfl (congrArg (fun e_ : Int => LObj.mk [.i r, .i tr, .i e_, .sl 3 0 ps.length] 47 1) hen.symm) (oks_cons (ok_no (a := .i r)) (oks_cons (ok_no (a := .i tr)) (oks_cons (ok_no (a := .i en)) (oks_cons (.sl _ _ _ (by simp)) oks_nil)))), row_no rfl rfl, trivial⟩
 refine awp_ret ?_
 exact fretG rfl rfl rfl rfl
abbrev Z4q (l : List Lk) : Nat → AV := (upd (upd (upd none_ 0 (.q eLp l)) 1 (.fn 38 [])) 4 (.i 0))
theorem ixSt (l : List Lk)  (hl : l.length ≤ 4294967296) (hpl : ∀ x, x ∈ l → x.pieces.length ≤ 65536) : Fn Try.prog 43 [.ro l.length (enc eLp l), .fn 38 []] (.v (.int .i64 (idxB (ovB) l))) := by
 refine fnE_of_body (N := 19) Try.func43 rfl rfl (resOf1 rfl) (by simp) (fun w0 X hL_ => ?_)
 refine seqR ?_
 refine mG (.i 0) ?_
 refine op0 ?_
 refine awp_seq ?_
 refine seqR ?_
 refine mG (.q eLp l) ?_
 refine oG (qN ut63 ?_)
 refine mG (.i 0) ?_
 refine rU (upd (upd (Z4q l) 7 (.i (l.length : Int))) 8 (.i 0)) noOb ?_
 refine awp_block ?_
 refine awp_countI (fun k => ⟨(upd (upd (Z4q l) 7 (.i (l.length : Int))) 8 (.i (k : Int))), noOb⟩) (fun k => (l.take k).any (ovB) = false) (l.length) ?_ (by simp) (fun k hk_k hinv => ?_)
 ·skip
  exact iN
 refine seqR ?_
 refine bG ((.bool (decide ((k : Int) < (l.length : Int))))) ?_
 refine op0 ?_
 refine awp_seq ?_
 refine awp_cond (decide ((k : Int) < (l.length : Int))) rfl rfl (fun hc0 => ?_) (fun hc0 => ?_)
 ·skip
  have hf1 := of_decide_eq_true hc0
  have hxl := hpl _ (getD_mem (l := l) (k := k) dLk om)
  refine awp_skip ?_
  refine awp_seq ?_
  refine awp_block ?_
  refine seqR ?_
  refine mG (.i (k : Int)) ?_
  refine mG (.i (k : Int)) ?_
  refine op0 ?_
  refine seqR ?_
  refine mG (.fn 38 []) ?_
  refine mG (.q eLp l) ?_
  refine mG (.i (k : Int)) ?_
  refine oG (qX dLk ut63 sz69 ?_)
  refine oG (qL (.rp [.i ((l.getD k dLk).route), .i ((l.getD k dLk).train), .i ((l.getD k dLk).ends), .ro ((l.getD k dLk).pieces.length) (enc eU8 ((l.getD k dLk).pieces))]) ag69 ?_)
  refine oG (qC (r_Step1 ((l.getD k dLk).pieces) oo) bd38 ?_)
  refine rU (upd (upd (upd (upd (Z4q l) 5 (.i (k : Int))) 7 (.i (l.length : Int))) 8 (.i (k : Int))) 16 (.b (!(((l.getD k dLk).pieces).any (fun b : Int => b != 0))))) noOb ?_
  refine awp_cond (!(((l.getD k dLk).pieces).any (fun b : Int => b != 0))) rfl rfl (fun hc1 => ?_) (fun hc1 => ?_)
  ·skip
   refine seqR ?_
   refine mG (.i (k : Int)) ?_
   refine mG (.i (k : Int)) ?_
   refine op0 ?_
   refine awp_ret ?_
   exact fret (av := .v (.int .i64 (k : Int))) rfl rfl (by rw [idxB_stop (f := ovB) dLk om hinv hc1] <;> rfl)
  refine awp_skip ?_
  refine regR ?_
  refine oG (qB (.int .i64 ((k + 1 : Nat) : Int)) (addN om) ?_)
  refine mG (.i ((k + 1 : Nat) : Int)) ?_
  refine op0 ?_
  show _ ∧ _
  refine ⟨by omega, (any_step dLk om hinv hc1), ?_⟩
  exact iN
 have hf2 := of_decide_eq_false hc0
 refine awp_exit ?_
 refine seqR ?_
 refine mG (.i (-1)) ?_
 refine op0 ?_
 refine awp_ret ?_
 exact fret (av := .v (.int .i64 (-1))) rfl rfl (by rw [idxB_end (f := ovB) om hinv] <;> rfl)
abbrev Z4s : Nat → AV := (upd (upd none_ 0 (.sl 0 0 1)) 1 (.fn 38 []))
abbrev Z4r (r tr en : Int) (ps : List Int) : Nat → OSt := (updO (updO (updO noOb 0 (.live ⟨[.pt 1 0], 69, 1⟩)) 1 (.live ⟨[.i r, .i tr, .i en, .sl 2 0 ps.length], 47, 1⟩)) 2 (.live ⟨(enc eU8 ps), 5, 1⟩))
theorem delLo (r tr en : Int) (ps : List Int) (hl : ps.length ≤ 65536) (ha : ps.any (fun b : Int => b != 0) = true) : FnGO Try.prog 37 [⟨[.pt 1 0], 69, 1⟩, ⟨[.v (.int .i64 r), .v (.int .i64 tr), .v (.int .i64 en), .sl 2 0 ps.length], 47, 1⟩, ⟨(enc eU8 ps), 5, 1⟩] [.sl 0 0 1, .fn 38 []] (.sl 0 0 1) [.live ⟨[.pt 1 0], 69, 1⟩, .live ⟨[.v (.int .i64 r), .v (.int .i64 tr), .v (.int .i64 en), .sl 2 0 ps.length], 47, 1⟩, .live ⟨(enc eU8 ps), 5, 1⟩] := by
 have hix : idxB ovB ([(⟨r, tr, en, ps⟩ : Lk)] : List Lk) = -1 := by simp only [idxB, idxFrom, ovB, ha]; rfl
 refine fnG_of_body (N := 42) 3 rfl Try.func37 rfl rfl (resOf1 rfl) (by simp) (fun w0 G C hL_ hLG_ => ?_)
 refine seqR ?_
 refine mG vN ?_
 refine op0 ?_
 refine seqR ?_
 refine mG (.sl 0 0 1) ?_
 refine mG (.fn 38 []) ?_
 refine oG (callL_ (show Fn Try.prog 43 [.q eLp ([(⟨r, tr, en, ps⟩ : Lk)] : List Lk), .fn 38 []] (.i (-1)) from (by have h_ := ixSt ([(⟨r, tr, en, ps⟩ : Lk)] : List Lk) (by simp) (by intro x h; rw [List.mem_singleton.1 h]; exact hl); rw [hix] at h_; exact h_)) rfl rfl rfl rfl rfl bd43 (lends_cons (lend_rowX (o := ⟨[.pt 1 0], 69, 1⟩) rfl (lends_cons (lend_pt rfl (lends_cons (lend_n (av := .i r)) (lends_cons (lend_n (av := .i tr)) (lends_cons (lend_n (av := .i en)) (lends_cons (lend_s (id := 2) (n := ps.length) (o := ⟨(enc eU8 ps), 5, 1⟩) rfl (enc_len (fun _ => rfl) (by first | rfl | (simp; done)))) lends_nil))))) lends_nil) rfl) lS) ?_)
 refine mG (.i (-1)) ?_
 refine rU (upd (upd Z4s 4 vN) 5 (.i (-1))) (Z4r r tr en ps) ?_
 refine awp_seq ?_
 refine seqR ?_
 refine mG (.i (-1)) ?_
 refine bG ((.bool (((-1) : Int) == (-1)))) ?_
 refine op0 ?_
 refine awp_cond (((-1) : Int) == (-1)) rfl rfl (fun hc0 => ?_) (fun hc0 => ?_)
 ·skip
  have hf1 := (beq_iff_eq).1 hc0
  refine seqR ?_
  refine mG (.sl 0 0 1) ?_
  refine mG (.sl 0 0 1) ?_
  refine rU (upd (upd Z4s 4 (.sl 0 0 1)) 5 (.i (-1))) (Z4r r tr en ps) ?_
  refine awp_imp ⟨(upd none_ 4 (.sl 0 0 1)), (Z4r r tr en ps)⟩ ?_ ?_
  ·skip
   exact iL [(0, 0), (1, 1), (2, 2)] [((0, 0), .live _), ((1, 1), .live _), ((2, 2), .live _)] ⟨row_map (o := ⟨[.pt 1 0], 69, 1⟩) rfl (om_ (lm_cons rfl lm_nil)) (oks_cons (.pt _ _ (by simp)) oks_nil), row_map (o := ⟨[.i r, .i tr, .i en, .sl 2 0 ps.length], 47, 1⟩) rfl (om_ (lm_cons (am_no (a := .i r)) (lm_cons (am_no (a := .i tr)) (lm_cons (am_no (a := .i en)) (lm_cons rfl lm_nil))))) (oks_cons (ok_no (a := .i r)) (oks_cons (ok_no (a := .i tr)) (oks_cons (ok_no (a := .i en)) (oks_cons (.sl _ _ _ (by simp)) oks_nil)))), row_no rfl rfl, trivial⟩
  refine awp_ret ?_
  exact fretG rfl rfl rfl rfl
 have hf2 := (beq_eq_false_iff_ne).1 hc0
 exfalso; simp at hc0
abbrev Z4w (r tr en : Int) (ps : List Int) : LObj := ⟨[.i r, .i tr, .i en, .sl 2 0 ps.length], 47, 1⟩
abbrev Z4v : LObj := ⟨[.v (.pointer none)], 69, 1⟩
abbrev Z4u : Nat → AV := (upd (upd (upd (upd none_ 0 (.sl 0 0 1)) 1 (.fn 38 [])) 4 vN) 5 (.i 0))
abbrev Z4t (r tr en : Int) (ps : List Int) : Nat → OSt := (updO (updO (updO noOb 0 (.live ⟨[.pt 1 0], 69, 1⟩)) 1 (.live (Z4w r tr en ps))) 2 (.live ⟨(enc eU8 ps), 5, 1⟩))
theorem delLd (r tr en : Int) (ps : List Int) (hl : ps.length ≤ 65536) (ha : ps.any (fun b : Int => b != 0) = false) : FnGO Try.prog 37 [⟨[.pt 1 0], 69, 1⟩, ⟨[.v (.int .i64 r), .v (.int .i64 tr), .v (.int .i64 en), .sl 2 0 ps.length], 47, 1⟩, ⟨(enc eU8 ps), 5, 1⟩] [.sl 0 0 1, .fn 38 []] (.sl 0 0 0) [.live ⟨[.v (.pointer none)], 69, 1⟩, .live ⟨[.v (.int .i64 r), .v (.int .i64 tr), .v (.int .i64 en), .sl 2 0 ps.length], 47, 1⟩, .live ⟨(enc eU8 ps), 5, 1⟩] := by
 have hix : idxB ovB ([(⟨r, tr, en, ps⟩ : Lk)] : List Lk) = 0 := by simp only [idxB, idxFrom, ovB, ha]; rfl
 refine fnG_of_body (N := 42) 3 rfl Try.func37 rfl rfl (resOf1 rfl) (by simp) (fun w0 G C hL_ hLG_ => ?_)
 refine seqR ?_
 refine mG vN ?_
 refine op0 ?_
 refine seqR ?_
 refine mG (.sl 0 0 1) ?_
 refine mG (.fn 38 []) ?_
 refine oG (callL_ (show Fn Try.prog 43 [.q eLp ([(⟨r, tr, en, ps⟩ : Lk)] : List Lk), .fn 38 []] (.i 0) from (by have h_ := ixSt ([(⟨r, tr, en, ps⟩ : Lk)] : List Lk) (by simp) (by intro x h; rw [List.mem_singleton.1 h]; exact hl); rw [hix] at h_; exact h_)) rfl rfl rfl rfl rfl bd43 (lends_cons (lend_rowX (o := ⟨[.pt 1 0], 69, 1⟩) rfl (lends_cons (lend_pt rfl (lends_cons (lend_n (av := .i r)) (lends_cons (lend_n (av := .i tr)) (lends_cons (lend_n (av := .i en)) (lends_cons (lend_s (id := 2) (n := ps.length) (o := ⟨(enc eU8 ps), 5, 1⟩) rfl (enc_len (fun _ => rfl) (by first | rfl | (simp; done)))) lends_nil))))) lends_nil) rfl) lS) ?_)
 refine mG (.i 0) ?_
 refine rU Z4u (Z4t r tr en ps) ?_
 refine awp_seq ?_
 refine seqR ?_
 refine mG (.i 0) ?_
 refine bG ((.bool ((0 : Int) == (-1)))) ?_
 refine op0 ?_
 refine awp_cond ((0 : Int) == (-1)) rfl rfl (fun hc0 => ?_) (fun hc0 => ?_)
 ·skip
  have hf1 := (beq_iff_eq).1 hc0
  exfalso; simp at hc0
 have hf2 := (beq_eq_false_iff_ne).1 hc0
 refine awp_skip ?_
 refine awp_seq ?_
 refine seqR ?_
 refine mG (.i 0) ?_
 refine oG (qB (.int .i64 (0 + 1)) (addI om) ?_)
 refine mG (.i (0 + 1)) ?_
 refine rU (upd Z4u 6 (.i (0 + 1))) (Z4t r tr en ps) ?_
 refine awp_block ?_
 refine awp_countI (fun k => match k with | _ => ⟨(upd Z4u 6 (.i 1)), (Z4t r tr en ps)⟩) (fun _ => True) 0 ?_ trivial (fun k hk_k _ => ?_)
 ·skip
  exact iL [(0, 0), (1, 1), (2, 2)] [((0, 0), .live _), ((1, 1), .live _), ((2, 2), .live _)] ⟨row_map (o := ⟨[.pt 1 0], 69, 1⟩) rfl (om_ (lm_cons rfl lm_nil)) (oks_cons (.pt _ _ (by simp)) oks_nil), row_map (o := (Z4w r tr en ps)) rfl (om_ (lm_cons (am_no (a := .i r)) (lm_cons (am_no (a := .i tr)) (lm_cons (am_no (a := .i en)) (lm_cons rfl lm_nil))))) (oks_cons (ok_no (a := .i r)) (oks_cons (ok_no (a := .i tr)) (oks_cons (ok_no (a := .i en)) (oks_cons (.sl _ _ _ (by simp)) oks_nil)))), row_no rfl rfl, trivial⟩
 rcases (show k = 0 by omega) with rfl
 show AWP _ _ _ ⟨(upd Z4u 6 (.i 1)), (Z4t r tr en ps)⟩ _
 refine awp_seq ?_
 refine seqR ?_
 refine mG (.i 1) ?_
 refine mG (.sl 0 0 1) ?_
 refine oG (aop_len rfl rfl rfl rfl ut63 (len_sl rfl) ?_)
 refine bG ((.bool (decide (1 < (1 : Int))))) ?_
 refine rU (upd (upd Z4u 6 (.i 1)) 19 (.b (decide (1 < (1 : Int))))) (Z4t r tr en ps) ?_
 refine awp_cond (decide (1 < (1 : Int))) rfl rfl (fun hc1 => ?_) (fun hc1 => ?_)
 ·skip
  have hf3 := of_decide_eq_true hc1
  exfalso; simp at hc1
 have hf4 := of_decide_eq_false hc1
 refine awp_exit ?_
 refine seqR ?_
 refine mG (.sl 0 0 1) ?_
 refine mG (.i 0) ?_
 refine oG (aop_sliceFrom (l := 0) (ob := ⟨[.pt 1 0], 69, 1⟩) rfl rfl rfl ut63 sz69 rfl rfl rfl ⟨_, rfl⟩ oo ?_)
 refine oG (aop_clear (n := 1 - 0) (ob := ⟨[.pt 1 0], 69, 1⟩) rfl rfl rfl rfl ut63 (run_zero_ ze69) rfl rfl rfl (by simp) (Nat.le_of_ble_eq_true rfl) (show _ = [AV.v (.pointer none)] from by simp [spl, Builtin.zeroCells, Value.cells]) ?_)
 refine rU (upd (upd (upd none_ 0 (.sl 0 0 1)) 4 vN) 5 (.i 0)) (updO (Z4t r tr en ps) 0 (.live Z4v)) ?_
 refine seqR ?_
 refine mG (.sl 0 0 1) ?_
 refine mG (.i 0) ?_
 refine oG (aop_sliceOwn (hgh := 0) rfl rfl rfl ut63 sz69 rfl ⟨_, rfl⟩ oo ?_)
 refine mG (.sl 0 0 0) ?_
 refine rU (upd none_ 4 (.sl 0 0 0)) (updO (Z4t r tr en ps) 0 (.live Z4v)) ?_
 refine awp_imp ⟨(upd none_ 4 (.sl 0 0 0)), (updO (updO (updO noOb 0 (.live Z4v)) 1 (.live (Z4w r tr en ps))) 2 (.live ⟨(enc eU8 ps), 5, 1⟩))⟩ ?_ ?_
 ·skip
  exact iL [(0, 0), (1, 1), (2, 2)] [((0, 0), .live _), ((1, 1), .live _), ((2, 2), .live _)] ⟨row_no rfl rfl, row_map (o := (Z4w r tr en ps)) rfl (om_ (lm_cons (am_no (a := .i r)) (lm_cons (am_no (a := .i tr)) (lm_cons (am_no (a := .i en)) (lm_cons rfl lm_nil))))) (oks_cons (ok_no (a := .i r)) (oks_cons (ok_no (a := .i tr)) (oks_cons (ok_no (a := .i en)) (oks_cons (.sl _ _ _ (by simp)) oks_nil)))), row_no rfl rfl, trivial⟩
 refine awp_ret ?_
 exact fretG rfl rfl rfl rfl
abbrev Z4z (g : Int) (e ow : List Int) : Nat → AV := (upd (upd (upd (upd none_ 0 (.pt 0 0)) 1 (.i g)) 2 (.q eU8 e)) 3 (.q eI ow))
abbrev Z4y (m : List Sec) (c : List (List Int)) (p : List Pnt) : List AV := [.one, .q eSec m, .q eIL c, .q ePnt p, .one, .one, .one, .one, .one, .one]
abbrev Z4x (m : List Sec) (c : List (List Int)) (p : List Pnt) (d : List (List Int)) (cn : Int) : LObj := ⟨[.one, .q eSec m, .q eIL c, .q ePnt p, .q eIL d, .one, .one, .one, .i cn, .one, .rp (Z4y m c p), .sl 1 0 1], 65, 1⟩
abbrev Z54 (g : Int) (e ow : List Int) : Nat → AV := (upd (upd (Z4z g e ow) 16 (.sl 1 0 1)) 17 (.i 1))
abbrev Z53 (g : Int) (e ow : List Int) : Nat → AV := (upd (upd (upd (upd (Z4z g e ow) 9 (.pt 2 0)) 16 (.sl 1 0 1)) 17 (.i 1)) 18 (.i 0))
abbrev Z50 (m : List Sec) (c : List (List Int)) (p : List Pnt) (d : List (List Int)) (cn : Int) : Nat → OSt := (updO (updO noOb 0 (.live (Z4x m c p d cn))) 1 (.live ⟨[.pt 2 0], 69, 1⟩))
abbrev Z52 (m : List Sec) (c : List (List Int)) (p : List Pnt) (d : List (List Int)) (cn r tr en : Int) (e ow : List Int) (g : Int) (ps : List Int) : Nat → OSt := (updO (updO (Z50 m c p d cn) 2 (.live ⟨[.i r, .i tr, .i en, .sl 3 0 ((tnK d c e ow g r tr en ps ps.length).length)], 47, 1⟩)) 3 (.live ⟨(enc eU8 (tnK d c e ow g r tr en ps ps.length)), 5, 1⟩))
abbrev Z51 (m : List Sec) (c : List (List Int)) (p : List Pnt) (d : List (List Int)) (cn r tr en : Int) (e ow : List Int) (g : Int) (ps : List Int) : Nat → OSt := (updO (updO (Z50 m c p d cn) 2 (.live ⟨[.i r, .i tr, .i en, .sl 3 0 ((tnK d c e ow g r tr en ps 0).length)], 47, 1⟩)) 3 (.live ⟨(enc eU8 (tnK d c e ow g r tr en ps 0)), 5, 1⟩))
theorem r_StepO (m : List Sec) (c : List (List Int)) (p : List Pnt) (d : List (List Int)) (cn : Int) (r tr en : Int) (ps : List Int) (g : Int) (e ow : List Int) (hro : d.length ≤ 65536) (hr : 0 ≤ r ∧ r < (d.length : Int)) (hp : ps.length + 1 = (d.getD r.toNat []).length) (hpl : (d.getD r.toNat []).length ≤ 65536) (hpa : c.length ≤ 65536) (hpp : ∀ x, x ∈ c → x.length ≤ 65536) (hst : e.length ≤ 65536) (how : ow.length ≤ 65536) (hin : ∀ s, s ∈ pthR d r → 0 ≤ s ∧ s < (e.length : Int)) (hpo : ∀ s : Int, 0 ≤ s → s < (e.length : Int) → 0 ≤ partI c s ∧ partI c s < (ow.length : Int)) (ha : (tnK d c e ow g r tr en ps ps.length).any (fun b : Int => b != 0) = true) : FnGO Try.prog 11 [⟨[.one, .ro m.length (enc eSec m), .ro c.length (enc eIL c), .ro p.length (enc ePnt p), .ro d.length (enc eIL d), .one, .one, .one, .v (.int .i64 cn), .one, .rp [.one, .ro m.length (enc eSec m), .ro c.length (enc eIL c), .ro p.length (enc ePnt p), .one, .one, .one, .one, .one, .one], .sl 1 0 1], 65, 1⟩, ⟨[.pt 2 0], 69, 1⟩, ⟨[.v (.int .i64 r), .v (.int .i64 tr), .v (.int .i64 en), .sl 3 0 ps.length], 47, 1⟩, ⟨(enc eU8 ps), 5, 1⟩] [.pt 0 0, .v (.int .i64 g), .ro e.length (enc eU8 e), .ro ow.length (enc eI ow)] (.tup []) [.live ⟨[.one, .ro m.length (enc eSec m), .ro c.length (enc eIL c), .ro p.length (enc ePnt p), .ro d.length (enc eIL d), .one, .one, .one, .v (.int .i64 cn), .one, .rp [.one, .ro m.length (enc eSec m), .ro c.length (enc eIL c), .ro p.length (enc ePnt p), .one, .one, .one, .one, .one, .one], .sl 1 0 1], 65, 1⟩, .live ⟨[.pt 2 0], 69, 1⟩, .live ⟨[.v (.int .i64 r), .v (.int .i64 tr), .v (.int .i64 en), .sl 3 0 ((tnK d c e ow g r tr en ps ps.length).length)], 47, 1⟩, .live ⟨(enc eU8 (tnK d c e ow g r tr en ps ps.length)), 5, 1⟩] := by
 have hln := fun j => tnK_len (routes := d) (parts := c) (st := e) (ow := ow) (now := g) (r := r) (tr := tr) (en := en) (ps := ps) j
 have hl0 := hln 0
 refine fnG_of_body (N := 53) 4 rfl Try.func11 rfl rfl (resOf0 rfl) (by simp) (fun w0 G C hL_ hLG_ => ?_)
 refine awp_seq ?_
 refine seqR ?_
 refine mG (.pt 0 0) ?_
 refine oG (aop_ptNil rfl rfl rfl ut35 rfl rfl rfl (.inl ⟨rfl, rfl⟩) ?_)
 refine op0 ?_
 refine awp_cond false rfl rfl (fun h => by cases h) (fun _ => ?_)
 refine awp_skip ?_
 refine awp_seq ?_
 refine seqR ?_
 refine mG (.pt 0 0) ?_
 refine oG (aop_nilCheck rfl rfl rfl rfl rfl ?_)
 refine fG (.pt 0 11) ft65_2 sz63 ?_
 refine oG (qL (.sl 1 0 1) ag63 ?_)
 refine oG (aop_len rfl rfl rfl rfl ut63 (len_sl rfl) ?_)
 refine mG (.i 0) ?_
 refine rU (upd (upd (upd (Z4z g e ow) 16 (.sl 1 0 1)) 17 (.i (1 : Int))) 18 (.i 0)) (updO (updO (Z50 m c p d cn) 2 (.live ⟨[.i r, .i tr, .i en, .sl 3 0 ps.length], 47, 1⟩)) 3 (.live ⟨(enc eU8 ps), 5, 1⟩)) ?_
 refine awp_block ?_
 refine awp_countI (fun k => match k with | 0 => ⟨(upd (Z54 g e ow) 18 (.i 0)), (Z51 m c p d cn r tr en e ow g ps)⟩ | _ => ⟨(upd (Z54 g e ow) 18 (.i 1)), (Z52 m c p d cn r tr en e ow g ps)⟩) (fun _ => True) 1 ?_ trivial (fun k hk_k _ => ?_)
 ·skip
  exact iL [(0, 0), (1, 1), (2, 2), (3, 3)] [((0, 0), .live _), ((1, 1), .live _), ((2, 2), .live _), ((3, 3), .live _)] ⟨row_map (o := (Z4x m c p d cn)) rfl (om_ (lm_cons (am_no (a := .one)) (lm_cons (am_no (a := .q eSec m)) (lm_cons (am_no (a := .q eIL c)) (lm_cons (am_no (a := .q ePnt p)) (lm_cons (am_no (a := .q eIL d)) (lm_cons (am_no (a := .one)) (lm_cons (am_no (a := .one)) (lm_cons (am_no (a := .one)) (lm_cons (am_no (a := .i cn)) (lm_cons (am_no (a := .one)) (lm_cons (am_no (a := .rp (Z4y m c p))) (lm_cons rfl lm_nil))))))))))))) (oks_cons (ok_no (a := .one)) (oks_cons (ok_no (a := .q eSec m)) (oks_cons (ok_no (a := .q eIL c)) (oks_cons (ok_no (a := .q ePnt p)) (oks_cons (ok_no (a := .q eIL d)) (oks_cons (ok_no (a := .one)) (oks_cons (ok_no (a := .one)) (oks_cons (ok_no (a := .one)) (oks_cons (ok_no (a := .i cn)) (oks_cons (ok_no (a := .one)) (oks_cons (ok_no (a := .rp (Z4y m c p))) (oks_cons (.sl _ _ _ (by simp)) oks_nil)))))))))))), row_map (o := ⟨[.pt 2 0], 69, 1⟩) rfl (om_ (lm_cons rfl lm_nil)) (oks_cons (.pt _ _ (by simp)) oks_nil), row_map (o := ⟨[.i r, .i tr, .i en, .sl 3 0 ps.length], 47, 1⟩) rfl (om_ (lm_cons (am_no (a := .i r)) (lm_cons (am_no (a := .i tr)) (lm_cons (am_no (a := .i en)) (lm_cons rfl lm_nil))))) (oks_cons (ok_no (a := .i r)) (oks_cons (ok_no (a := .i tr)) (oks_cons (ok_no (a := .i en)) (oks_cons (.sl _ _ _ (by simp)) oks_nil)))), row_no rfl rfl, trivial⟩
 rcases (show k = 0 ∨ k = 1 by omega) with rfl | rfl
 ·show AWP _ _ _ ⟨(upd (Z54 g e ow) 18 (.i 0)), (Z51 m c p d cn r tr en e ow g ps)⟩ _
  refine seqR ?_
  refine bG ((.bool true)) ?_
  refine op0 ?_
  refine awp_seq ?_
  refine awp_cond true rfl rfl (fun _ => ?_) (fun h => by cases h)
  refine awp_skip ?_
  refine awp_seq ?_
  refine awp_block ?_
  refine seqR ?_
  refine oG (aop_ixO (k := 0) rfl rfl rfl ut63 sz69 rfl rfl oo ?_)
  refine oG (qL (.pt 2 0) ag69 ?_)
  refine mG (.pt 2 0) ?_
  refine rU (Z53 g e ow) (Z51 m c p d cn r tr en e ow g ps) ?_
  refine seqR ?_
  refine mG (.pt 2 0) ?_
  refine oG (aop_nilCheck rfl rfl rfl rfl rfl ?_)
  refine fG (.pt 2 3) ft47_3 sz37 ?_
  refine oG (qL (.sl 3 0 ((tnK d c e ow g r tr en ps 0).length)) ag37 ?_)
  refine oG (aop_len rfl rfl rfl rfl ut37 (len_sl rfl) ?_)
  refine mG (.i 0) ?_
  refine rU (upd (upd (Z53 g e ow) 26 (.i ((tnK d c e ow g r tr en ps 0).length : Int))) 27 (.i 0)) (Z51 m c p d cn r tr en e ow g ps) ?_
  refine awp_block ?_
  refine awp_countI (fun j => ⟨(upd (upd (Z53 g e ow) 26 (.i ((tnK d c e ow g r tr en ps 0).length : Int))) 27 (.i (j : Int))), (updO (updO (Z50 m c p d cn) 2 (.live ⟨[.i r, .i tr, .i en, .sl 3 0 ((tnK d c e ow g r tr en ps j).length)], 47, 1⟩)) 3 (.live ⟨(enc eU8 (tnK d c e ow g r tr en ps j)), 5, 1⟩))⟩) (fun j => True) (ps.length) ?_ trivial (fun j hk_j hinv => ?_)
  ·skip
   exact iL [(0, 0), (1, 1), (2, 2), (3, 3)] [((0, 0), .live _), ((1, 1), .live _), ((2, 2), .live _), ((3, 3), .live _)] ⟨row_map (o := (Z4x m c p d cn)) rfl (om_ (lm_cons (am_no (a := .one)) (lm_cons (am_no (a := .q eSec m)) (lm_cons (am_no (a := .q eIL c)) (lm_cons (am_no (a := .q ePnt p)) (lm_cons (am_no (a := .q eIL d)) (lm_cons (am_no (a := .one)) (lm_cons (am_no (a := .one)) (lm_cons (am_no (a := .one)) (lm_cons (am_no (a := .i cn)) (lm_cons (am_no (a := .one)) (lm_cons (am_no (a := .rp (Z4y m c p))) (lm_cons rfl lm_nil))))))))))))) (oks_cons (ok_no (a := .one)) (oks_cons (ok_no (a := .q eSec m)) (oks_cons (ok_no (a := .q eIL c)) (oks_cons (ok_no (a := .q ePnt p)) (oks_cons (ok_no (a := .q eIL d)) (oks_cons (ok_no (a := .one)) (oks_cons (ok_no (a := .one)) (oks_cons (ok_no (a := .one)) (oks_cons (ok_no (a := .i cn)) (oks_cons (ok_no (a := .one)) (oks_cons (ok_no (a := .rp (Z4y m c p))) (oks_cons (.sl _ _ _ (by simp)) oks_nil)))))))))))), row_map (o := ⟨[.pt 2 0], 69, 1⟩) rfl (om_ (lm_cons rfl lm_nil)) (oks_cons (.pt _ _ (by simp)) oks_nil), row_map (o := ⟨[.i r, .i tr, .i en, .sl 3 0 ((tnK d c e ow g r tr en ps 0).length)], 47, 1⟩) rfl (om_ (lm_cons (am_no (a := .i r)) (lm_cons (am_no (a := .i tr)) (lm_cons (am_no (a := .i en)) (lm_cons rfl lm_nil))))) (oks_cons (ok_no (a := .i r)) (oks_cons (ok_no (a := .i tr)) (oks_cons (ok_no (a := .i en)) (oks_cons (.sl _ _ _ (by simp)) oks_nil)))), row_no rfl rfl, trivial⟩
  have hlj := hln j
  have hlj1 := hln (j + 1)
  refine seqR ?_
  refine bG ((.bool (decide ((j : Int) < ((tnK d c e ow g r tr en ps 0).length : Int))))) ?_
  refine op0 ?_
  refine awp_seq ?_
  refine awp_cond (decide ((j : Int) < ((tnK d c e ow g r tr en ps 0).length : Int))) rfl rfl (fun hc2 => ?_) (fun hc2 => ?_)
  ·skip
   have hf1 := of_decide_eq_true hc2
   have hjl2 : j < ps.length := by omega
   refine awp_skip ?_
   refine awp_seq ?_
   refine awp_block ?_
   refine seqR ?_
   refine mG (.i (j : Int)) ?_
   refine mG (.i (j : Int)) ?_
   refine op0 ?_
   refine aD 13 [(42, .pt 3 (j * 1)), (41, .v (.int .u8 (tnP d c e ow g (⟨r, tr, en, (tnK d c e ow g r tr en ps j)⟩ : Lk) j))), (40, .q eI ow), (39, .q eU8 e), (38, .i g), (37, .i (j : Int)), (36, .pt 2 0), (35, .pt 0 0), (34, .i (j : Int)), (33, .sl 3 0 ((tnK d c e ow g r tr en ps j).length)), (32, .pt 2 3), (31, .pt 2 0), (30, .pt 2 0)] mixed ?_ ?_
   ·iterate 13 (refine ⟨?_, ?_⟩; rotate_left)
    trivial
    ·exact sMv
    ·exact dW 31 fun st hob hE => aop_nilCheck rfl rfl rfl (hE 30 rfl) rfl (by rw [hob]; rfl)
    ·exact sF (.pt 2 0) (.pt 2 3) ft47_3 sz37
    ·exact sL ag37
    ·exact sMv
    ·exact sMv
    ·exact sMv
    ·exact sMv
    ·exact sMv
    ·exact sMv
    ·exact sMv
    ·exact dW 41 fun st hob hE => callL_ (r_turn d c r tr en (tnK d c e ow g r tr en ps j) j g e ow hro hr om hpl om hpa hpp hst how hin hpo) rfl rfl rfl rfl rfl bd36 (by rw [hob]; show Lends _ ([st.env 35, st.env 36, st.env 37, st.env 38, st.env 39, st.env 40] ++ _) _; rw [hE 35 rfl, hE 36 rfl, hE 37 rfl, hE 38 rfl, hE 39 rfl, hE 40 rfl]; exact (lends_cons (lend_pt rfl lS) (lends_cons (lend_pt rfl (lends_cons (lend_n (av := .i r)) (lends_cons (lend_n (av := .i tr)) (lends_cons (lend_n (av := .i en)) (lends_cons (lend_s (id := 3) (n := (tnK d c e ow g r tr en ps j).length) (o := ⟨(enc eU8 (tnK d c e ow g r tr en ps j)), 5, 1⟩) rfl (enc_len (fun _ => rfl) (by first | rfl | (simp; done)))) lends_nil))))) lS))) (by rw [hob]; rfl)
    exact dW 42 fun st hob hE => aop_ixO (k := j) rfl rfl rfl ut37 sz5 (hE 33 rfl) (hE 34 rfl) oo (by rw [hob]; rfl)
   refine oG (aop_storeE (f := eU8) (l := tnK d c e ow g r tr en ps j) (l' := (tnK d c e ow g r tr en ps j).set j (tnP d c e ow g (⟨r, tr, en, (tnK d c e ow g r tr en ps j)⟩ : Lk) j : Int)) (tnP d c e ow g (⟨r, tr, en, (tnK d c e ow g r tr en ps j)⟩ : Lk) j : Int) rfl rfl rfl sz5 rfl rfl rfl rfl rfl (fun _ => rfl) oo rfl rfl ?_)
   refine op0 ?_
   refine rT (upd (upd (upd (upd (upd (upd (upd (Z4z g e ow) 9 (.pt 2 0)) 10 (.i (j : Int))) 16 (.sl 1 0 1)) 17 (.i 1)) 18 (.i 0)) 26 (.i ((tnK d c e ow g r tr en ps 0).length : Int))) 27 (.i (j : Int))) (updO (updO (updO (Z50 m c p d cn) 2 (.live ⟨[.i r, .i tr, .i en, .sl 3 0 ((tnK d c e ow g r tr en ps j).length)], 47, 1⟩)) 3 (.live ⟨(enc eU8 (tnK d c e ow g r tr en ps j)), 5, 1⟩)) 3 (.live ⟨(enc eU8 ((tnK d c e ow g r tr en ps j).set j (tnP d c e ow g (⟨r, tr, en, (tnK d c e ow g r tr en ps j)⟩ : Lk) j : Int))), 5, 1⟩)) ?_
   refine regR ?_
   refine oG (qB (.int .i64 ((j + 1 : Nat) : Int)) (addN om) ?_)
   refine mG (.i ((j + 1 : Nat) : Int)) ?_
   refine op0 ?_
   show _ ∧ _
   refine ⟨by omega, trivial, ?_⟩
   exact iL [(0, 0), (1, 1), (2, 2), (3, 3)] [((0, 0), .live _), ((1, 1), .live _), ((2, 2), .live _), ((3, 3), .live _)] ⟨row_map (o := (Z4x m c p d cn)) rfl (om_ (lm_cons (am_no (a := .one)) (lm_cons (am_no (a := .q eSec m)) (lm_cons (am_no (a := .q eIL c)) (lm_cons (am_no (a := .q ePnt p)) (lm_cons (am_no (a := .q eIL d)) (lm_cons (am_no (a := .one)) (lm_cons (am_no (a := .one)) (lm_cons (am_no (a := .one)) (lm_cons (am_no (a := .i cn)) (lm_cons (am_no (a := .one)) (lm_cons (am_no (a := .rp (Z4y m c p))) (lm_cons rfl lm_nil))))))))))))) (oks_cons (ok_no (a := .one)) (oks_cons (ok_no (a := .q eSec m)) (oks_cons (ok_no (a := .q eIL c)) (oks_cons (ok_no (a := .q ePnt p)) (oks_cons (ok_no (a := .q eIL d)) (oks_cons (ok_no (a := .one)) (oks_cons (ok_no (a := .one)) (oks_cons (ok_no (a := .one)) (oks_cons (ok_no (a := .i cn)) (oks_cons (ok_no (a := .one)) (oks_cons (ok_no (a := .rp (Z4y m c p))) (oks_cons (.sl _ _ _ (by simp)) oks_nil)))))))))))), row_map (o := ⟨[.pt 2 0], 69, 1⟩) rfl (om_ (lm_cons rfl lm_nil)) (oks_cons (.pt _ _ (by simp)) oks_nil), row_map (o := ⟨[.i r, .i tr, .i en, .sl 3 0 ((tnK d c e ow g r tr en ps j).length)], 47, 1⟩) rfl (congrArg (fun n_ : Nat => LObj.mk [.i r, .i tr, .i en, .sl 3 0 n_] 47 1) (hlj.trans hlj1.symm)) (oks_cons (ok_no (a := .i r)) (oks_cons (ok_no (a := .i tr)) (oks_cons (ok_no (a := .i en)) (oks_cons (.sl _ _ _ (by simp)) oks_nil)))), row_no rfl (by exact congrArg (fun l_ => LObj.mk (enc eU8 l_) 5 1) rfl), trivial⟩
  have hf2 := of_decide_eq_false hc2
  have hjl : j = ps.length := by omega
  refine awp_exit ?_
  refine regR ?_
  refine oG (qB (.int .i64 (0 + 1)) (addI om) ?_)
  refine mG (.i (0 + 1)) ?_
  refine op0 ?_
  show _ ∧ _
  refine ⟨by omega, trivial, ?_⟩
  exact iL [(0, 0), (1, 1), (2, 2), (3, 3)] [((0, 0), .live _), ((1, 1), .live _), ((2, 2), .live _), ((3, 3), .live _)] ⟨row_map (o := (Z4x m c p d cn)) rfl (om_ (lm_cons (am_no (a := .one)) (lm_cons (am_no (a := .q eSec m)) (lm_cons (am_no (a := .q eIL c)) (lm_cons (am_no (a := .q ePnt p)) (lm_cons (am_no (a := .q eIL d)) (lm_cons (am_no (a := .one)) (lm_cons (am_no (a := .one)) (lm_cons (am_no (a := .one)) (lm_cons (am_no (a := .i cn)) (lm_cons (am_no (a := .one)) (lm_cons (am_no (a := .rp (Z4y m c p))) (lm_cons rfl lm_nil))))))))))))) (oks_cons (ok_no (a := .one)) (oks_cons (ok_no (a := .q eSec m)) (oks_cons (ok_no (a := .q eIL c)) (oks_cons (ok_no (a := .q ePnt p)) (oks_cons (ok_no (a := .q eIL d)) (oks_cons (ok_no (a := .one)) (oks_cons (ok_no (a := .one)) (oks_cons (ok_no (a := .one)) (oks_cons (ok_no (a := .i cn)) (oks_cons (ok_no (a := .one)) (oks_cons (ok_no (a := .rp (Z4y m c p))) (oks_cons (.sl _ _ _ (by simp)) oks_nil)))))))))))), row_map (o := ⟨[.pt 2 0], 69, 1⟩) rfl (om_ (lm_cons rfl lm_nil)) (oks_cons (.pt _ _ (by simp)) oks_nil), row_map (o := ⟨[.i r, .i tr, .i en, .sl 3 0 ((tnK d c e ow g r tr en ps j).length)], 47, 1⟩) rfl (congrArg (fun n_ : Nat => LObj.mk [.i r, .i tr, .i en, .sl 3 0 n_] 47 1) (by rw [hjl])) (oks_cons (ok_no (a := .i r)) (oks_cons (ok_no (a := .i tr)) (oks_cons (ok_no (a := .i en)) (oks_cons (.sl _ _ _ (by simp)) oks_nil)))), row_no rfl (by exact congrArg (fun l_ => LObj.mk (enc eU8 l_) 5 1) (by rw [hjl])), trivial⟩
 show AWP _ _ _ ⟨(upd (Z54 g e ow) 18 (.i 1)), (Z52 m c p d cn r tr en e ow g ps)⟩ _
 refine seqR ?_
 refine bG ((.bool false)) ?_
 refine op0 ?_
 refine awp_seq ?_
 refine awp_cond false rfl rfl (fun h => by cases h) (fun _ => ?_)
 refine awp_exit ?_
 refine regR ?_
 refine mG (.pt 0 0) ?_
 refine mG (.pt 0 0) ?_
 refine oG (aop_nilCheck rfl rfl rfl rfl rfl ?_)
 refine fG (.pt 0 11) ft65_2 sz63 ?_
 refine oG (qL (.sl 1 0 1) ag63 ?_)
 refine oG (callG_ false [1, 2, 3] [] (delLo r tr en (tnK d c e ow g r tr en ps ps.length) (by have := hln ps.length; omega) ha) rfl rfl rfl rfl rfl bd37 (by decide) ⟨giv_map (o := ⟨[.pt 2 0], 69, 1⟩) rfl (om_ (lm_cons rfl lm_nil)) (oks_cons (.pt _ _ (by simp)) oks_nil), giv_map (o := ⟨[.i r, .i tr, .i en, .sl 3 0 ((tnK d c e ow g r tr en ps ps.length).length)], 47, 1⟩) rfl (om_ (lm_cons (am_no (a := .i r)) (lm_cons (am_no (a := .i tr)) (lm_cons (am_no (a := .i en)) (lm_cons rfl lm_nil))))) (oks_cons (ok_no (a := .i r)) (oks_cons (ok_no (a := .i tr)) (oks_cons (ok_no (a := .i en)) (oks_cons (.sl _ _ _ (by simp)) oks_nil)))), giv_no (o := ⟨(enc eU8 (tnK d c e ow g r tr en ps ps.length)), 5, 1⟩) rfl rfl, trivial⟩ ⟨(arg_own (.sl _ _ _ (by simp)) rfl), (arg_no (a := .fn 38 [])), trivial⟩ rfl trivial (fun h => by cases h) rfl (place_cons (ost_map (lm_cons rfl lm_nil)) (place_cons (ost_map (lm_cons (am_no (a := .i r)) (lm_cons (am_no (a := .i tr)) (lm_cons (am_no (a := .i en)) (lm_cons rfl lm_nil))))) (place_cons (ost_no (cs := (enc eU8 (tnK d c e ow g r tr en ps ps.length)))) place_nil))) ?_)
 refine oG (aop_nilCheck rfl rfl rfl rfl rfl ?_)
 refine fG (.pt 0 11) ft65_2 sz63 ?_
 refine oG (qS sz63 ?_)
 refine ops_imp (show Imp _ _ ⟨none_, (Z52 m c p d cn r tr en e ow g ps)⟩ from ?_) (op0 ?_)
 ·skip
  exact iL [(0, 0), (1, 1), (2, 2), (3, 3)] [((0, 0), .live _), ((1, 1), .live _), ((2, 2), .live _), ((3, 3), .live _)] ⟨row_map (o := (Z4x m c p d cn)) rfl (om_ (lm_cons (am_no (a := .one)) (lm_cons (am_no (a := .q eSec m)) (lm_cons (am_no (a := .q eIL c)) (lm_cons (am_no (a := .q ePnt p)) (lm_cons (am_no (a := .q eIL d)) (lm_cons (am_no (a := .one)) (lm_cons (am_no (a := .one)) (lm_cons (am_no (a := .one)) (lm_cons (am_no (a := .i cn)) (lm_cons (am_no (a := .one)) (lm_cons (am_no (a := .rp (Z4y m c p))) (lm_cons rfl lm_nil))))))))))))) (oks_cons (ok_no (a := .one)) (oks_cons (ok_no (a := .q eSec m)) (oks_cons (ok_no (a := .q eIL c)) (oks_cons (ok_no (a := .q ePnt p)) (oks_cons (ok_no (a := .q eIL d)) (oks_cons (ok_no (a := .one)) (oks_cons (ok_no (a := .one)) (oks_cons (ok_no (a := .one)) (oks_cons (ok_no (a := .i cn)) (oks_cons (ok_no (a := .one)) (oks_cons (ok_no (a := .rp (Z4y m c p))) (oks_cons (.sl _ _ _ (by simp)) oks_nil)))))))))))), row_map (o := ⟨[.pt 2 0], 69, 1⟩) rfl (om_ (lm_cons rfl lm_nil)) (oks_cons (.pt _ _ (by simp)) oks_nil), row_map (o := ⟨[.i r, .i tr, .i en, .sl 3 0 ((tnK d c e ow g r tr en ps ps.length).length)], 47, 1⟩) rfl (om_ (lm_cons (am_no (a := .i r)) (lm_cons (am_no (a := .i tr)) (lm_cons (am_no (a := .i en)) (lm_cons rfl lm_nil))))) (oks_cons (ok_no (a := .i r)) (oks_cons (ok_no (a := .i tr)) (oks_cons (ok_no (a := .i en)) (oks_cons (.sl _ _ _ (by simp)) oks_nil)))), row_no (o := ⟨(enc eU8 (tnK d c e ow g r tr en ps ps.length)), 5, 1⟩) rfl rfl, trivial⟩
 unfold retQG
 exact fretG rfl rfl rfl rfl
abbrev Z5a (r tr en : Int) (d c : List (List Int)) (e ow : List Int) (g : Int) (ps : List Int) : LObj := ⟨[.i r, .i tr, .i en, .sl 3 0 ((tnK d c e ow g r tr en ps ps.length).length)], 47, 1⟩
abbrev Z57 (g : Int) (e ow : List Int) : Nat → AV := (upd (upd (upd (upd none_ 0 (.pt 0 0)) 1 (.i g)) 2 (.q eU8 e)) 3 (.q eI ow))
abbrev Z56 (m : List Sec) (c : List (List Int)) (p : List Pnt) : List AV := [.one, .q eSec m, .q eIL c, .q ePnt p, .one, .one, .one, .one, .one, .one]
abbrev Z55 (m : List Sec) (c : List (List Int)) (p : List Pnt) (d : List (List Int)) (cn : Int) : LObj := ⟨[.one, .q eSec m, .q eIL c, .q ePnt p, .q eIL d, .one, .one, .one, .i cn, .one, .rp (Z56 m c p), .sl 1 0 1], 65, 1⟩
abbrev Z5c (g : Int) (e ow : List Int) : Nat → AV := (upd (upd (Z57 g e ow) 16 (.sl 1 0 1)) 17 (.i 1))
abbrev Z5b (g : Int) (e ow : List Int) : Nat → AV := (upd (upd (upd (upd (Z57 g e ow) 9 (.pt 2 0)) 16 (.sl 1 0 1)) 17 (.i 1)) 18 (.i 0))
abbrev Z59 (m : List Sec) (c : List (List Int)) (p : List Pnt) (d : List (List Int)) (cn : Int) : Nat → OSt := (updO (updO noOb 0 (.live (Z55 m c p d cn))) 1 (.live ⟨[.pt 2 0], 69, 1⟩))
abbrev Z58 (m : List Sec) (c : List (List Int)) (p : List Pnt) (d : List (List Int)) (cn r tr en : Int) (e ow : List Int) (g : Int) (ps : List Int) : Nat → OSt := (updO (updO (Z59 m c p d cn) 2 (.live ⟨[.i r, .i tr, .i en, .sl 3 0 ((tnK d c e ow g r tr en ps 0).length)], 47, 1⟩)) 3 (.live ⟨(enc eU8 (tnK d c e ow g r tr en ps 0)), 5, 1⟩))
theorem r_StepD (m : List Sec) (c : List (List Int)) (p : List Pnt) (d : List (List Int)) (cn : Int) (r tr en : Int) (ps : List Int) (g : Int) (e ow : List Int) (hro : d.length ≤ 65536) (hr : 0 ≤ r ∧ r < (d.length : Int)) (hp : ps.length + 1 = (d.getD r.toNat []).length) (hpl : (d.getD r.toNat []).length ≤ 65536) (hpa : c.length ≤ 65536) (hpp : ∀ x, x ∈ c → x.length ≤ 65536) (hst : e.length ≤ 65536) (how : ow.length ≤ 65536) (hin : ∀ s, s ∈ pthR d r → 0 ≤ s ∧ s < (e.length : Int)) (hpo : ∀ s : Int, 0 ≤ s → s < (e.length : Int) → 0 ≤ partI c s ∧ partI c s < (ow.length : Int)) (ha : (tnK d c e ow g r tr en ps ps.length).any (fun b : Int => b != 0) = false) : FnGO Try.prog 11 [⟨[.one, .ro m.length (enc eSec m), .ro c.length (enc eIL c), .ro p.length (enc ePnt p), .ro d.length (enc eIL d), .one, .one, .one, .v (.int .i64 cn), .one, .rp [.one, .ro m.length (enc eSec m), .ro c.length (enc eIL c), .ro p.length (enc ePnt p), .one, .one, .one, .one, .one, .one], .sl 1 0 1], 65, 1⟩, ⟨[.pt 2 0], 69, 1⟩, ⟨[.v (.int .i64 r), .v (.int .i64 tr), .v (.int .i64 en), .sl 3 0 ps.length], 47, 1⟩, ⟨(enc eU8 ps), 5, 1⟩] [.pt 0 0, .v (.int .i64 g), .ro e.length (enc eU8 e), .ro ow.length (enc eI ow)] (.tup []) [.live ⟨[.one, .ro m.length (enc eSec m), .ro c.length (enc eIL c), .ro p.length (enc ePnt p), .ro d.length (enc eIL d), .one, .one, .one, .v (.int .i64 cn), .one, .rp [.one, .ro m.length (enc eSec m), .ro c.length (enc eIL c), .ro p.length (enc ePnt p), .one, .one, .one, .one, .one, .one], .sl 1 0 0], 65, 1⟩, .live ⟨[.v (.pointer none)], 69, 1⟩, .live ⟨[.v (.int .i64 r), .v (.int .i64 tr), .v (.int .i64 en), .sl 3 0 ((tnK d c e ow g r tr en ps ps.length).length)], 47, 1⟩, .live ⟨(enc eU8 (tnK d c e ow g r tr en ps ps.length)), 5, 1⟩] := by
 have hln := fun j => tnK_len (routes := d) (parts := c) (st := e) (ow := ow) (now := g) (r := r) (tr := tr) (en := en) (ps := ps) j
 have hl0 := hln 0
 refine fnG_of_body (N := 53) 4 rfl Try.func11 rfl rfl (resOf0 rfl) (by simp) (fun w0 G C hL_ hLG_ => ?_)
 refine awp_seq ?_
 refine seqR ?_
 refine mG (.pt 0 0) ?_
 refine oG (aop_ptNil rfl rfl rfl ut35 rfl rfl rfl (.inl ⟨rfl, rfl⟩) ?_)
 refine op0 ?_
 refine awp_cond false rfl rfl (fun h => by cases h) (fun _ => ?_)
 refine awp_skip ?_
 refine awp_seq ?_
 refine seqR ?_
 refine mG (.pt 0 0) ?_
 refine oG (aop_nilCheck rfl rfl rfl rfl rfl ?_)
 refine fG (.pt 0 11) ft65_2 sz63 ?_
 refine oG (qL (.sl 1 0 1) ag63 ?_)
 refine oG (aop_len rfl rfl rfl rfl ut63 (len_sl rfl) ?_)
 refine mG (.i 0) ?_
 refine rU (upd (upd (upd (Z57 g e ow) 16 (.sl 1 0 1)) 17 (.i (1 : Int))) 18 (.i 0)) (updO (updO (Z59 m c p d cn) 2 (.live ⟨[.i r, .i tr, .i en, .sl 3 0 ps.length], 47, 1⟩)) 3 (.live ⟨(enc eU8 ps), 5, 1⟩)) ?_
 refine awp_block ?_
 refine awp_countI (fun k => match k with | 0 => ⟨(upd (Z5c g e ow) 18 (.i 0)), (Z58 m c p d cn r tr en e ow g ps)⟩ | _ => ⟨(upd (Z5c g e ow) 18 (.i 1)), (updO (updO (Z59 m c p d cn) 2 (.live (Z5a r tr en d c e ow g ps))) 3 (.live ⟨(enc eU8 (tnK d c e ow g r tr en ps ps.length)), 5, 1⟩))⟩) (fun _ => True) 1 ?_ trivial (fun k hk_k _ => ?_)
 ·skip
  exact iL [(0, 0), (1, 1), (2, 2), (3, 3)] [((0, 0), .live _), ((1, 1), .live _), ((2, 2), .live _), ((3, 3), .live _)] ⟨row_map (o := (Z55 m c p d cn)) rfl (om_ (lm_cons (am_no (a := .one)) (lm_cons (am_no (a := .q eSec m)) (lm_cons (am_no (a := .q eIL c)) (lm_cons (am_no (a := .q ePnt p)) (lm_cons (am_no (a := .q eIL d)) (lm_cons (am_no (a := .one)) (lm_cons (am_no (a := .one)) (lm_cons (am_no (a := .one)) (lm_cons (am_no (a := .i cn)) (lm_cons (am_no (a := .one)) (lm_cons (am_no (a := .rp (Z56 m c p))) (lm_cons rfl lm_nil))))))))))))) (oks_cons (ok_no (a := .one)) (oks_cons (ok_no (a := .q eSec m)) (oks_cons (ok_no (a := .q eIL c)) (oks_cons (ok_no (a := .q ePnt p)) (oks_cons (ok_no (a := .q eIL d)) (oks_cons (ok_no (a := .one)) (oks_cons (ok_no (a := .one)) (oks_cons (ok_no (a := .one)) (oks_cons (ok_no (a := .i cn)) (oks_cons (ok_no (a := .one)) (oks_cons (ok_no (a := .rp (Z56 m c p))) (oks_cons (.sl _ _ _ (by simp)) oks_nil)))))))))))), row_map (o := ⟨[.pt 2 0], 69, 1⟩) rfl (om_ (lm_cons rfl lm_nil)) (oks_cons (.pt _ _ (by simp)) oks_nil), row_map (o := ⟨[.i r, .i tr, .i en, .sl 3 0 ps.length], 47, 1⟩) rfl (om_ (lm_cons (am_no (a := .i r)) (lm_cons (am_no (a := .i tr)) (lm_cons (am_no (a := .i en)) (lm_cons rfl lm_nil))))) (oks_cons (ok_no (a := .i r)) (oks_cons (ok_no (a := .i tr)) (oks_cons (ok_no (a := .i en)) (oks_cons (.sl _ _ _ (by simp)) oks_nil)))), row_no rfl rfl, trivial⟩
 rcases (show k = 0 ∨ k = 1 by omega) with rfl | rfl
 ·show AWP _ _ _ ⟨(upd (Z5c g e ow) 18 (.i 0)), (Z58 m c p d cn r tr en e ow g ps)⟩ _
  refine seqR ?_
  refine bG ((.bool true)) ?_
  refine op0 ?_
  refine awp_seq ?_
  refine awp_cond true rfl rfl (fun _ => ?_) (fun h => by cases h)
  refine awp_skip ?_
  refine awp_seq ?_
  refine awp_block ?_
  refine seqR ?_
  refine oG (aop_ixO (k := 0) rfl rfl rfl ut63 sz69 rfl rfl oo ?_)
  refine oG (qL (.pt 2 0) ag69 ?_)
  refine mG (.pt 2 0) ?_
  refine rU (Z5b g e ow) (Z58 m c p d cn r tr en e ow g ps) ?_
  refine seqR ?_
  refine mG (.pt 2 0) ?_
  refine oG (aop_nilCheck rfl rfl rfl rfl rfl ?_)
  refine fG (.pt 2 3) ft47_3 sz37 ?_
  refine oG (qL (.sl 3 0 ((tnK d c e ow g r tr en ps 0).length)) ag37 ?_)
  refine oG (aop_len rfl rfl rfl rfl ut37 (len_sl rfl) ?_)
  refine mG (.i 0) ?_
  refine rU (upd (upd (Z5b g e ow) 26 (.i ((tnK d c e ow g r tr en ps 0).length : Int))) 27 (.i 0)) (Z58 m c p d cn r tr en e ow g ps) ?_
  refine awp_block ?_
  refine awp_countI (fun j => ⟨(upd (upd (Z5b g e ow) 26 (.i ((tnK d c e ow g r tr en ps 0).length : Int))) 27 (.i (j : Int))), (updO (updO (Z59 m c p d cn) 2 (.live ⟨[.i r, .i tr, .i en, .sl 3 0 ((tnK d c e ow g r tr en ps j).length)], 47, 1⟩)) 3 (.live ⟨(enc eU8 (tnK d c e ow g r tr en ps j)), 5, 1⟩))⟩) (fun j => True) (ps.length) ?_ trivial (fun j hk_j hinv => ?_)
  ·skip
   exact iL [(0, 0), (1, 1), (2, 2), (3, 3)] [((0, 0), .live _), ((1, 1), .live _), ((2, 2), .live _), ((3, 3), .live _)] ⟨row_map (o := (Z55 m c p d cn)) rfl (om_ (lm_cons (am_no (a := .one)) (lm_cons (am_no (a := .q eSec m)) (lm_cons (am_no (a := .q eIL c)) (lm_cons (am_no (a := .q ePnt p)) (lm_cons (am_no (a := .q eIL d)) (lm_cons (am_no (a := .one)) (lm_cons (am_no (a := .one)) (lm_cons (am_no (a := .one)) (lm_cons (am_no (a := .i cn)) (lm_cons (am_no (a := .one)) (lm_cons (am_no (a := .rp (Z56 m c p))) (lm_cons rfl lm_nil))))))))))))) (oks_cons (ok_no (a := .one)) (oks_cons (ok_no (a := .q eSec m)) (oks_cons (ok_no (a := .q eIL c)) (oks_cons (ok_no (a := .q ePnt p)) (oks_cons (ok_no (a := .q eIL d)) (oks_cons (ok_no (a := .one)) (oks_cons (ok_no (a := .one)) (oks_cons (ok_no (a := .one)) (oks_cons (ok_no (a := .i cn)) (oks_cons (ok_no (a := .one)) (oks_cons (ok_no (a := .rp (Z56 m c p))) (oks_cons (.sl _ _ _ (by simp)) oks_nil)))))))))))), row_map (o := ⟨[.pt 2 0], 69, 1⟩) rfl (om_ (lm_cons rfl lm_nil)) (oks_cons (.pt _ _ (by simp)) oks_nil), row_map (o := ⟨[.i r, .i tr, .i en, .sl 3 0 ((tnK d c e ow g r tr en ps 0).length)], 47, 1⟩) rfl (om_ (lm_cons (am_no (a := .i r)) (lm_cons (am_no (a := .i tr)) (lm_cons (am_no (a := .i en)) (lm_cons rfl lm_nil))))) (oks_cons (ok_no (a := .i r)) (oks_cons (ok_no (a := .i tr)) (oks_cons (ok_no (a := .i en)) (oks_cons (.sl _ _ _ (by simp)) oks_nil)))), row_no rfl rfl, trivial⟩
  have hlj := hln j
  have hlj1 := hln (j + 1)
  refine seqR ?_
  refine bG ((.bool (decide ((j : Int) < ((tnK d c e ow g r tr en ps 0).length : Int))))) ?_
  refine op0 ?_
  refine awp_seq ?_
  refine awp_cond (decide ((j : Int) < ((tnK d c e ow g r tr en ps 0).length : Int))) rfl rfl (fun hc2 => ?_) (fun hc2 => ?_)
  ·skip
   have hf1 := of_decide_eq_true hc2
   have hjl2 : j < ps.length := by omega
   refine awp_skip ?_
   refine awp_seq ?_
   refine awp_block ?_
   refine seqR ?_
   refine mG (.i (j : Int)) ?_
   refine mG (.i (j : Int)) ?_
   refine op0 ?_
   refine aD 13 [(42, .pt 3 (j * 1)), (41, .v (.int .u8 (tnP d c e ow g (⟨r, tr, en, (tnK d c e ow g r tr en ps j)⟩ : Lk) j))), (40, .q eI ow), (39, .q eU8 e), (38, .i g), (37, .i (j : Int)), (36, .pt 2 0), (35, .pt 0 0), (34, .i (j : Int)), (33, .sl 3 0 ((tnK d c e ow g r tr en ps j).length)), (32, .pt 2 3), (31, .pt 2 0), (30, .pt 2 0)] mixed ?_ ?_
   ·iterate 13 (refine ⟨?_, ?_⟩; rotate_left)
    trivial
    ·exact sMv
    ·exact dW 31 fun st hob hE => aop_nilCheck rfl rfl rfl (hE 30 rfl) rfl (by rw [hob]; rfl)
    ·exact sF (.pt 2 0) (.pt 2 3) ft47_3 sz37
    ·exact sL ag37
    ·exact sMv
    ·exact sMv
    ·exact sMv
    ·exact sMv
    ·exact sMv
    ·exact sMv
    ·exact sMv
    ·exact dW 41 fun st hob hE => callL_ (r_turn d c r tr en (tnK d c e ow g r tr en ps j) j g e ow hro hr om hpl om hpa hpp hst how hin hpo) rfl rfl rfl rfl rfl bd36 (by rw [hob]; show Lends _ ([st.env 35, st.env 36, st.env 37, st.env 38, st.env 39, st.env 40] ++ _) _; rw [hE 35 rfl, hE 36 rfl, hE 37 rfl, hE 38 rfl, hE 39 rfl, hE 40 rfl]; exact (lends_cons (lend_pt rfl lS) (lends_cons (lend_pt rfl (lends_cons (lend_n (av := .i r)) (lends_cons (lend_n (av := .i tr)) (lends_cons (lend_n (av := .i en)) (lends_cons (lend_s (id := 3) (n := (tnK d c e ow g r tr en ps j).length) (o := ⟨(enc eU8 (tnK d c e ow g r tr en ps j)), 5, 1⟩) rfl (enc_len (fun _ => rfl) (by first | rfl | (simp; done)))) lends_nil))))) lS))) (by rw [hob]; rfl)
    exact dW 42 fun st hob hE => aop_ixO (k := j) rfl rfl rfl ut37 sz5 (hE 33 rfl) (hE 34 rfl) oo (by rw [hob]; rfl)
   refine oG (aop_storeE (f := eU8) (l := tnK d c e ow g r tr en ps j) (l' := (tnK d c e ow g r tr en ps j).set j (tnP d c e ow g (⟨r, tr, en, (tnK d c e ow g r tr en ps j)⟩ : Lk) j : Int)) (tnP d c e ow g (⟨r, tr, en, (tnK d c e ow g r tr en ps j)⟩ : Lk) j : Int) rfl rfl rfl sz5 rfl rfl rfl rfl rfl (fun _ => rfl) oo rfl rfl ?_)
   refine op0 ?_
   refine rT (upd (upd (upd (upd (upd (upd (upd (Z57 g e ow) 9 (.pt 2 0)) 10 (.i (j : Int))) 16 (.sl 1 0 1)) 17 (.i 1)) 18 (.i 0)) 26 (.i ((tnK d c e ow g r tr en ps 0).length : Int))) 27 (.i (j : Int))) (updO (updO (updO (Z59 m c p d cn) 2 (.live ⟨[.i r, .i tr, .i en, .sl 3 0 ((tnK d c e ow g r tr en ps j).length)], 47, 1⟩)) 3 (.live ⟨(enc eU8 (tnK d c e ow g r tr en ps j)), 5, 1⟩)) 3 (.live ⟨(enc eU8 ((tnK d c e ow g r tr en ps j).set j (tnP d c e ow g (⟨r, tr, en, (tnK d c e ow g r tr en ps j)⟩ : Lk) j : Int))), 5, 1⟩)) ?_
   refine regR ?_
   refine oG (qB (.int .i64 ((j + 1 : Nat) : Int)) (addN om) ?_)
   refine mG (.i ((j + 1 : Nat) : Int)) ?_
   refine op0 ?_
   show _ ∧ _
   refine ⟨by omega, trivial, ?_⟩
   exact iL [(0, 0), (1, 1), (2, 2), (3, 3)] [((0, 0), .live _), ((1, 1), .live _), ((2, 2), .live _), ((3, 3), .live _)] ⟨row_map (o := (Z55 m c p d cn)) rfl (om_ (lm_cons (am_no (a := .one)) (lm_cons (am_no (a := .q eSec m)) (lm_cons (am_no (a := .q eIL c)) (lm_cons (am_no (a := .q ePnt p)) (lm_cons (am_no (a := .q eIL d)) (lm_cons (am_no (a := .one)) (lm_cons (am_no (a := .one)) (lm_cons (am_no (a := .one)) (lm_cons (am_no (a := .i cn)) (lm_cons (am_no (a := .one)) (lm_cons (am_no (a := .rp (Z56 m c p))) (lm_cons rfl lm_nil))))))))))))) (oks_cons (ok_no (a := .one)) (oks_cons (ok_no (a := .q eSec m)) (oks_cons (ok_no (a := .q eIL c)) (oks_cons (ok_no (a := .q ePnt p)) (oks_cons (ok_no (a := .q eIL d)) (oks_cons (ok_no (a := .one)) (oks_cons (ok_no (a := .one)) (oks_cons (ok_no (a := .one)) (oks_cons (ok_no (a := .i cn)) (oks_cons (ok_no (a := .one)) (oks_cons (ok_no (a := .rp (Z56 m c p))) (oks_cons (.sl _ _ _ (by simp)) oks_nil)))))))))))), row_map (o := ⟨[.pt 2 0], 69, 1⟩) rfl (om_ (lm_cons rfl lm_nil)) (oks_cons (.pt _ _ (by simp)) oks_nil), row_map (o := ⟨[.i r, .i tr, .i en, .sl 3 0 ((tnK d c e ow g r tr en ps j).length)], 47, 1⟩) rfl (congrArg (fun n_ : Nat => LObj.mk [.i r, .i tr, .i en, .sl 3 0 n_] 47 1) (hlj.trans hlj1.symm)) (oks_cons (ok_no (a := .i r)) (oks_cons (ok_no (a := .i tr)) (oks_cons (ok_no (a := .i en)) (oks_cons (.sl _ _ _ (by simp)) oks_nil)))), row_no rfl (by exact congrArg (fun l_ => LObj.mk (enc eU8 l_) 5 1) rfl), trivial⟩
  have hf2 := of_decide_eq_false hc2
  have hjl : j = ps.length := by omega
  refine awp_exit ?_
  refine regR ?_
  refine oG (qB (.int .i64 (0 + 1)) (addI om) ?_)
  refine mG (.i (0 + 1)) ?_
  refine op0 ?_
  show _ ∧ _
  refine ⟨by omega, trivial, ?_⟩
  exact iL [(0, 0), (1, 1), (2, 2), (3, 3)] [((0, 0), .live _), ((1, 1), .live _), ((2, 2), .live _), ((3, 3), .live _)] ⟨row_map (o := (Z55 m c p d cn)) rfl (om_ (lm_cons (am_no (a := .one)) (lm_cons (am_no (a := .q eSec m)) (lm_cons (am_no (a := .q eIL c)) (lm_cons (am_no (a := .q ePnt p)) (lm_cons (am_no (a := .q eIL d)) (lm_cons (am_no (a := .one)) (lm_cons (am_no (a := .one)) (lm_cons (am_no (a := .one)) (lm_cons (am_no (a := .i cn)) (lm_cons (am_no (a := .one)) (lm_cons (am_no (a := .rp (Z56 m c p))) (lm_cons rfl lm_nil))))))))))))) (oks_cons (ok_no (a := .one)) (oks_cons (ok_no (a := .q eSec m)) (oks_cons (ok_no (a := .q eIL c)) (oks_cons (ok_no (a := .q ePnt p)) (oks_cons (ok_no (a := .q eIL d)) (oks_cons (ok_no (a := .one)) (oks_cons (ok_no (a := .one)) (oks_cons (ok_no (a := .one)) (oks_cons (ok_no (a := .i cn)) (oks_cons (ok_no (a := .one)) (oks_cons (ok_no (a := .rp (Z56 m c p))) (oks_cons (.sl _ _ _ (by simp)) oks_nil)))))))))))), row_map (o := ⟨[.pt 2 0], 69, 1⟩) rfl (om_ (lm_cons rfl lm_nil)) (oks_cons (.pt _ _ (by simp)) oks_nil), row_map (o := ⟨[.i r, .i tr, .i en, .sl 3 0 ((tnK d c e ow g r tr en ps j).length)], 47, 1⟩) rfl (congrArg (fun n_ : Nat => LObj.mk [.i r, .i tr, .i en, .sl 3 0 n_] 47 1) (by rw [hjl])) (oks_cons (ok_no (a := .i r)) (oks_cons (ok_no (a := .i tr)) (oks_cons (ok_no (a := .i en)) (oks_cons (.sl _ _ _ (by simp)) oks_nil)))), row_no rfl (by exact congrArg (fun l_ => LObj.mk (enc eU8 l_) 5 1) (by rw [hjl])), trivial⟩
 show AWP _ _ _ ⟨(upd (Z5c g e ow) 18 (.i 1)), (updO (updO (Z59 m c p d cn) 2 (.live (Z5a r tr en d c e ow g ps))) 3 (.live ⟨(enc eU8 (tnK d c e ow g r tr en ps ps.length)), 5, 1⟩))⟩ _
 refine seqR ?_
 refine bG ((.bool false)) ?_
 refine op0 ?_
 refine awp_seq ?_
 refine awp_cond false rfl rfl (fun h => by cases h) (fun _ => ?_)
 refine awp_exit ?_
 refine regR ?_
 refine mG (.pt 0 0) ?_
 refine mG (.pt 0 0) ?_
 refine oG (aop_nilCheck rfl rfl rfl rfl rfl ?_)
 refine fG (.pt 0 11) ft65_2 sz63 ?_
 refine oG (qL (.sl 1 0 1) ag63 ?_)
 refine oG (callG_ false [1, 2, 3] [] (delLd r tr en (tnK d c e ow g r tr en ps ps.length) (by have := hln ps.length; omega) ha) rfl rfl rfl rfl rfl bd37 (by decide) ⟨giv_map (o := ⟨[.pt 2 0], 69, 1⟩) rfl (om_ (lm_cons rfl lm_nil)) (oks_cons (.pt _ _ (by simp)) oks_nil), giv_map (o := (Z5a r tr en d c e ow g ps)) rfl (om_ (lm_cons (am_no (a := .i r)) (lm_cons (am_no (a := .i tr)) (lm_cons (am_no (a := .i en)) (lm_cons rfl lm_nil))))) (oks_cons (ok_no (a := .i r)) (oks_cons (ok_no (a := .i tr)) (oks_cons (ok_no (a := .i en)) (oks_cons (.sl _ _ _ (by simp)) oks_nil)))), giv_no (o := ⟨(enc eU8 (tnK d c e ow g r tr en ps ps.length)), 5, 1⟩) rfl rfl, trivial⟩ ⟨(arg_own (.sl _ _ _ (by simp)) rfl), (arg_no (a := .fn 38 [])), trivial⟩ rfl trivial (fun h => by cases h) rfl (place_cons (ost_no (cs := [.v (.pointer none)])) (place_cons (ost_map (lm_cons (am_no (a := .i r)) (lm_cons (am_no (a := .i tr)) (lm_cons (am_no (a := .i en)) (lm_cons rfl lm_nil))))) (place_cons (ost_no (cs := (enc eU8 (tnK d c e ow g r tr en ps ps.length)))) place_nil))) ?_)
 refine oG (aop_nilCheck rfl rfl rfl rfl rfl ?_)
 refine fG (.pt 0 11) ft65_2 sz63 ?_
 refine oG (qS sz63 ?_)
 refine ops_imp (show Imp _ _ ⟨none_, (updO (updO (updO (updO noOb 0 (.live ⟨[.one, .q eSec m, .q eIL c, .q ePnt p, .q eIL d, .one, .one, .one, .i cn, .one, .rp (Z56 m c p), .sl 1 0 0], 65, 1⟩)) 1 (.live ⟨[.v (.pointer none)], 69, 1⟩)) 2 (.live (Z5a r tr en d c e ow g ps))) 3 (.live ⟨(enc eU8 (tnK d c e ow g r tr en ps ps.length)), 5, 1⟩))⟩ from ?_) (op0 ?_)
 ·skip
  exact iL [(0, 0), (1, 1), (2, 2), (3, 3)] [((0, 0), .live _), ((1, 1), .live _), ((2, 2), .live _), ((3, 3), .live _)] ⟨row_map (o := ⟨[.one, .q eSec m, .q eIL c, .q ePnt p, .q eIL d, .one, .one, .one, .i cn, .one, .rp (Z56 m c p), .sl 1 0 0], 65, 1⟩) rfl (om_ (lm_cons (am_no (a := .one)) (lm_cons (am_no (a := .q eSec m)) (lm_cons (am_no (a := .q eIL c)) (lm_cons (am_no (a := .q ePnt p)) (lm_cons (am_no (a := .q eIL d)) (lm_cons (am_no (a := .one)) (lm_cons (am_no (a := .one)) (lm_cons (am_no (a := .one)) (lm_cons (am_no (a := .i cn)) (lm_cons (am_no (a := .one)) (lm_cons (am_no (a := .rp (Z56 m c p))) (lm_cons rfl lm_nil))))))))))))) (oks_cons (ok_no (a := .one)) (oks_cons (ok_no (a := .q eSec m)) (oks_cons (ok_no (a := .q eIL c)) (oks_cons (ok_no (a := .q ePnt p)) (oks_cons (ok_no (a := .q eIL d)) (oks_cons (ok_no (a := .one)) (oks_cons (ok_no (a := .one)) (oks_cons (ok_no (a := .one)) (oks_cons (ok_no (a := .i cn)) (oks_cons (ok_no (a := .one)) (oks_cons (ok_no (a := .rp (Z56 m c p))) (oks_cons (.sl _ _ _ (by simp)) oks_nil)))))))))))), row_no (o := ⟨[.v (.pointer none)], 69, 1⟩) rfl rfl, row_map (o := (Z5a r tr en d c e ow g ps)) rfl (om_ (lm_cons (am_no (a := .i r)) (lm_cons (am_no (a := .i tr)) (lm_cons (am_no (a := .i en)) (lm_cons rfl lm_nil))))) (oks_cons (ok_no (a := .i r)) (oks_cons (ok_no (a := .i tr)) (oks_cons (ok_no (a := .i en)) (oks_cons (.sl _ _ _ (by simp)) oks_nil)))), row_no (o := ⟨(enc eU8 (tnK d c e ow g r tr en ps ps.length)), 5, 1⟩) rfl rfl, trivial⟩
 unfold retQG
 exact fretG rfl rfl rfl rfl
theorem bd25 : bodied Try.prog 25 = true := by kernel_rfl
theorem bd26 : bodied Try.prog 26 = true := by kernel_rfl
theorem bd27 : bodied Try.prog 27 = true := by kernel_rfl
theorem bd28 : bodied Try.prog 28 = true := by kernel_rfl
theorem bd29 : bodied Try.prog 29 = true := by kernel_rfl
theorem bd30 : bodied Try.prog 30 = true := by kernel_rfl
theorem bd33 : bodied Try.prog 33 = true := by kernel_rfl
theorem bd35 : bodied Try.prog 35 = true := by kernel_rfl
theorem bd58 : bodied Try.prog 58 = true := by kernel_rfl
theorem bd74 : bodied Try.prog 74 = true := by kernel_rfl
theorem in69 : (Try.prog.info? 69).map (fun i => (i.zero, i.size, i.bytes)) = some (some (.pointer none), 1, 8) := by kernel_rfl
theorem iz69 : (Try.prog.info? 69).map (fun i => (i.zero, i.size)) = some (some (.pointer none), 1) := by kernel_rfl
theorem sz38 : (Try.prog.info? 38).map (·.size) = some 1 := by kernel_rfl
theorem ut118 : Try.prog.underlying 118 = some (.int .u64) := by kernel_rfl
theorem ze38 : (Try.prog.info? 38).bind (·.zero) = some (.slice none 0 0) := by kernel_rfl
abbrev Z5g (n : Int) : Nat → AV := (upd (upd none_ 0 (.v (.int .u64 1))) 1 (.v (.int .u64 n)))
abbrev Z5f (n : Int) : Nat → AV := (upd (upd (Z5g n) 4 (.v (.int .u64 0))) 5 (.v (.int .u64 0)))
abbrev Z5d (n : Int) : Nat → AV := (upd (Z5f n) 6 (.v (.int .u64 (andI .u64 1 4294967295))))
abbrev Z5e (n : Int) : Nat → AV := (upd (Z5d n) 7 (.v (.int .u64 ((1 : Int).fdiv (2 ^ 32)))))
theorem b_Mul64 (n : Int) (hn : 0 ≤ n ∧ n ≤ 8) : Fn Try.prog 74 [.v (.int .u64 1), .v (.int .u64 n)] (.tup [.v (.int .u64 0), .v (.int .u64 n)]) := by
 have hc9 : n = 0 ∨ n = 1 ∨ n = 2 ∨ n = 3 ∨ n = 4 ∨ n = 5 ∨ n = 6 ∨ n = 7 ∨ n = 8 := by omega
 refine fnE_of_body (N := 51) Try.func74 rfl rfl (resOf2 rfl) (by simp) (fun w0 X hL_ => ?_)
 refine seqR ?_
 refine mG (.v (.int .u64 0)) ?_
 refine mG (.v (.int .u64 0)) ?_
 refine op0 ?_
 refine seqR ?_
 refine mG (.v (.int .u64 1)) ?_
 refine oG (aop_and rfl rfl rfl rfl rfl ?_)
 refine mG (.v (.int .u64 (andI .u64 1 4294967295))) ?_
 refine rU (Z5d n) noOb ?_
 refine seqR ?_
 refine mG (.v (.int .u64 1)) ?_
 refine oG (aop_shrK 32 rfl rfl rfl rfl rfl (by show _ ≤ 64; decide) ?_)
 refine mG (.v (.int .u64 ((1 : Int).fdiv (2 ^ 32)))) ?_
 refine op0 ?_
 refine seqR ?_
 refine mG (.v (.int .u64 n)) ?_
 refine oG (aop_and rfl rfl rfl rfl rfl ?_)
 refine mG (.v (.int .u64 (andI .u64 n 4294967295))) ?_
 refine rU (upd (Z5e n) 8 (.v (.int .u64 (andI .u64 n 4294967295)))) noOb ?_
 refine seqR ?_
 refine mG (.v (.int .u64 n)) ?_
 refine oG (aop_shrK 32 rfl rfl rfl rfl rfl (by show _ ≤ 64; decide) ?_)
 refine mG (.v (.int .u64 (n.fdiv (2 ^ 32)))) ?_
 refine op0 ?_
 refine seqR ?_
 refine mG (.v (.int .u64 (andI .u64 1 4294967295))) ?_
 refine mG (.v (.int .u64 (andI .u64 n 4294967295))) ?_
 refine bG ((.int .u64 (IntKind.u64.wrap ((andI .u64 1 4294967295) * (andI .u64 n 4294967295))))) ?_
 refine mG (.v (.int .u64 (IntKind.u64.wrap ((andI .u64 1 4294967295) * (andI .u64 n 4294967295))))) ?_
 refine rU (upd (upd (upd (Z5e n) 8 (.v (.int .u64 (andI .u64 n 4294967295)))) 9 (.v (.int .u64 (n.fdiv (2 ^ 32))))) 10 (.v (.int .u64 (IntKind.u64.wrap ((andI .u64 1 4294967295) * (andI .u64 n 4294967295)))))) noOb ?_
 refine seqR ?_
 refine mG (.v (.int .u64 ((1 : Int).fdiv (2 ^ 32)))) ?_
 refine mG (.v (.int .u64 (andI .u64 n 4294967295))) ?_
 refine bG ((.int .u64 (IntKind.u64.wrap (((1 : Int).fdiv (2 ^ 32)) * (andI .u64 n 4294967295))))) ?_
 refine mG (.v (.int .u64 (IntKind.u64.wrap ((andI .u64 1 4294967295) * (andI .u64 n 4294967295))))) ?_
 refine oG (aop_shrK 32 rfl rfl rfl rfl rfl (by show _ ≤ 64; decide) ?_)
 refine bG ((.int .u64 (IntKind.u64.wrap ((IntKind.u64.wrap (((1 : Int).fdiv (2 ^ 32)) * (andI .u64 n 4294967295))) + ((IntKind.u64.wrap ((andI .u64 1 4294967295) * (andI .u64 n 4294967295))).fdiv (2 ^ 32)))))) ?_
 refine mG (.v (.int .u64 (IntKind.u64.wrap ((IntKind.u64.wrap (((1 : Int).fdiv (2 ^ 32)) * (andI .u64 n 4294967295))) + ((IntKind.u64.wrap ((andI .u64 1 4294967295) * (andI .u64 n 4294967295))).fdiv (2 ^ 32)))))) ?_
 refine rU (upd (upd (Z5e n) 9 (.v (.int .u64 (n.fdiv (2 ^ 32))))) 11 (.v (.int .u64 (IntKind.u64.wrap ((IntKind.u64.wrap (((1 : Int).fdiv (2 ^ 32)) * (andI .u64 n 4294967295))) + ((IntKind.u64.wrap ((andI .u64 1 4294967295) * (andI .u64 n 4294967295))).fdiv (2 ^ 32))))))) noOb ?_
 refine seqR ?_
 refine mG (.v (.int .u64 (IntKind.u64.wrap ((IntKind.u64.wrap (((1 : Int).fdiv (2 ^ 32)) * (andI .u64 n 4294967295))) + ((IntKind.u64.wrap ((andI .u64 1 4294967295) * (andI .u64 n 4294967295))).fdiv (2 ^ 32)))))) ?_
 refine oG (aop_and rfl rfl rfl rfl rfl ?_)
 refine mG (.v (.int .u64 (andI .u64 (IntKind.u64.wrap ((IntKind.u64.wrap (((1 : Int).fdiv (2 ^ 32)) * (andI .u64 n 4294967295))) + ((IntKind.u64.wrap ((andI .u64 1 4294967295) * (andI .u64 n 4294967295))).fdiv (2 ^ 32)))) 4294967295))) ?_
 refine op0 ?_
 refine seqR ?_
 refine mG (.v (.int .u64 (IntKind.u64.wrap ((IntKind.u64.wrap (((1 : Int).fdiv (2 ^ 32)) * (andI .u64 n 4294967295))) + ((IntKind.u64.wrap ((andI .u64 1 4294967295) * (andI .u64 n 4294967295))).fdiv (2 ^ 32)))))) ?_
 refine oG (aop_shrK 32 rfl rfl rfl rfl rfl (by show _ ≤ 64; decide) ?_)
 refine mG (.v (.int .u64 ((IntKind.u64.wrap ((IntKind.u64.wrap (((1 : Int).fdiv (2 ^ 32)) * (andI .u64 n 4294967295))) + ((IntKind.u64.wrap ((andI .u64 1 4294967295) * (andI .u64 n 4294967295))).fdiv (2 ^ 32)))).fdiv (2 ^ 32)))) ?_
 refine rU (upd (upd (upd (Z5e n) 9 (.v (.int .u64 (n.fdiv (2 ^ 32))))) 12 (.v (.int .u64 (andI .u64 (IntKind.u64.wrap ((IntKind.u64.wrap (((1 : Int).fdiv (2 ^ 32)) * (andI .u64 n 4294967295))) + ((IntKind.u64.wrap ((andI .u64 1 4294967295) * (andI .u64 n 4294967295))).fdiv (2 ^ 32)))) 4294967295)))) 13 (.v (.int .u64 ((IntKind.u64.wrap ((IntKind.u64.wrap (((1 : Int).fdiv (2 ^ 32)) * (andI .u64 n 4294967295))) + ((IntKind.u64.wrap ((andI .u64 1 4294967295) * (andI .u64 n 4294967295))).fdiv (2 ^ 32)))).fdiv (2 ^ 32))))) noOb ?_
 refine seqR ?_
 refine mG (.v (.int .u64 (andI .u64 (IntKind.u64.wrap ((IntKind.u64.wrap (((1 : Int).fdiv (2 ^ 32)) * (andI .u64 n 4294967295))) + ((IntKind.u64.wrap ((andI .u64 1 4294967295) * (andI .u64 n 4294967295))).fdiv (2 ^ 32)))) 4294967295))) ?_
 refine mG (.v (.int .u64 (andI .u64 1 4294967295))) ?_
 refine mG (.v (.int .u64 (n.fdiv (2 ^ 32)))) ?_
 refine bG ((.int .u64 (IntKind.u64.wrap ((andI .u64 1 4294967295) * (n.fdiv (2 ^ 32)))))) ?_
 refine bG ((.int .u64 (IntKind.u64.wrap ((andI .u64 (IntKind.u64.wrap ((IntKind.u64.wrap (((1 : Int).fdiv (2 ^ 32)) * (andI .u64 n 4294967295))) + ((IntKind.u64.wrap ((andI .u64 1 4294967295) * (andI .u64 n 4294967295))).fdiv (2 ^ 32)))) 4294967295) + (IntKind.u64.wrap ((andI .u64 1 4294967295) * (n.fdiv (2 ^ 32)))))))) ?_
 refine mG (.v (.int .u64 (IntKind.u64.wrap ((andI .u64 (IntKind.u64.wrap ((IntKind.u64.wrap (((1 : Int).fdiv (2 ^ 32)) * (andI .u64 n 4294967295))) + ((IntKind.u64.wrap ((andI .u64 1 4294967295) * (andI .u64 n 4294967295))).fdiv (2 ^ 32)))) 4294967295) + (IntKind.u64.wrap ((andI .u64 1 4294967295) * (n.fdiv (2 ^ 32)))))))) ?_
 refine rU (upd (upd (upd (upd (Z5f n) 7 (.v (.int .u64 ((1 : Int).fdiv (2 ^ 32))))) 9 (.v (.int .u64 (n.fdiv (2 ^ 32))))) 12 (.v (.int .u64 (IntKind.u64.wrap ((andI .u64 (IntKind.u64.wrap ((IntKind.u64.wrap (((1 : Int).fdiv (2 ^ 32)) * (andI .u64 n 4294967295))) + ((IntKind.u64.wrap ((andI .u64 1 4294967295) * (andI .u64 n 4294967295))).fdiv (2 ^ 32)))) 4294967295) + (IntKind.u64.wrap ((andI .u64 1 4294967295) * (n.fdiv (2 ^ 32))))))))) 13 (.v (.int .u64 ((IntKind.u64.wrap ((IntKind.u64.wrap (((1 : Int).fdiv (2 ^ 32)) * (andI .u64 n 4294967295))) + ((IntKind.u64.wrap ((andI .u64 1 4294967295) * (andI .u64 n 4294967295))).fdiv (2 ^ 32)))).fdiv (2 ^ 32))))) noOb ?_
 refine seqR ?_
 refine mG (.v (.int .u64 ((1 : Int).fdiv (2 ^ 32)))) ?_
 refine mG (.v (.int .u64 (n.fdiv (2 ^ 32)))) ?_
 refine bG ((.int .u64 (IntKind.u64.wrap (((1 : Int).fdiv (2 ^ 32)) * (n.fdiv (2 ^ 32)))))) ?_
 refine mG (.v (.int .u64 ((IntKind.u64.wrap ((IntKind.u64.wrap (((1 : Int).fdiv (2 ^ 32)) * (andI .u64 n 4294967295))) + ((IntKind.u64.wrap ((andI .u64 1 4294967295) * (andI .u64 n 4294967295))).fdiv (2 ^ 32)))).fdiv (2 ^ 32)))) ?_
 refine bG ((.int .u64 (IntKind.u64.wrap ((IntKind.u64.wrap (((1 : Int).fdiv (2 ^ 32)) * (n.fdiv (2 ^ 32)))) + ((IntKind.u64.wrap ((IntKind.u64.wrap (((1 : Int).fdiv (2 ^ 32)) * (andI .u64 n 4294967295))) + ((IntKind.u64.wrap ((andI .u64 1 4294967295) * (andI .u64 n 4294967295))).fdiv (2 ^ 32)))).fdiv (2 ^ 32)))))) ?_
 refine mG (.v (.int .u64 (IntKind.u64.wrap ((andI .u64 (IntKind.u64.wrap ((IntKind.u64.wrap (((1 : Int).fdiv (2 ^ 32)) * (andI .u64 n 4294967295))) + ((IntKind.u64.wrap ((andI .u64 1 4294967295) * (andI .u64 n 4294967295))).fdiv (2 ^ 32)))) 4294967295) + (IntKind.u64.wrap ((andI .u64 1 4294967295) * (n.fdiv (2 ^ 32)))))))) ?_
 refine oG (aop_shrK 32 rfl rfl rfl rfl rfl (by show _ ≤ 64; decide) ?_)
 refine bG ((.int .u64 (IntKind.u64.wrap ((IntKind.u64.wrap ((IntKind.u64.wrap (((1 : Int).fdiv (2 ^ 32)) * (n.fdiv (2 ^ 32)))) + ((IntKind.u64.wrap ((IntKind.u64.wrap (((1 : Int).fdiv (2 ^ 32)) * (andI .u64 n 4294967295))) + ((IntKind.u64.wrap ((andI .u64 1 4294967295) * (andI .u64 n 4294967295))).fdiv (2 ^ 32)))).fdiv (2 ^ 32)))) + ((IntKind.u64.wrap ((andI .u64 (IntKind.u64.wrap ((IntKind.u64.wrap (((1 : Int).fdiv (2 ^ 32)) * (andI .u64 n 4294967295))) + ((IntKind.u64.wrap ((andI .u64 1 4294967295) * (andI .u64 n 4294967295))).fdiv (2 ^ 32)))) 4294967295) + (IntKind.u64.wrap ((andI .u64 1 4294967295) * (n.fdiv (2 ^ 32)))))).fdiv (2 ^ 32)))))) ?_
 refine mG (.v (.int .u64 (IntKind.u64.wrap ((IntKind.u64.wrap ((IntKind.u64.wrap (((1 : Int).fdiv (2 ^ 32)) * (n.fdiv (2 ^ 32)))) + ((IntKind.u64.wrap ((IntKind.u64.wrap (((1 : Int).fdiv (2 ^ 32)) * (andI .u64 n 4294967295))) + ((IntKind.u64.wrap ((andI .u64 1 4294967295) * (andI .u64 n 4294967295))).fdiv (2 ^ 32)))).fdiv (2 ^ 32)))) + ((IntKind.u64.wrap ((andI .u64 (IntKind.u64.wrap ((IntKind.u64.wrap (((1 : Int).fdiv (2 ^ 32)) * (andI .u64 n 4294967295))) + ((IntKind.u64.wrap ((andI .u64 1 4294967295) * (andI .u64 n 4294967295))).fdiv (2 ^ 32)))) 4294967295) + (IntKind.u64.wrap ((andI .u64 1 4294967295) * (n.fdiv (2 ^ 32)))))).fdiv (2 ^ 32)))))) ?_
 refine rU (upd (upd (Z5g n) 4 (.v (.int .u64 (IntKind.u64.wrap ((IntKind.u64.wrap ((IntKind.u64.wrap (((1 : Int).fdiv (2 ^ 32)) * (n.fdiv (2 ^ 32)))) + ((IntKind.u64.wrap ((IntKind.u64.wrap (((1 : Int).fdiv (2 ^ 32)) * (andI .u64 n 4294967295))) + ((IntKind.u64.wrap ((andI .u64 1 4294967295) * (andI .u64 n 4294967295))).fdiv (2 ^ 32)))).fdiv (2 ^ 32)))) + ((IntKind.u64.wrap ((andI .u64 (IntKind.u64.wrap ((IntKind.u64.wrap (((1 : Int).fdiv (2 ^ 32)) * (andI .u64 n 4294967295))) + ((IntKind.u64.wrap ((andI .u64 1 4294967295) * (andI .u64 n 4294967295))).fdiv (2 ^ 32)))) 4294967295) + (IntKind.u64.wrap ((andI .u64 1 4294967295) * (n.fdiv (2 ^ 32)))))).fdiv (2 ^ 32))))))) 5 (.v (.int .u64 0))) noOb ?_
 refine seqR ?_
 refine mG (.v (.int .u64 1)) ?_
 refine mG (.v (.int .u64 n)) ?_
 refine bG ((.int .u64 (IntKind.u64.wrap (1 * n)))) ?_
 refine mG (.v (.int .u64 (IntKind.u64.wrap (1 * n)))) ?_
 refine rU (upd (upd none_ 4 (.v (.int .u64 (IntKind.u64.wrap ((IntKind.u64.wrap ((IntKind.u64.wrap (((1 : Int).fdiv (2 ^ 32)) * (n.fdiv (2 ^ 32)))) + ((IntKind.u64.wrap ((IntKind.u64.wrap (((1 : Int).fdiv (2 ^ 32)) * (andI .u64 n 4294967295))) + ((IntKind.u64.wrap ((andI .u64 1 4294967295) * (andI .u64 n 4294967295))).fdiv (2 ^ 32)))).fdiv (2 ^ 32)))) + ((IntKind.u64.wrap ((andI .u64 (IntKind.u64.wrap ((IntKind.u64.wrap (((1 : Int).fdiv (2 ^ 32)) * (andI .u64 n 4294967295))) + ((IntKind.u64.wrap ((andI .u64 1 4294967295) * (andI .u64 n 4294967295))).fdiv (2 ^ 32)))) 4294967295) + (IntKind.u64.wrap ((andI .u64 1 4294967295) * (n.fdiv (2 ^ 32)))))).fdiv (2 ^ 32))))))) 5 (.v (.int .u64 (IntKind.u64.wrap (1 * n))))) noOb ?_
 refine awp_ret ?_
 exact fret (av := .tup [.v (.int .u64 (IntKind.u64.wrap ((IntKind.u64.wrap ((IntKind.u64.wrap (((1 : Int).fdiv (2 ^ 32)) * (n.fdiv (2 ^ 32)))) + ((IntKind.u64.wrap ((IntKind.u64.wrap (((1 : Int).fdiv (2 ^ 32)) * (andI .u64 n 4294967295))) + ((IntKind.u64.wrap ((andI .u64 1 4294967295) * (andI .u64 n 4294967295))).fdiv (2 ^ 32)))).fdiv (2 ^ 32)))) + ((IntKind.u64.wrap ((andI .u64 (IntKind.u64.wrap ((IntKind.u64.wrap (((1 : Int).fdiv (2 ^ 32)) * (andI .u64 n 4294967295))) + ((IntKind.u64.wrap ((andI .u64 1 4294967295) * (andI .u64 n 4294967295))).fdiv (2 ^ 32)))) 4294967295) + (IntKind.u64.wrap ((andI .u64 1 4294967295) * (n.fdiv (2 ^ 32)))))).fdiv (2 ^ 32))))), .v (.int .u64 (IntKind.u64.wrap (1 * n)))]) rfl rfl (by rcases hc9 with rfl | rfl | rfl | rfl | rfl | rfl | rfl | rfl | rfl <;> rfl)
theorem b_Mul (n : Int) (hn : 0 ≤ n ∧ n ≤ 8) : Fn Try.prog 58 [.v (.int .u64 1), .v (.int .u64 n)] (.tup [.v (.int .u64 0), .v (.int .u64 n)]) := by
 refine fnE_of_body (N := 30) Try.func58 rfl rfl (resOf2 rfl) (by simp) (fun w0 X hL_ => ?_)
 refine seqR ?_
 refine mG (.v (.int .u64 0)) ?_
 refine mG (.v (.int .u64 0)) ?_
 refine op0 ?_
 refine awp_seq ?_
 refine awp_cond false rfl rfl (fun h => by cases h) (fun _ => ?_)
 refine awp_skip ?_
 refine seqR ?_
 refine mG (.v (.int .u64 1)) ?_
 refine mG (.v (.int .u64 n)) ?_
 refine oG (qJ (b_Mul64 n oo) bd74 ?_)
 refine mG (.tup [.v (.int .u64 0), .v (.int .u64 n)]) ?_
 refine oG (qE ?_)
 refine oG (qE ?_)
 refine mG (.v (.int .u64 0)) ?_
 refine mG (.v (.int .u64 n)) ?_
 refine rU (upd (upd (upd (upd none_ 4 (.v (.int .u64 0))) 5 (.v (.int .u64 0))) 8 (.v (.int .u64 0))) 9 (.v (.int .u64 n))) noOb ?_
 refine seqR ?_
 refine mG (.v (.int .u64 0)) ?_
 refine mG (.v (.int .u64 n)) ?_
 refine mG (.v (.int .u64 0)) ?_
 refine mG (.v (.int .u64 n)) ?_
 refine rU (upd (upd none_ 4 (.v (.int .u64 0))) 5 (.v (.int .u64 n))) noOb ?_
 refine awp_ret ?_
 exact fret (av := .tup [.v (.int .u64 0), .v (.int .u64 n)]) rfl rfl rfl
abbrev Z5k (n : Nat) : Nat → OSt := (updO noOb 51 (.live ⟨(enc eU8 (List.replicate n (0 : Int))), 5, 1⟩))
abbrev Z5j (n k : Nat) : LObj := ⟨(enc eU8 (rpU 1 n (pw n (k + 1)))), 5, 1⟩
abbrev Z5i : AV := (.ro 1 [.v (.int .u8 1)])
abbrev Z5h (n k : Nat) : Nat → OSt := (updO noOb 1 (.live ⟨(enc eU8 (rpU 1 n (pw n k))), 5, 1⟩))
theorem sl_RepU (n : Nat) (hn : 1 ≤ n ∧ n ≤ 8) : FnO Try.prog 33 [.ro 1 [.v (.int .u8 1)], .v (.int .i64 (n : Int))] (.sl 0 0 n) [⟨(enc eU8 (List.replicate n 1)), 5, 1⟩] := by
 refine fnE_of_body (N := 48) Try.func33 rfl rfl (resOf1 rfl) (by simp) (fun w0 X hL_ => ?_)
 refine seqR ?_
 refine mG vN ?_
 refine op0 ?_
 refine awp_seq ?_
 refine seqR ?_
 refine mG (.i (n : Int)) ?_
 refine bG ((.bool (decide ((n : Int) < 0)))) ?_
 refine op0 ?_
 refine awp_cond (decide ((n : Int) < 0)) rfl rfl (fun hc0 => ?_) (fun hc0 => ?_)
 ·skip
  have hf1 := of_decide_eq_true hc0
  exfalso; simp at hc0; omega
 have hf2 := of_decide_eq_false hc0
 refine awp_skip ?_
 refine seqR ?_
 refine mG Z5i ?_
 refine oG (qN ut37 ?_)
 refine oG (aop_conv' rfl rfl rfl ut3 ut118 rfl rfl ?_)
 refine mG (.i (n : Int)) ?_
 refine oG (aop_conv' rfl rfl rfl ut3 ut118 rfl (u64_in om) ?_)
 refine oG (qJ (b_Mul (n : Int) oo) bd58 ?_)
 refine mG (.tup [.v (.int .u64 0), .v (.int .u64 (n : Int))]) ?_
 refine oG (qE ?_)
 refine oG (qE ?_)
 refine mG (.v (.int .u64 0)) ?_
 refine mG (.v (.int .u64 (n : Int))) ?_
 refine rU (upd (upd (upd (upd none_ 0 Z5i) 4 vN) 5 (.v (.int .u64 0))) 6 (.v (.int .u64 (n : Int)))) noOb ?_
 refine awp_seq ?_
 refine seqR ?_
 refine mG (.v (.int .u64 0)) ?_
 refine bG ((.bool (decide ((0 : Int) > 0)))) ?_
 refine mG (.b (decide ((0 : Int) > 0))) ?_
 refine aops_grp 3 26 (.b ((decide ((0 : Int) > 0)) || (decide ((n : Int) > 9223372036854775807)))) ?_ ?_
 ·refine (Bool.eq_false_or_eq_true (decide ((0 : Int) > 0))).elim (fun hg3 => ?_) (fun hg3 => ?_)
  ·skip
   have hf4 := of_decide_eq_true hg3
   refine nG hg3 ?_
   refine nG hg3 ?_
   refine oG (qP (decide ((0 : Int) > 0)) (.b true) hg3 ?_)
   refine op0 ?_
   exact imp_env (lee_both 26 _ _ (by rw [hg3] <;> rfl) lO)
  have hf5 := of_decide_eq_false hg3
  refine oY hg3 (qM (.v (.int .u64 (n : Int))) ?_)
  refine oY hg3 (qB (.bool (decide ((n : Int) > 9223372036854775807))) rfl ?_)
  refine oG (qP (decide ((0 : Int) > 0)) (.b (decide ((n : Int) > 9223372036854775807))) hg3 ?_)
  refine op0 ?_
  exact imp_env (lee_both 26 _ _ (by rw [hg3] <;> rfl) lO)
 refine op0 ?_
 refine awp_cond ((decide ((0 : Int) > 0)) || (decide ((n : Int) > 9223372036854775807))) rfl rfl (fun hc1 => ?_) (fun hc1 => ?_)
 ·skip
  exfalso; simp at hc1; omega
 obtain ⟨hf6a, hf6b⟩ := or_f hc1
 have hf7 := of_decide_eq_false hf6a
 have hf8 := of_decide_eq_false hf6b
 refine awp_skip ?_
 refine seqR ?_
 refine mG (.v (.int .u64 (n : Int))) ?_
 refine oG (aop_conv' rfl rfl rfl ut118 ut3 rfl (IntWalk.i64_in _ om) ?_)
 refine oG (aop_makeE (n := n) (f := eU8) 51 (0 : Int) rfl rfl rfl ut37 in5 rfl rfl rfl rfl om om rfl rfl ?_)
 refine mG (.sl 51 0 ((List.replicate n (0 : Int)).length)) ?_
 refine rU (upd (upd (upd none_ 0 Z5i) 4 vN) 7 (.sl 51 0 ((List.replicate n (0 : Int)).length))) (Z5k n) ?_
 refine seqR ?_
 refine mG (.sl 51 0 ((List.replicate n (0 : Int)).length)) ?_
 refine mG Z5i ?_
 refine oG (aop_copy (k := 1) (cs := [.v (.int .u8 1)]) (cells' := enc eU8 (rpU 1 n 1)) rfl rfl rfl rfl ut37 sz5 rfl rfl (src_ro (1) rfl rfl rfl (by decide)) (by show min 1 _ = 1; simp; omega) rfl (by simp; omega) (by rw [enc_length (s := 1) (fun _ => rfl)]; simp; omega) (by rw [← rpU_zero 1]; exact rpU_spl (j := 0) (i := 1) om) ?_)
 refine mG (.i ((1 : Nat) : Int)) ?_
 refine rU (upd (upd (upd none_ 4 vN) 7 (.sl 51 0 ((List.replicate n (0 : Int)).length))) 8 (.i ((1 : Nat) : Int))) (updO (Z5k n) 51 (.live ⟨(enc eU8 (rpU 1 n 1)), 5, 1⟩)) ?_
 refine awp_seq ?_
 refine awp_block ?_
 refine awp_countI (fun k => ⟨(upd (upd (upd none_ 4 vN) 7 (.sl 1 0 n)) 8 (.i ((pw n k : Nat) : Int))), (Z5h n k)⟩) (fun k => True) (8) ?_ trivial (fun k hk_k hinv => ?_)
 ·skip
  have hp0 := pw_facts n 0 hn.1
  have hpz : pw n 0 = 1 := by simp [pw]; omega
  exact iI 51 1 rfl (he := (sS (by exact congrArg (fun n_ : Int => AV.v (.int .i64 n_)) (by rw [hpz])) (sM (by exact congrArg (AV.sl 1 0) (by simp)) (sS rfl sr_none)))) (hoo := (by exact congrArg (fun l_ => LObj.mk (enc eU8 l_) 5 1) (by rw [hpz])))
 have hpf := pw_facts n k hn.1
 refine awp_seq ?_
 refine seqR ?_
 refine mG (.i ((pw n k : Nat) : Int)) ?_
 refine mG (.sl 1 0 n) ?_
 refine oG (aop_len rfl rfl rfl rfl ut37 (len_sl rfl) ?_)
 refine bG ((.bool (decide (((pw n k : Nat) : Int) < (n : Int))))) ?_
 refine rU (upd (upd (upd (upd none_ 4 vN) 7 (.sl 1 0 n)) 8 (.i ((pw n k : Nat) : Int))) 37 (.b (decide (((pw n k : Nat) : Int) < (n : Int))))) (Z5h n k) ?_
 refine awp_cond (decide (((pw n k : Nat) : Int) < (n : Int))) rfl rfl (fun hc2 => ?_) (fun hc2 => ?_)
 ·skip
  have hf9 := of_decide_eq_true hc2
  refine awp_skip ?_
  refine awp_block ?_
  refine awp_drawZ (m := 8) (fun b => (updO noOb 1 (cond (b 7) (.live (Z5j n k)) (.live ⟨(enc eU8 (rpU 1 n (pw n k))), 5, 1⟩)))) (updO noOb 1 (.live (Z5j n k))) [7] (funext fun id_ => by by_cases e0_ : id_ = 1 <;> first | (subst e0_; rfl) | simp only [addO, updO, nbeq_ne e0_, cond_false]) (fun b b' h => by simp only [h 7 (by decide)]) (fun b h => by simp only [h 7 (by decide), cond_true]) [(45, .i ((min (pw n k) (n - pw n k) : Nat) : Int)), (44, .sl 1 0 (pw n k)), (43, .i ((pw n k : Nat) : Int)), (42, .sl 1 0 n), (41, .sl 1 (0 + (pw n k) * 1) (n - (pw n k))), (40, .i ((pw n k : Nat) : Int)), (39, .sl 1 0 n), (38, .i ((pw n k : Nat) : Int))] mixed (by kernel_rfl) ?_ ?_
  ·refine ⟨?_, ?_, ?_, ?_, ?_, ?_, ?_, ?_, trivial⟩
   ·exact sy_pure (by decide) (fun b => dW 38 fun st hob hE => aop_move (av := .i ((pw n k : Nat) : Int)) (.inl rfl) rfl rfl (hE 8 rfl) (by rw [hob]; rfl))
   ·exact sy_pure (by decide) (fun b => dW 39 fun st hob hE => aop_move (av := .sl 1 0 n) (.inl rfl) rfl rfl (hE 7 rfl) (by rw [hob]; rfl))
   ·exact sy_pure (by decide) (fun b => dW 40 fun st hob hE => aop_move (av := .i ((pw n k : Nat) : Int)) (.inl rfl) rfl rfl (hE 8 rfl) (by rw [hob]; rfl))
   ·exact sy_pure (by decide) (fun b => dW 41 fun st hob hE => (by cases hq7_ : b 7 <;> exact aop_sliceFrom (l := pw n k)  rfl rfl rfl ut37 sz5 (hE 39 rfl) (by rw [hob]; first | rfl | (simp only [hq7_]; rfl)) (by rfl) ⟨_, (hE 40 rfl)⟩ oo (by rw [hob]; rfl)))
   ·exact sy_pure (by decide) (fun b => dW 42 fun st hob hE => aop_move (av := .sl 1 0 n) (.inl rfl) rfl rfl (hE 7 rfl) (by rw [hob]; rfl))
   ·exact sy_pure (by decide) (fun b => dW 43 fun st hob hE => aop_move (av := .i ((pw n k : Nat) : Int)) (.inl rfl) rfl rfl (hE 8 rfl) (by rw [hob]; rfl))
   ·exact sy_pure (by decide) (fun b => dW 44 fun st hob hE => aop_sliceOwn (hgh := pw n k) rfl rfl rfl ut37 sz5 (hE 42 rfl) ⟨_, (hE 43 rfl)⟩ oo (by rw [hob]; rfl))
   exact sy_fx (by decide) ⟨rfl, (fun d_ h_ => by cases h_ <;> exact blt_lt rfl), fun b hb_ hdep_ hcl_ st hob hE => by obtain ⟨en_, ob_⟩ := st; have hob_ : ob_ = (Z5h n k) := Eq.trans hob (by simp only [hb_, cond_false, cond_true]); subst hob_; exact aop_copy (k := min (pw n k) (n - pw n k)) (cs := (enc eU8 (List.replicate (min (pw n k) (n - pw n k)) 1))) (cells' := enc eU8 (rpU 1 n (pw n (k + 1)))) rfl rfl rfl rfl ut37 sz5 (hE 41 rfl) rfl (src_sl (min (pw n k) (n - pw n k) * 1) rfl (hE 44 rfl) rfl (rpU_take om) oo) rfl (by rw [enc_length (s := 1) (fun _ => rfl), List.length_replicate]) oo (by rw [enc_length (f := eU8) (s := 1) (fun _ => rfl), rpU_len om]; omega) (by rw [Nat.zero_add]; exact rpU_spl om) ⟨rfl, fun id_ => by by_cases e0_ : id_ = 1 <;> first | (subst e0_; rfl) | simp only [addO, updO, nbeq_ne e0_, cond_false]⟩⟩
  refine oG (qB (.int .i64 (((pw n k : Nat) : Int) + ((min (pw n k) (n - pw n k) : Nat) : Int))) (addI om) ?_)
  refine mG (.i (((pw n k : Nat) : Int) + ((min (pw n k) (n - pw n k) : Nat) : Int))) ?_
  refine op0 ?_
  show _ ∧ _
  refine ⟨by omega, trivial, ?_⟩
  exact iI 1 1 (o := (Z5j n k)) rfl (he := (sS (by exact congrArg (fun n_ : Int => AV.v (.int .i64 n_)) (by show (pw n k : Int) + _ = ((pw n k + _ : Nat) : Int); omega)) (sM rfl (sS rfl sr_none)))) (hoo := (by exact congrArg (fun l_ => LObj.mk (enc eU8 l_) 5 1) rfl))
 have hf10 := of_decide_eq_false hc2
 refine awp_exit ?_
 refine seqR ?_
 refine mG (.sl 1 0 n) ?_
 refine mG (.sl 1 0 n) ?_
 refine op0 ?_
 refine awp_ret ?_
 have he : rpU 1 n (pw n k) = List.replicate n 1 := by rw [show pw n k = n by omega, rpU_all]
 exact fretO 1 rfl rfl rfl rfl (congrArg (fun l_ => LObj.mk (enc eU8 l_) 5 1) he)
abbrev Z5o (a : List Pnt) : Nat → OSt := (updO noOb 51 (.live ⟨(enc eB (List.replicate a.length (false : Bool))), 4, 1⟩))
abbrev Z5m : AV := (.ro (([] : List Lk).length) (enc eLp []))
abbrev Z5l (a : List Pnt) : AV := (.rp [.one, .one, .one, .q ePnt a, .one, .one, .one, .one, .one, .one, .one, .ro (([] : List Lk).length) (enc eLp [])])
abbrev Z5n (a : List Pnt) : Nat → AV := (upd (upd (upd none_ 0 (Z5l a)) 2 vN) 3 (.sl 51 0 ((List.replicate a.length (false : Bool)).length)))
theorem r_HeldE (a : List Pnt) (hp : a.length ≤ 65536) : FnO Try.prog 29 [.rp [.one, .one, .one, .ro a.length (enc ePnt a), .one, .one, .one, .one, .one, .one, .one, .ro (([] : List Lk).length) (enc eLp [])]] (.sl 0 0 ((List.replicate a.length false).length)) [⟨(enc eB (List.replicate a.length false)), 4, 1⟩] := by
 have hrl : (List.replicate a.length false).length = a.length := List.length_replicate
 refine fnE_of_body (N := 75) Try.func29 rfl rfl (resOf1 rfl) (by simp) (fun w0 X hL_ => ?_)
 refine seqR ?_
 refine mG vN ?_
 refine op0 ?_
 refine awp_seq ?_
 refine seqR ?_
 refine mG (Z5l a) ?_
 refine oG (aop_ptNil rfl rfl rfl ut35 rfl rfl rfl (.inl ⟨rfl, rfl⟩) ?_)
 refine op0 ?_
 refine awp_cond false rfl rfl (fun h => by cases h) (fun _ => ?_)
 refine awp_skip ?_
 refine seqR ?_
 refine mG (Z5l a) ?_
 refine oG (aop_nilCheck rfl rfl rfl rfl rfl ?_)
 refine oG (qF (Z5l a) (Z5l a) ft65_0 sz33 ?_)
 refine oG (qF (Z5l a) (.rp [.q ePnt a, .one, .one, .one, .one, .one, .one, .one, .ro (([] : List Lk).length) (enc eLp [])]) ft33_3 sz31 ?_)
 refine oG (qL (.q ePnt a) ag31 ?_)
 refine oG (qN ut31 ?_)
 refine oG (aop_makeE (n := a.length) (f := eB) 51 (false : Bool) rfl rfl rfl ut38 in4 rfl rfl rfl rfl om om rfl rfl ?_)
 refine mG (.sl 51 0 ((List.replicate a.length (false : Bool)).length)) ?_
 refine rU (Z5n a) (Z5o a) ?_
 refine awp_seq ?_
 refine seqR ?_
 refine mG (Z5l a) ?_
 refine oG (aop_nilCheck rfl rfl rfl rfl rfl ?_)
 refine oG (qF (Z5l a) (.rp [.ro (([] : List Lk).length) (enc eLp [])]) ft65_2 sz63 ?_)
 refine oG (qL Z5m ag63 ?_)
 refine oG (qN ut63 ?_)
 refine mG (.i 0) ?_
 refine rU (upd (upd (upd (Z5n a) 22 Z5m) 23 (.i (([] : List Lk).length : Int))) 24 (.i 0)) (Z5o a) ?_
 refine awp_block ?_
 refine awp_countI (fun k => ⟨(upd (upd (upd (upd (upd (upd none_ 0 (Z5l a)) 2 vN) 3 (.sl 1 0 ((List.replicate a.length false).length))) 22 Z5m) 23 (.i (([] : List Lk).length : Int))) 24 (.i (k : Int))), (updO noOb 1 (.live ⟨(enc eB (List.replicate a.length false)), 4, 1⟩))⟩) (fun k => True) (([] : List Lk).length) ?_ trivial (fun k hk_k hinv => ?_)
 ·skip
  exact iI 51 1 rfl
 refine seqR ?_
 refine bG ((.bool (decide ((k : Int) < (([] : List Lk).length : Int))))) ?_
 refine op0 ?_
 refine awp_seq ?_
 refine awp_cond (decide ((k : Int) < (([] : List Lk).length : Int))) rfl rfl (fun hc1 => ?_) (fun hc1 => ?_)
 ·skip
  have hf1 := of_decide_eq_true hc1
  exfalso; have h9_ := of_decide_eq_true hc1; simp at h9_; omega
 have hf2 := of_decide_eq_false hc1
 refine awp_exit ?_
 refine seqR ?_
 refine mG (.sl 1 0 ((List.replicate a.length false).length)) ?_
 refine mG (.sl 1 0 ((List.replicate a.length false).length)) ?_
 refine op0 ?_
 refine awp_ret ?_
 exact fretO 1 rfl rfl rfl rfl rfl
abbrev Z5p (a : List Sec) (b : List (List Int)) (ls : List Lk) : AV := (.rp [.one, .q eSec a, .one, .one, .q eIL b, .one, .one, .one, .one, .one, .one, .q eLp ls])
theorem r_SecO (a : List Sec) (b : List (List Int)) (ls : List Lk) (hs : a.length ≤ 65536) (hro : b.length ≤ 65536) (hll : ls.length ≤ 65536) (hlk : ∀ x, x ∈ ls → LkP b x) : FnO Try.prog 28 [.rp [.one, .ro a.length (enc eSec a), .one, .one, .ro b.length (enc eIL b), .one, .one, .one, .one, .one, .one, .ro ls.length (enc eLp ls)]] (.sl 0 0 ((secsQ b ls a.length a.length).length)) [⟨(enc eB (secsQ b ls a.length a.length)), 4, 1⟩] := by
 have hrl : (List.replicate a.length false).length = a.length := List.length_replicate
 refine fnE_of_body (N := 28) Try.func28 rfl rfl (resOf1 rfl) (by simp) (fun w0 X hL_ => ?_)
 refine seqR ?_
 refine mG vN ?_
 refine op0 ?_
 refine awp_seq ?_
 refine seqR ?_
 refine mG (Z5p a b ls) ?_
 refine oG (aop_ptNil rfl rfl rfl ut35 rfl rfl rfl (.inl ⟨rfl, rfl⟩) ?_)
 refine op0 ?_
 refine awp_cond false rfl rfl (fun h => by cases h) (fun _ => ?_)
 refine awp_skip ?_
 refine seqR ?_
 refine mG (Z5p a b ls) ?_
 refine oG (aop_nilCheck rfl rfl rfl rfl rfl ?_)
 refine oG (qF (Z5p a b ls) (Z5p a b ls) ft65_0 sz33 ?_)
 refine oG (qF (Z5p a b ls) (.rp [.q eSec a, .one, .one, .q eIL b, .one, .one, .one, .one, .one, .one, .q eLp ls]) ft33_1 sz29 ?_)
 refine oG (qL (.q eSec a) ag29 ?_)
 refine oG (qN ut29 ?_)
 refine oG (aop_makeE (n := a.length) (f := eB) 51 (false : Bool) rfl rfl rfl ut38 in4 rfl rfl rfl rfl om om rfl rfl ?_)
 refine mG (.sl 51 0 ((List.replicate a.length (false : Bool)).length)) ?_
 refine rU (upd (upd (upd none_ 0 (Z5p a b ls)) 2 vN) 3 (.sl 51 0 ((List.replicate a.length (false : Bool)).length))) (updO noOb 51 (.live ⟨(enc eB (List.replicate a.length (false : Bool))), 4, 1⟩)) ?_
 refine awp_seq ?_
 refine seqR ?_
 refine mG (.sl 51 0 ((List.replicate a.length (false : Bool)).length)) ?_
 refine oG (aop_len rfl rfl rfl rfl ut38 (len_sl rfl) ?_)
 refine mG (.i 0) ?_
 refine op0 ?_
 refine awp_block ?_
 refine awp_countI (fun k => ⟨(upd (upd (upd (upd (upd none_ 0 (Z5p a b ls)) 2 vN) 3 (.sl 1 0 ((secsQ b ls a.length k).length))) 15 (.i ((List.replicate a.length (false : Bool)).length : Int))) 16 (.i (k : Int))), (updO noOb 1 (.live ⟨(enc eB (secsQ b ls a.length k)), 4, 1⟩))⟩) (fun k => True) (a.length) ?_ trivial (fun k hk_k hinv => ?_)
 ·skip
  exact iI 51 1 rfl (he := (sS rfl (sS rfl (sM (by exact congrArg (AV.sl 1 0) (by simp [secsQ])) (sS rfl (sS rfl sr_none)))))) (hoo := (by exact congrArg (fun l_ => LObj.mk (enc eB l_) 4 1) (by simp [secsQ])))
 have hsl := secs_len (routes := b) (ls := ls) (k := k) (n := a.length) om
 refine seqR ?_
 refine bG ((.bool (decide ((k : Int) < ((List.replicate a.length (false : Bool)).length : Int))))) ?_
 refine op0 ?_
 refine awp_seq ?_
 refine awp_cond (decide ((k : Int) < ((List.replicate a.length (false : Bool)).length : Int))) rfl rfl (fun hc1 => ?_) (fun hc1 => ?_)
 ·skip
  have hf1 := of_decide_eq_true hc1
  refine awp_skip ?_
  refine awp_seq ?_
  refine awp_block ?_
  refine seqR ?_
  refine mG (.i (k : Int)) ?_
  refine mG (.i (k : Int)) ?_
  refine op0 ?_
  refine regR ?_
  refine mG (.sl 1 0 ((secsQ b ls a.length k).length)) ?_
  refine mG (.i (k : Int)) ?_
  refine mG (Z5p a b ls) ?_
  refine mG (.i (k : Int)) ?_
  refine oG (qC (r_Whose b ls (k : Int) oo oo oo) bd13 ?_)
  refine bG ((.bool (decide ((whoQ b ls (k : Int)) ≥ 0)))) ?_
  refine oG (aop_ixO (k := k) rfl rfl rfl ut38 sz4 rfl rfl oo ?_)
  refine oG (aop_storeE (f := eB) (l := secsQ b ls a.length k) (l' := (secsQ b ls a.length k).set k (decide ((whoQ b ls (k : Int)) ≥ 0) : Bool)) (decide ((whoQ b ls (k : Int)) ≥ 0) : Bool) rfl rfl rfl sz4 rfl rfl rfl rfl rfl (fun _ => rfl) oo rfl rfl ?_)
  refine op0 ?_
  refine rT (upd (upd (upd (upd (upd (upd none_ 0 (Z5p a b ls)) 2 vN) 3 (.sl 1 0 ((secsQ b ls a.length k).length))) 4 (.i (k : Int))) 15 (.i ((List.replicate a.length (false : Bool)).length : Int))) 16 (.i (k : Int))) (updO (updO noOb 1 (.live ⟨(enc eB (secsQ b ls a.length k)), 4, 1⟩)) 1 (.live ⟨(enc eB ((secsQ b ls a.length k).set k (decide ((whoQ b ls (k : Int)) ≥ 0) : Bool))), 4, 1⟩)) ?_
  refine regR ?_
  refine oG (qB (.int .i64 ((k + 1 : Nat) : Int)) (addN om) ?_)
  refine mG (.i ((k + 1 : Nat) : Int)) ?_
  refine op0 ?_
  show _ ∧ _
  have hs_ := secs_step (routes := b) (ls := ls) (k := k) (n := a.length) om
  refine ⟨by omega, trivial, ?_⟩
  exact iI 1 1 rfl (he := (sS rfl (sS rfl (sM (by exact congrArg (AV.sl 1 0) (by rw [← hs_, List.length_set])) (sS rfl (sS rfl sr_none)))))) (hoo := (by exact congrArg (fun l_ => LObj.mk (enc eB l_) 4 1) hs_.symm))
 have hf2 := of_decide_eq_false hc1
 refine awp_exit ?_
 refine seqR ?_
 refine mG (.sl 1 0 ((secsQ b ls a.length k).length)) ?_
 refine mG (.sl 1 0 ((secsQ b ls a.length k).length)) ?_
 refine op0 ?_
 refine awp_ret ?_
 have he : secsQ b ls a.length k = secsQ b ls a.length a.length := by rw [show k = a.length by omega]
 exact fretO 1 rfl rfl rfl (congrArg List.length he) (congrArg (fun l_ => LObj.mk (enc eB l_) 4 1) he)
theorem r_piecesG (b : List Sec) (c : List (List Int)) (d : List Pnt) (a : List (List Int)) (cn : Int) (r : Int) (hro : a.length ≤ 65536) (hr : 0 ≤ r ∧ r < (a.length : Int)) (hp : 1 ≤ (a.getD r.toNat []).length) : FnGO Try.prog 34 [⟨[.one, .ro b.length (enc eSec b), .ro c.length (enc eIL c), .ro d.length (enc ePnt d), .ro a.length (enc eIL a), .one, .one, .one, .v (.int .i64 cn), .one, .rp [.one, .ro b.length (enc eSec b), .ro c.length (enc eIL c), .ro d.length (enc ePnt d), .one, .one, .one, .one, .one, .one], vN], 65, 1⟩] [.pt 0 0, .v (.int .i64 r)] (.ro ((pthR a r).length) (enc eI (pthR a r))) [.live ⟨[.one, .ro b.length (enc eSec b), .ro c.length (enc eIL c), .ro d.length (enc ePnt d), .ro a.length (enc eIL a), .one, .one, .one, .v (.int .i64 cn), .one, .rp [.one, .ro b.length (enc eSec b), .ro c.length (enc eIL c), .ro d.length (enc ePnt d), .one, .one, .one, .one, .one, .one], vN], 65, 1⟩] := by
 have hps : 1 ≤ (a[r.toNat]?.getD []).length := by rw [← List.getD_eq_getElem?_getD]; exact hp
 refine fnG_of_body (N := 14) 1 rfl Try.func34 rfl rfl (resOf1 rfl) (by simp) (fun w0 G C hL_ hLG_ => ?_)
 refine seqR ?_
 refine mG vN ?_
 refine op0 ?_
 refine seqR ?_
 refine mG (.pt 0 0) ?_
 refine oG (aop_nilCheck rfl rfl rfl rfl rfl ?_)
 refine fG (.pt 0 0) ft65_0 sz33 ?_
 refine fG (.pt 0 4) ft33_4 sz30 ?_
 refine oG (qL (.q eIL a) ag30 ?_)
 refine mG (.i r) ?_
 refine oG (aop_ixI [] rfl rfl rfl ut30 sz42 rfl rfl (fun _ => rfl) rfl om oo ?_)
 refine oG (qL (.q eI (a.getD r.toNat [])) ag42 ?_)
 refine oG (aop_sliceRoN (l := 1) (hgh := ((a.getD r.toNat []).length)) (cells' := enc eI ((a.getD r.toNat []).drop 1)) (((a.getD r.toNat []).drop 1)).length rfl rfl rfl ut42 sz3 rfl ⟨_, rfl⟩ rfl oo oo (sliceE1 (f := eI) (fun _ => rfl) _ _ _ rfl) oz ?_)
 refine mG (.q eI ((a.getD r.toNat []).drop 1)) ?_
 refine rU (upd none_ 4 (.q eI ((a.getD r.toNat []).drop 1))) (updO noOb 0 (.live ⟨[.one, .q eSec b, .q eIL c, .q ePnt d, .q eIL a, .one, .one, .one, .i cn, .one, .rp [.one, .q eSec b, .q eIL c, .q ePnt d, .one, .one, .one, .one, .one, .one], vN], 65, 1⟩)) ?_
 refine awp_imp ⟨(upd none_ 4 (.q eI (pthR a r))), (updO noOb 0 (.live ⟨[.one, .q eSec b, .q eIL c, .q ePnt d, .q eIL a, .one, .one, .one, .i cn, .one, .rp [.one, .q eSec b, .q eIL c, .q ePnt d, .one, .one, .one, .one, .one, .one], vN], 65, 1⟩))⟩ ?_ ?_
 ·skip
  exact iL [(0, 0)] [((0, 0), .live _)] ⟨row_no rfl rfl, trivial⟩
 refine awp_ret ?_
 exact fretG rfl rfl rfl rfl
theorem p_MovesR (a : List Need) (b : List Bool) (hl : a.length ≤ 4294967296) (hr : b.length ≤ 4294967296) : Fn Try.prog 27 [.ro a.length (enc eN a), .ro b.length (enc eB b)] (.ro ((movesL a b).length) (enc eN (movesL a b))) := by
 refine fnE_of_body (N := 9) Try.func27 rfl rfl (resOf1 rfl) (by simp) (fun w0 X hL_ => ?_)
 refine seqR ?_
 refine oG (qW 51 ?_)
 refine mG vN ?_
 refine op0 ?_
 refine seqR ?_
 refine mG (.q eN a) ?_
 refine oG (callO_ 52 (cl_N a oo) rfl rfl rfl rfl rfl bd50 lS (.sl _ _ _ trivial) (news1 news0) (free1 rfl) rfl rfl ?_)
 refine oG (aop_makeFunc (caps := [.tmp 3]) rfl rfl rfl rfl ?_)
 refine oG (callG_ true [52] [] (delN a b oo oo) rfl rfl rfl rfl rfl bd49 (by decide) ⟨giv_no (o := ⟨(enc eN a), 79, 2⟩) rfl rfl, trivial⟩ ⟨(arg_own (.sl _ _ _ (by simp)) rfl), (arg_lent (lend_fn (lends_cons (lend_pt rfl lS) lends_nil))), trivial⟩ rfl trivial (fun _ => ⟨.sl _ _ _ trivial, ⟨(fun c hc => ((inferInstance : FlatL (enc eN (movesL a b ++ List.replicate (a.length - (movesL a b).length) dN))).out c hc).mono (fun _ h => h.elim) id), trivial⟩⟩) rfl (place_cons (ost_no (cs := (enc eN (movesL a b ++ List.replicate (a.length - (movesL a b).length) dN)))) place_nil) ?_)
 refine mG (.sl 52 0 ((movesL a b).length)) ?_
 refine rU (upd none_ 4 (.sl 52 0 ((movesL a b).length))) (updO (updO (updO noOb 51 (.live ⟨[.q eB b], 38, 1⟩)) 52 (.live ⟨(enc eN a), 79, 2⟩)) 52 (.live ⟨(enc eN (movesL a b ++ List.replicate (a.length - (movesL a b).length) dN)), 79, 2⟩)) ?_
 refine awp_imp _ (imp_frozen rfl (fun _ h => h) (lee_lend 4 (.q eN (movesL a b)) (lend_p (id := 52) (n := (movesL a b).length) (o := ⟨(enc eN (movesL a b ++ List.replicate (a.length - (movesL a b).length) dN)), 79, 2⟩) (f := eN) (l := movesL a b) (rest := List.replicate (a.length - (movesL a b).length) dN) rfl rfl rfl (fun _ => rfl)) lee_lend0)) ?_
 refine awp_ret ?_
 exact fret (av := .ro ((movesL a b).length) (enc eN (movesL a b))) rfl rfl rfl
abbrev Z5u (a : List Need) (k : Nat) : List AV := [.i ((a.getD k dN).point), .b ((a.getD k dN).right)]
abbrev Z5t (c : List Bool) (a : List Need) (k : Nat) : Nat → AV := (upd (upd (upd (upd (upd (upd none_ 4 vN) 5 (.sl 1 0 ((moveL c (a.take k)).length))) 7 (.pt 52 0)) 10 (.q eN a)) 11 (.i (a.length : Int))) 12 (.i (k : Int)))
abbrev Z5s (c : List Bool) (a : List Need) (k : Nat) : Nat → OSt := (updO (updO (updO noOb 1 (.live ⟨(enc eB (moveL c (a.take k))), 4, 1⟩)) 52 (.live ⟨[.i 0, .b false], 79, 1⟩)) 52 (.live ⟨(Z5u a k), 79, 1⟩))
abbrev Z5r (c : List Bool) (a : List Need) (k j : Nat) : Nat → OSt := (updO (updO noOb 1 (.live ⟨(enc eB (moveL c (a.take k) ++ List.replicate j false)), 4, 1⟩)) 2 (.live ⟨(Z5u a k), 79, 1⟩))
abbrev Z5q (c : List Bool) (a : List Need) (k j : Nat) : Nat → AV := (upd (upd (upd (upd (upd (upd none_ 4 vN) 5 (.sl 1 0 ((moveL c (a.take k) ++ List.replicate j false).length))) 7 (.pt 2 0)) 10 (.q eN a)) 11 (.i (a.length : Int))) 12 (.i (k : Int)))
theorem p_MoveR (c : List Bool) (a : List Need) (hr : c.length ≤ 65536) (hl : a.length ≤ 65536) : Fn Try.prog 35 [.ro c.length (enc eB c), .ro a.length (enc eN a)] (.ro ((moveL c a).length) (enc eB (moveL c a))) := by
 refine fnE_of_body (N := 40) Try.func35 rfl rfl (resOf1 rfl) (by simp) (fun w0 X hL_ => ?_)
 refine seqR ?_
 refine mG vN ?_
 refine op0 ?_
 refine seqR ?_
 refine mG (.q eB c) ?_
 refine oG (callO_ 51 (cl_B c om) rfl rfl rfl rfl rfl bd22 lS (.sl _ _ _ trivial) (news1 news0) (free1 rfl) rfl rfl ?_)
 refine mG (.sl 51 0 c.length) ?_
 refine rU (upd (upd (upd none_ 1 (.q eN a)) 4 vN) 5 (.sl 51 0 c.length)) (updO noOb 51 (.live ⟨(enc eB c), 4, 1⟩)) ?_
 refine awp_seq ?_
 refine seqR ?_
 refine mG (.q eN a) ?_
 refine oG (qN ut72 ?_)
 refine mG (.i 0) ?_
 refine op0 ?_
 refine awp_block ?_
 refine awp_countI (fun k => ⟨(upd (upd (upd (upd (upd none_ 4 vN) 5 (.sl 1 0 ((moveL c (a.take k)).length))) 10 (.q eN a)) 11 (.i (a.length : Int))) 12 (.i (k : Int))), (updO noOb 1 (.live ⟨(enc eB (moveL c (a.take k))), 4, 1⟩))⟩) (fun k => True) (a.length) ?_ trivial (fun k hk_k hinv => ?_)
 ·skip
  exact iI 51 1 rfl
 have hml := moveL_len c (a.take k)
 refine seqR ?_
 refine bG ((.bool (decide ((k : Int) < (a.length : Int))))) ?_
 refine op0 ?_
 refine awp_seq ?_
 refine awp_cond (decide ((k : Int) < (a.length : Int))) rfl rfl (fun hc0 => ?_) (fun hc0 => ?_)
 ·skip
  have hf1 := of_decide_eq_true hc0
  refine awp_skip ?_
  refine awp_seq ?_
  refine awp_block ?_
  refine seqR ?_
  refine oG (qX dN ut72 sz79 ?_)
  refine oG (qLB (Z5u a k) ag79 sz79 ?_)
  refine oG (aop_alloc 52 rfl rfl rfl rfl ze79 rfl ?_)
  refine oG (qS sz79 ?_)
  refine rU (Z5t c a k) (Z5s c a k) ?_
  refine awp_seq ?_
  refine seqR ?_
  refine fG (.pt 52 0) ft79_0 sz3 ?_
  refine oG (qL (.i ((a.getD k dN).point)) ag3 ?_)
  refine bG ((.bool (decide (((a.getD k dN).point) < 0)))) ?_
  refine mG (.b (decide (((a.getD k dN).point) < 0))) ?_
  refine aops_grp 4 23 (.b ((decide (((a.getD k dN).point) < 0)) || (decide (((a.getD k dN).point) ≥ 8)))) ?_ ?_
  ·refine (Bool.eq_false_or_eq_true (decide (((a.getD k dN).point) < 0))).elim (fun hg2 => ?_) (fun hg2 => ?_)
   ·skip
    have hf3 := of_decide_eq_true hg2
    refine nG hg2 ?_
    refine nG hg2 ?_
    refine nG hg2 ?_
    refine oG (qP (decide (((a.getD k dN).point) < 0)) (.b true) hg2 ?_)
    refine op0 ?_
    exact imp_env (lee_both 23 _ _ (by rw [hg2] <;> rfl) lO)
   have hf4 := of_decide_eq_false hg2
   refine oY hg2 (qF (.pt 52 0) (.pt 52 0) ft79_0 sz3 ?_)
   refine oY hg2 (qL (.i ((a.getD k dN).point)) ag3 ?_)
   refine oY hg2 (qB (.bool (decide (((a.getD k dN).point) ≥ 8))) rfl ?_)
   refine oG (qP (decide (((a.getD k dN).point) < 0)) (.b (decide (((a.getD k dN).point) ≥ 8))) hg2 ?_)
   refine op0 ?_
   exact imp_env (lee_both 23 _ _ (by rw [hg2] <;> rfl) lO)
  refine op0 ?_
  refine rT (upd (Z5t c a k) 23 (.b ((decide (((a.getD k dN).point) < 0)) || (decide (((a.getD k dN).point) ≥ 8))))) (Z5s c a k) ?_
  refine awp_cond ((decide (((a.getD k dN).point) < 0)) || (decide (((a.getD k dN).point) ≥ 8))) rfl rfl (fun hc1 => ?_) (fun hc1 => ?_)
  ·skip
   refine awp_exit ?_
   refine regR ?_
   refine oG (qB (.int .i64 ((k + 1 : Nat) : Int)) (addN om) ?_)
   refine mG (.i ((k + 1 : Nat) : Int)) ?_
   refine op0 ?_
   show _ ∧ _
   have hs := moveL_off (right := c) (needs := a) (k := k) om hc1
   refine ⟨by omega, trivial, ?_⟩
   exact iI 1 1 rfl (he := (sS rfl (sS rfl (sS rfl (sM (by exact congrArg (AV.sl 1 0) (congrArg List.length hs)) (sS rfl sr_none)))))) (hoo := (by exact congrArg (fun l_ => LObj.mk (enc eB l_) 4 1) hs.symm))
  obtain ⟨hf5a, hf5b⟩ := or_f hc1
  have hf6 := of_decide_eq_false hf5a
  have hf7 := of_decide_eq_false hf5b
  refine awp_skip ?_
  refine awp_seq ?_
  refine awp_block ?_
  refine awp_countI (fun j => ⟨(Z5q c a k j), (Z5r c a k j)⟩) (fun j => True) (((a.getD k dN).point.toNat + 1 - (moveL c (a.take k)).length)) ?_ trivial (fun j hk_j hinv => ?_)
  ·skip
   exact iJ 1 1 52 2 rfl rfl (he := (sS rfl (sS rfl (sS rfl (sM rfl (sM (by exact congrArg (AV.sl 1 0) (by simp)) (sS rfl sr_none))))))) (hoo := (by exact congrArg (fun l_ => LObj.mk (enc eB l_) 4 1) (by simp)))
  have hln : (moveL c (a.take k) ++ List.replicate j false).length = (moveL c (a.take k)).length + j := by simp
  have htk : (a.take k).length ≤ a.length := by simp; omega
  refine awp_seq ?_
  refine seqR ?_
  refine mG (.sl 1 0 ((moveL c (a.take k) ++ List.replicate j false).length)) ?_
  refine oG (aop_len rfl rfl rfl rfl ut38 (len_sl rfl) ?_)
  refine fG (.pt 2 0) ft79_0 sz3 ?_
  refine oG (qL (.i ((a.getD k dN).point)) ag3 ?_)
  refine bG ((.bool (decide (((moveL c (a.take k) ++ List.replicate j false).length : Int) ≤ ((a.getD k dN).point))))) ?_
  refine rU (upd (Z5q c a k j) 28 (.b (decide (((moveL c (a.take k) ++ List.replicate j false).length : Int) ≤ ((a.getD k dN).point))))) (Z5r c a k j) ?_
  refine awp_cond (decide (((moveL c (a.take k) ++ List.replicate j false).length : Int) ≤ ((a.getD k dN).point))) rfl rfl (fun hc2 => ?_) (fun hc2 => ?_)
  ·skip
   have hf8 := of_decide_eq_true hc2
   refine awp_skip ?_
   refine awp_block ?_
   refine regR ?_
   refine mG (.sl 1 0 ((moveL c (a.take k) ++ List.replicate j false).length)) ?_
   refine oG (aop_lit rfl rfl rfl ut38 iz4 (by decide) (by decide) rfl rfl ?_)
   refine oG (aop_app1 (f := eB) (l := moveL c (a.take k) ++ List.replicate j false) 53 (false : Bool) rfl rfl rfl rfl ut38 in4 rfl (by decide) rfl rfl rfl rfl rfl rfl (fun _ => rfl) rfl rfl oo oo rfl ?_)
   refine mG (.sl 53 0 (((moveL c (a.take k) ++ List.replicate j false) ++ [(false : Bool)]).length)) ?_
   refine op0 ?_
   show _ ∧ _
   have hs : moveL c (a.take k) ++ List.replicate (j + 1) false = moveL c (a.take k) ++ List.replicate j false ++ [false] := by rw [List.replicate_succ', List.append_assoc]
   refine ⟨by omega, trivial, ?_⟩
   exact iJ 53 1 2 2 (o := ⟨(enc eB ((moveL c (a.take k) ++ List.replicate j false) ++ [(false : Bool)])), 4, 1⟩) rfl rfl (he := (sS rfl (sS rfl (sS rfl (sM rfl (sM (by exact congrArg (AV.sl 1 0) (congrArg List.length hs.symm)) (sS rfl sr_none))))))) (hoo := (by exact congrArg (fun l_ => LObj.mk (enc eB l_) 4 1) hs))
  have hf9 := of_decide_eq_false hc2
  refine awp_exit ?_
  refine regR ?_
  refine mG (.sl 1 0 ((moveL c (a.take k) ++ List.replicate j false).length)) ?_
  refine fG (.pt 2 0) ft79_0 sz3 ?_
  refine oG (qL (.i ((a.getD k dN).point)) ag3 ?_)
  refine fG (.pt 2 1) ft79_1 sz4 ?_
  refine oG (qL (.b ((a.getD k dN).right)) ag4 ?_)
  refine oG (aop_ixOI rfl rfl rfl ut38 sz4 rfl rfl om oo ?_)
  refine oG (aop_storeE (f := eB) (l := moveL c (a.take k) ++ List.replicate j false) (l' := (moveL c (a.take k) ++ List.replicate j false).set (((a.getD k dN).point).toNat) ((a.getD k dN).right : Bool)) ((a.getD k dN).right : Bool) rfl rfl rfl sz4 rfl rfl rfl rfl rfl (fun _ => rfl) oo rfl rfl ?_)
  refine op0 ?_
  refine rT (Z5q c a k j) (updO (Z5r c a k j) 1 (.live ⟨(enc eB ((moveL c (a.take k) ++ List.replicate j false).set (((a.getD k dN).point).toNat) ((a.getD k dN).right : Bool))), 4, 1⟩)) ?_
  refine regR ?_
  refine oG (qB (.int .i64 ((k + 1 : Nat) : Int)) (addN om) ?_)
  refine mG (.i ((k + 1 : Nat) : Int)) ?_
  refine op0 ?_
  show _ ∧ _
  have hs := moveL_on (right := c) (needs := a) (k := k) (j := j) om om om om
  refine ⟨by omega, trivial, ?_⟩
  exact iI 1 1 rfl (he := (sS rfl (sS rfl (sS rfl (sM (by exact congrArg (AV.sl 1 0) (by rw [hs, List.length_set])) (sS rfl sr_none)))))) (hoo := (by exact congrArg (fun l_ => LObj.mk (enc eB l_) 4 1) hs))
 have hf10 := of_decide_eq_false hc0
 refine awp_exit ?_
 refine seqR ?_
 refine mG (.sl 1 0 ((moveL c (a.take k)).length)) ?_
 refine mG (.sl 1 0 ((moveL c (a.take k)).length)) ?_
 refine op0 ?_
 have he : moveL c (a.take k) = moveL c a := by rw [List.take_of_length_le om]
 refine awp_imp _ (imp_frozen rfl (fun _ h => h) (lee_lend 4 (.q eB (moveL c (a.take k))) (lend_s (id := 1) (n := (moveL c (a.take k)).length) (o := ⟨(enc eB (moveL c (a.take k))), 4, 1⟩) rfl (enc_len (fun _ => rfl) (by first | rfl | (simp; done)))) lee_lend0)) ?_
 refine awp_ret ?_
 exact fret (av := .ro ((moveL c (a.take k)).length) (enc eB (moveL c (a.take k)))) rfl rfl (by rw [he] <;> rfl)
abbrev Z64 (c : List Sec) (e : List Pnt) (d : List (List Int)) (r : Int) (g : List Bool) : AV := (.q eN (movesL (paL c e (d.getD r.toNat [])) g))
abbrev Z62 (d : List (List Int)) (r : Int) : LObj := ⟨(enc eU8 (List.replicate ((pthR d r).length) 1)), 5, 1⟩
abbrev Z61 (e : List Pnt) : LObj := ⟨(enc eB (List.replicate e.length false)), 4, 1⟩
abbrev Z60 (r tr : Int) (d : List (List Int)) : LObj := ⟨[.i r, .i tr, .i (-1), .sl 58 0 ((pthR d r).length)], 47, 1⟩
abbrev Z5z (d : List (List Int)) (c : List Sec) : LObj := ⟨(enc eB (secsQ d ([] : List Lk) c.length c.length)), 4, 1⟩
abbrev Z5y (c : List Sec) (f : List (List Int)) (e : List Pnt) : List AV := [.one, .q eSec c, .q eIL f, .q ePnt e, .one, .one, .one, .one, .one, .one]
abbrev Z5x (r tr : Int) (g : List Bool) : Nat → AV := (upd (upd (upd (upd (upd (upd (upd (upd none_ 1 (.i r)) 2 (.i tr)) 5 (.q eB g)) 6 (.pt 51 0)) 9 (.pt 52 0)) 10 (.pt 53 0)) 12 vN) 13 (.i 0))
abbrev Z63 (c : List Sec) (f : List (List Int)) (e : List Pnt) (d : List (List Int)) (cn : Int) : List AV := [.one, .q eSec c, .q eIL f, .q ePnt e, .q eIL d, .one, .one, .one, .i cn, .one, .rp (Z5y c f e), vN]
abbrev Z5v (c : List Sec) (f : List (List Int)) (e : List Pnt) (d : List (List Int)) (cn : Int) (l : List Int) (p : List View) : Nat → OSt := (updO (updO (updO (updO noOb 0 (.live ⟨(Z63 c f e d cn), 65, 1⟩)) 51 (.live ⟨[.pt 0 0], 35, 1⟩)) 52 (.live ⟨[.q eU8 l], 37, 1⟩)) 53 (.live ⟨[.q eV p], 66, 1⟩))
abbrev Z5w (c : List Sec) (f : List (List Int)) (e : List Pnt) (d : List (List Int)) (cn : Int) (l : List Int) (p : List View) : Nat → OSt := (updO (updO (updO (updO (updO (updO (Z5v c f e d cn l p) 54 (.live (Z5z d c))) 55 (.live (Z61 e))) 56 (.live ⟨[vN], 38, 1⟩)) 57 (.live ⟨[vN], 38, 1⟩)) 56 (.live ⟨[.sl 54 0 ((secsQ d ([] : List Lk) c.length c.length).length)], 38, 1⟩)) 57 (.live ⟨[.sl 55 0 ((List.replicate e.length false).length)], 38, 1⟩))
theorem r_SetK (c : List Sec) (f : List (List Int)) (e : List Pnt) (d : List (List Int)) (cn r tr : Int) (l : List Int) (p : List View) (g : List Bool) (hs : c.length ≤ 65536) (hp : e.length ≤ 65536) (t : d.length ≤ 65536) (u : l.length ≤ 65536) (hn : p.length ≤ 65536) (hv : ∀ v, v ∈ p → v.span.length ≤ 65536) (hrt : g.length ≤ 65536) (hr : hasR d r = true) (hpl : 2 ≤ (d.getD r.toNat []).length ∧ (d.getD r.toNat []).length ≤ 9) (hin : ∀ s, s ∈ pthR d r → 0 ≤ s) (hfr : (!((pthR d r).any (bzQ d [] l))) = true) (hmv : (movesL (paL c e (d.getD r.toNat [])) g).any (noQ e l p (secsQ d [] c.length c.length) (List.replicate e.length false)) = false) : FnGO Try.prog 10 [⟨[.one, .ro c.length (enc eSec c), .ro f.length (enc eIL f), .ro e.length (enc ePnt e), .ro d.length (enc eIL d), .one, .one, .one, .v (.int .i64 cn), .one, .rp [.one, .ro c.length (enc eSec c), .ro f.length (enc eIL f), .ro e.length (enc ePnt e), .one, .one, .one, .one, .one, .one], vN], 65, 1⟩] [.pt 0 0, .v (.int .i64 r), .v (.int .i64 tr), .ro l.length (enc eU8 l), .ro p.length (enc eV p), .ro g.length (enc eB g)] (.tup [.ro ((moveL g (movesL (paL c e (d.getD r.toNat [])) g)).length) (enc eB (moveL g (movesL (paL c e (d.getD r.toNat [])) g))), .v (.int .i64 0)]) [.live ⟨[.one, .ro c.length (enc eSec c), .ro f.length (enc eIL f), .ro e.length (enc ePnt e), .ro d.length (enc eIL d), .one, .one, .one, .v (.int .i64 cn), .one, .rp [.one, .ro c.length (enc eSec c), .ro f.length (enc eIL f), .ro e.length (enc ePnt e), .one, .one, .one, .one, .one, .one], .sl 1 0 1], 65, 1⟩, .live ⟨[.pt 2 0], 69, 1⟩, .live ⟨[.v (.int .i64 r), .v (.int .i64 tr), .v (.int .i64 (-1)), .sl 3 0 ((List.replicate (pthR d r).length (1 : Int)).length)], 47, 1⟩, .live ⟨(enc eU8 (List.replicate (pthR d r).length (1 : Int))), 5, 1⟩] := by
 have hrr : 0 ≤ r ∧ r < (d.length : Int) := by unfold hasR at hr; rw [Bool.and_eq_true] at hr; exact ⟨of_decide_eq_true hr.1, of_decide_eq_true hr.2⟩
 have hpq := pth_len (routes := d) (r := r)
 have hix : idxB (fun x : Lk => decide (x.route = r)) ([] : List Lk) < 0 := (show (-1 : Int) < 0 by decide)
 have hsl := secs_len (routes := d) (ls := ([] : List Lk)) (k := c.length) (n := c.length) om
 have hrl : (List.replicate e.length false).length = e.length := List.length_replicate
 have hpa := paL_len (secs := c) (pts := e) (path := (d.getD r.toNat []))
 have hml := movesL_len (paL c e (d.getD r.toNat [])) g
 refine fnG_of_body (N := 90) 1 rfl Try.func10 rfl rfl (resOf2 rfl) (by simp) (fun w0 G C hL_ hLG_ => ?_)
 refine seqR ?_
 refine oG (qW 51 ?_)
 refine oG (qW 52 ?_)
 refine oG (qW 53 ?_)
 refine mG vN ?_
 refine mG (.i 0) ?_
 refine rU (Z5x r tr g) (Z5v c f e d cn l p) ?_
 refine seqR ?_
 refine mG (.q eB g) ?_
 refine oG (qJ (cl_BR g oo) bd22 ?_)
 refine mG (.q eB g) ?_
 refine op0 ?_
 refine awp_seq ?_
 refine awp_block ?_
 refine seqR ?_
 refine oG (qL (.pt 0 0) ag35 ?_)
 refine mG (.i r) ?_
 refine oG (callL_ (r_has d r oo) rfl rfl rfl rfl rfl bd23 (lends_cons (lend_pt rfl lS) lS) ?_)
 refine oG (aop_not rfl rfl rfl rfl ?_)
 refine mG (.b (!(hasR d r))) ?_
 refine rU (upd (upd (Z5x r tr g) 14 (.q eB g)) 22 (.b (!(hasR d r)))) (Z5v c f e d cn l p) ?_
 refine awp_cond (!(hasR d r)) rfl rfl (fun hc0 => ?_) (fun hc0 => ?_)
 ·skip
  have hf1 := not_t hc0
  exfalso; rw [hr] at hc0; cases hc0
 have hf2 := not_f hc0
 refine seqR ?_
 refine oG (qL (.pt 0 0) ag35 ?_)
 refine mG (.i r) ?_
 refine oG (callL_ (r_findN ([] : List Lk) r (by simp) hix) rfl rfl rfl rfl rfl bd24 (lends_cons (lend_pt rfl (lends_cons (lend_n (av := .one)) (lends_cons (.one _ rfl) (lends_cons (.one _ rfl) (lends_cons (.one _ rfl) (lends_cons (.one _ rfl) (lends_cons (lend_n (av := .one)) (lends_cons (lend_n (av := .one)) (lends_cons (lend_n (av := .one)) (lends_cons (.one _ rfl) (lends_cons (lend_n (av := .one)) (lends_cons (.one _ rfl) (lends_cons lend_nil lends_nil))))))))))))) lS) ?_)
 refine oG (aop_nilNil rfl rfl rfl ut69 rfl rfl (.inr ⟨rfl, rfl⟩) ?_)
 refine mG (.b false) ?_
 refine rU (upd (upd (Z5x r tr g) 14 (.q eB g)) 28 (.b false)) (Z5v c f e d cn l p) ?_
 refine awp_cond false rfl rfl (fun h => by cases h) (fun _ => ?_)
 refine seqR ?_
 refine oG (qL (.pt 0 0) ag35 ?_)
 refine mG (.i r) ?_
 refine oG (qL (.q eU8 l) ag37 ?_)
 refine oG (callL_ (r_free d ([] : List Lk) r l t (by simp) (by simp) u hrr om om hin) rfl rfl rfl rfl rfl bd25 (lends_cons (lend_pt rfl (lends_cons (lend_n (av := .one)) (lends_cons (.one _ rfl) (lends_cons (.one _ rfl) (lends_cons (.one _ rfl) (lends_cons (lend_n (av := .q eIL d)) (lends_cons (lend_n (av := .one)) (lends_cons (lend_n (av := .one)) (lends_cons (lend_n (av := .one)) (lends_cons (.one _ rfl) (lends_cons (lend_n (av := .one)) (lends_cons (.one _ rfl) (lends_cons lend_nil lends_nil))))))))))))) lS) ?_)
 refine oG (aop_not rfl rfl rfl rfl ?_)
 refine mG (.b (!(!((pthR d r).any (bzQ d ([] : List Lk) l))))) ?_
 refine rU (upd (upd (Z5x r tr g) 14 (.q eB g)) 34 (.b (!(!((pthR d r).any (bzQ d ([] : List Lk) l)))))) (Z5v c f e d cn l p) ?_
 refine awp_cond (!(!((pthR d r).any (bzQ d ([] : List Lk) l)))) rfl rfl (fun hc2 => ?_) (fun hc2 => ?_)
 ·skip
  have hf3 := not_t hc2
  exfalso; rw [hfr] at hc2; cases hc2
 have hf4 := not_f hc2
 refine awp_skip ?_
 refine awp_seq ?_
 refine aD 17 [(15, .q eN (paL c e (d.getD r.toNat []))), (56, .b (paB c e (d.getD r.toNat []))), (55, .q eN (paL c e (d.getD r.toNat []))), (41, .tup [.q eN (paL c e (d.getD r.toNat [])), .b (paB c e (d.getD r.toNat []))]), (54, .tup [.q eN (paL c e (d.getD r.toNat [])), .b (paB c e (d.getD r.toNat []))]), (53, .q eI (d.getD r.toNat [])), (52, .rp (([.q eI (d.getD r.toNat [])] : List AV) ++ ((enc eIL d).drop ((r.toNat + 1) * 1)))), (51, .i r), (50, .q eIL d), (49, .pt 0 4), (48, .pt 0 0), (47, .pt 0 0), (46, .pt 0 0), (45, .rp (Z5y c f e)), (44, .pt 0 10), (43, .pt 0 0), (42, .pt 0 0)] mixed ?_ ?_
 ·iterate 17 (refine ⟨?_, ?_⟩; rotate_left)
  trivial
  ·exact sL ag35
  ·exact dW 43 fun st hob hE => aop_nilCheck rfl rfl rfl (hE 42 rfl) rfl (by rw [hob]; rfl)
  ·exact sF (.pt 0 0) (.pt 0 10) ft65_1 sz61
  ·exact sL ag61
  ·exact sL ag35
  ·exact dW 47 fun st hob hE => aop_nilCheck rfl rfl rfl (hE 46 rfl) rfl (by rw [hob]; rfl)
  ·exact sF (.pt 0 0) (.pt 0 0) ft65_0 sz33
  ·exact sF (.pt 0 0) (.pt 0 4) ft33_4 sz30
  ·exact sL ag30
  ·exact sMv
  ·exact dW 52 fun st hob hE => aop_ixI [] rfl rfl rfl ut30 sz42 (hE 50 rfl) (hE 51 rfl) (fun _ => rfl) rfl om oo (by rw [hob]; rfl)
  ·exact (sLd ag42)
  ·exact sC (g_Path c e (d.getD r.toNat []) hs hp om) bd26
  ·exact sMv
  ·exact dW 55 fun st hob hE => aop_extract rfl rfl rfl (hE 41 rfl) rfl (by rw [hob]; rfl)
  ·exact dW 56 fun st hob hE => aop_extract rfl rfl rfl (hE 41 rfl) rfl (by rw [hob]; rfl)
  exact sMv
 refine mG (.b (paB c e (d.getD r.toNat []))) ?_
 refine op0 ?_
 refine seqR ?_
 refine mG (.q eN (paL c e (d.getD r.toNat []))) ?_
 refine mG (.q eB g) ?_
 refine oG (qJ (p_MovesR (paL c e (d.getD r.toNat [])) g om om) bd27 ?_)
 refine mG (Z64 c e d r g) ?_
 refine rU (upd (upd (Z5x r tr g) 14 (.q eB g)) 17 (Z64 c e d r g)) (Z5v c f e d cn l p) ?_
 refine awp_seq ?_
 refine awp_drawZ (m := 6) (fun b => (updO (updO (updO (updO (Z5v c f e d cn l p) 54 (cond (b 1) (.live (Z5z d c)) .free)) 55 (cond (b 3) (.live (Z61 e)) .free)) 56 (cond (b 4) (.live ⟨[vN], 38, 1⟩) .free)) 57 (cond (b 5) (.live ⟨[vN], 38, 1⟩) .free))) (updO (updO (updO (updO (Z5v c f e d cn l p) 54 (.live (Z5z d c))) 55 (.live (Z61 e))) 56 (.live ⟨[vN], 38, 1⟩)) 57 (.live ⟨[vN], 38, 1⟩)) [1, 3, 4, 5] (funext fun id_ => by by_cases e0_ : id_ = 54 <;> by_cases e1_ : id_ = 55 <;> by_cases e2_ : id_ = 56 <;> by_cases e3_ : id_ = 57 <;> first | (subst e0_; rfl) | (subst e1_; rfl) | (subst e2_; rfl) | (subst e3_; rfl) | simp only [addO, updO, nbeq_ne e0_, nbeq_ne e1_, nbeq_ne e2_, nbeq_ne e3_, cond_false]) (fun b b' h => by simp only [h 1 (by decide), h 3 (by decide), h 4 (by decide), h 5 (by decide)]) (fun b h => by simp only [h 1 (by decide), h 3 (by decide), h 4 (by decide), h 5 (by decide), cond_true]) [(19, .pt 57 0), (18, .pt 56 0), (63, .sl 55 0 ((List.replicate e.length false).length)), (62, .pt 0 0), (61, .sl 54 0 ((secsQ d ([] : List Lk) c.length c.length).length)), (60, .pt 0 0)] mixed (by kernel_rfl) ?_ ?_
 ·refine ⟨?_, ?_, ?_, ?_, ?_, ?_, trivial⟩
  ·exact sy_pure (by decide) (fun b => sL ag35)
  ·exact sy_fx (by decide) ⟨rfl, (fun d_ h_ => by cases h_ <;> exact blt_lt rfl), fun b hb_ hdep_ hcl_ st hob hE => by obtain ⟨en_, ob_⟩ := st; have hob_ : ob_ = (updO (updO (updO (updO (Z5v c f e d cn l p) 54 .free) 55 (cond (b 3) (.live (Z61 e)) .free)) 56 (cond (b 4) (.live ⟨[vN], 38, 1⟩) .free)) 57 (cond (b 5) (.live ⟨[vN], 38, 1⟩) .free)) := Eq.trans hob (by simp only [hb_, cond_false, cond_true]); subst hob_; exact callO_ 54 (r_SecO c d ([] : List Lk) hs t (by simp) (by simp)) rfl rfl rfl rfl rfl bd28 (by show Lends _ ([en_ 60] ++ _) _; rw [show en_ 60 = _ from hE 60 rfl]; exact (lends_cons (lend_pt rfl (lends_cons (lend_n (av := .one)) (lends_cons (lend_n (av := .q eSec c)) (lends_cons (.one _ rfl) (lends_cons (.one _ rfl) (lends_cons (lend_n (av := .q eIL d)) (lends_cons (lend_n (av := .one)) (lends_cons (lend_n (av := .one)) (lends_cons (lend_n (av := .one)) (lends_cons (.one _ rfl) (lends_cons (lend_n (av := .one)) (lends_cons (.one _ rfl) (lends_cons lend_nil lends_nil))))))))))))) lends_nil)) (.sl _ _ _ trivial) (news1 news0) (free1 rfl) rfl rfl ⟨rfl, fun id_ => by by_cases e0_ : id_ = 54 <;> by_cases e1_ : id_ = 55 <;> by_cases e2_ : id_ = 56 <;> by_cases e3_ : id_ = 57 <;> first | (subst e0_; rfl) | (subst e1_; rfl) | (subst e2_; rfl) | (subst e3_; rfl) | simp only [addO, updO, nbeq_ne e0_, nbeq_ne e1_, nbeq_ne e2_, nbeq_ne e3_, cond_false]⟩⟩
  ·exact sy_pure (by decide) (fun b => sL ag35)
  ·exact sy_fx (by decide) ⟨rfl, (fun d_ h_ => by cases h_ <;> exact blt_lt rfl), fun b hb_ hdep_ hcl_ st hob hE => by have hd1_ := dep_of (j := 1) (by kernel_rfl) hdep_; obtain ⟨en_, ob_⟩ := st; have hob_ : ob_ = (updO (updO (updO (updO (Z5v c f e d cn l p) 54 (.live (Z5z d c))) 55 .free) 56 (cond (b 4) (.live ⟨[vN], 38, 1⟩) .free)) 57 (cond (b 5) (.live ⟨[vN], 38, 1⟩) .free)) := Eq.trans hob (by simp only [hb_, hd1_, cond_false, cond_true]); subst hob_; exact callO_ 55 (r_HeldE e hp) rfl rfl rfl rfl rfl bd29 (by show Lends _ ([en_ 62] ++ _) _; rw [show en_ 62 = _ from hE 62 rfl]; exact (lends_cons (lend_pt rfl (lends_cons (lend_n (av := .one)) (lends_cons (.one _ rfl) (lends_cons (.one _ rfl) (lends_cons (lend_n (av := .q ePnt e)) (lends_cons (.one _ rfl) (lends_cons (lend_n (av := .one)) (lends_cons (lend_n (av := .one)) (lends_cons (lend_n (av := .one)) (lends_cons (.one _ rfl) (lends_cons (lend_n (av := .one)) (lends_cons (.one _ rfl) (lends_cons lend_nil lends_nil))))))))))))) lends_nil)) (.sl _ _ _ trivial) (news1 news0) (free1 rfl) rfl rfl ⟨rfl, fun id_ => by by_cases e0_ : id_ = 54 <;> by_cases e1_ : id_ = 55 <;> by_cases e2_ : id_ = 56 <;> by_cases e3_ : id_ = 57 <;> first | (subst e0_; first | rfl | (simp only [hd1_]; rfl)) | (subst e1_; first | rfl | (simp only [hd1_]; rfl)) | (subst e2_; first | rfl | (simp only [hd1_]; rfl)) | (subst e3_; first | rfl | (simp only [hd1_]; rfl)) | simp only [addO, updO, nbeq_ne e0_, nbeq_ne e1_, nbeq_ne e2_, nbeq_ne e3_, cond_false]⟩⟩
  ·exact sy_fx (by decide) ⟨rfl, (fun d_ h_ => by cases h_ <;> exact blt_lt rfl), fun b hb_ hdep_ hcl_ st hob hE => by obtain ⟨en_, ob_⟩ := st; have hob_ : ob_ = (updO (updO (updO (updO (Z5v c f e d cn l p) 54 (cond (b 1) (.live (Z5z d c)) .free)) 55 (cond (b 3) (.live (Z61 e)) .free)) 56 .free) 57 (cond (b 5) (.live ⟨[vN], 38, 1⟩) .free)) := Eq.trans hob (by simp only [hb_, cond_false, cond_true]); subst hob_; exact aop_alloc 56 rfl rfl rfl rfl ze38 rfl ⟨rfl, fun id_ => by by_cases e0_ : id_ = 54 <;> by_cases e1_ : id_ = 55 <;> by_cases e2_ : id_ = 56 <;> by_cases e3_ : id_ = 57 <;> first | (subst e0_; rfl) | (subst e1_; rfl) | (subst e2_; rfl) | (subst e3_; rfl) | simp only [addO, updO, nbeq_ne e0_, nbeq_ne e1_, nbeq_ne e2_, nbeq_ne e3_, cond_false]⟩⟩
  exact sy_fx (by decide) ⟨rfl, (fun d_ h_ => by cases h_ <;> exact blt_lt rfl), fun b hb_ hdep_ hcl_ st hob hE => by obtain ⟨en_, ob_⟩ := st; have hob_ : ob_ = (updO (updO (updO (updO (Z5v c f e d cn l p) 54 (cond (b 1) (.live (Z5z d c)) .free)) 55 (cond (b 3) (.live (Z61 e)) .free)) 56 (cond (b 4) (.live ⟨[vN], 38, 1⟩) .free)) 57 .free) := Eq.trans hob (by simp only [hb_, cond_false, cond_true]); subst hob_; exact aop_alloc 57 rfl rfl rfl rfl ze38 rfl ⟨rfl, fun id_ => by by_cases e0_ : id_ = 54 <;> by_cases e1_ : id_ = 55 <;> by_cases e2_ : id_ = 56 <;> by_cases e3_ : id_ = 57 <;> first | (subst e0_; rfl) | (subst e1_; rfl) | (subst e2_; rfl) | (subst e3_; rfl) | simp only [addO, updO, nbeq_ne e0_, nbeq_ne e1_, nbeq_ne e2_, nbeq_ne e3_, cond_false]⟩⟩
 refine oG (qS sz38 ?_)
 refine oG (qS sz38 ?_)
 refine op0 ?_
 refine awp_seq ?_
 refine seqR ?_
 refine mG (Z64 c e d r g) ?_
 refine oG (aop_makeFunc (caps := [.tmp 6, .tmp 9, .tmp 10, .tmp 18, .tmp 19]) rfl rfl rfl rfl ?_)
 refine oG (callL_ (coS (movesL (paL c e (d.getD r.toNat [])) g) e l p (secsQ d [] c.length c.length) (List.replicate e.length false) om hp u hn om om hv) rfl rfl rfl rfl rfl bd30 (lends_cons (lend_n (av := .q eN (movesL (paL c e (d.getD r.toNat [])) g))) (lends_cons (lend_fn (lends_cons (lend_pt rfl (lends_cons (lend_pt rfl lS) lends_nil)) (lends_cons (lend_pt rfl lS) (lends_cons (lend_pt rfl lS) (lends_cons (lend_pt rfl (lends_cons (lend_s (id := 54) (n := (secsQ d ([] : List Lk) c.length c.length).length) (o := (Z5z d c)) rfl (enc_len (fun _ => rfl) (by first | rfl | (simp; done)))) lends_nil)) (lends_cons (lend_pt rfl (lends_cons (lend_s (id := 55) (n := (List.replicate e.length false).length) (o := (Z61 e)) rfl (enc_len (fun _ => rfl) (by first | rfl | (simp; done)))) lends_nil)) lends_nil)))))) lends_nil)) ?_)
 refine rU (upd (upd (upd (upd (upd (upd (upd (upd (upd none_ 1 (.i r)) 2 (.i tr)) 5 (.q eB g)) 6 (.pt 51 0)) 12 vN) 13 (.i 0)) 14 (.q eB g)) 17 (Z64 c e d r g)) 66 (.b ((movesL (paL c e (d.getD r.toNat [])) g).any (noQ e l p (secsQ d ([] : List Lk) c.length c.length) (List.replicate e.length false))))) (Z5w c f e d cn l p) ?_
 refine awp_cond ((movesL (paL c e (d.getD r.toNat [])) g).any (noQ e l p (secsQ d ([] : List Lk) c.length c.length) (List.replicate e.length false))) rfl rfl (fun hc3 => ?_) (fun hc3 => ?_)
 ·skip
  exfalso; rw [hmv] at hc3; cases hc3
 refine awp_skip ?_
 refine awp_seq ?_
 refine awp_drawZ (m := 17) (fun b => (updO (updO (updO (Z5w c f e d cn l p) 58 (cond (b 12) (.live (Z62 d r)) .free)) 59 (cond (b 14) (.live (Z60 r tr d)) .free)) 60 (cond (b 16) (.live ⟨[.pt 59 0], 69, 1⟩) .free))) (updO (updO (updO (Z5w c f e d cn l p) 58 (.live (Z62 d r))) 59 (.live (Z60 r tr d))) 60 (.live ⟨[.pt 59 0], 69, 1⟩)) [10, 12, 14, 16] (funext fun id_ => by by_cases e0_ : id_ = 0 <;> by_cases e1_ : id_ = 58 <;> by_cases e2_ : id_ = 59 <;> by_cases e3_ : id_ = 60 <;> first | (subst e0_; rfl) | (subst e1_; rfl) | (subst e2_; rfl) | (subst e3_; rfl) | simp only [addO, updO, nbeq_ne e0_, nbeq_ne e1_, nbeq_ne e2_, nbeq_ne e3_, cond_false]) (fun b b' h => by simp only [h 10 (by decide), h 12 (by decide), h 14 (by decide), h 16 (by decide)]) (fun b h => by simp only [h 10 (by decide), h 12 (by decide), h 14 (by decide), h 16 (by decide), cond_true]) [(84, .sl 60 0 1), (83, .ro 1 [.pt 59 0]), (82, .pt 59 0), (81, .agg [.i r, .i tr, .i (-1), .sl 58 0 ((pthR d r).length)]), (80, .sl 58 0 ((pthR d r).length)), (79, .i ((pthR d r).length : Int)), (78, .q eI (pthR d r)), (77, .i r), (76, .pt 0 0), (75, .ro 1 [.v (.int .u8 1)]), (74, .i tr), (73, .i r), (72, vN), (71, .pt 0 11), (70, .pt 0 0), (69, .pt 0 0), (68, .pt 0 0)] mixed (by kernel_rfl) ?_ ?_
 ·iterate 17 (refine ⟨?_, ?_⟩; rotate_left)
  trivial
  ·exact sy_pure (by decide) (fun b => sL ag35)
  ·exact sy_pure (by decide) (fun b => sL ag35)
  ·exact sy_pure (by decide) (fun b => dW 70 fun st hob hE => aop_nilCheck rfl rfl rfl (hE 69 rfl) rfl (by rw [hob]; rfl))
  ·exact sy_pure (by decide) (fun b => sF (.pt 0 0) (.pt 0 11) ft65_2 sz63)
  ·exact sy_pure (by decide) (fun b => sL ag63)
  ·exact sy_pure (by decide) (fun b => dW 73 fun st hob hE => aop_move (av := .i r) (.inl rfl) rfl rfl (hE 1 rfl) (by rw [hob]; rfl))
  ·exact sy_pure (by decide) (fun b => dW 74 fun st hob hE => aop_move (av := .i tr) (.inl rfl) rfl rfl (hE 2 rfl) (by rw [hob]; rfl))
  ·exact sy_pure (by decide) (fun b => dW 75 fun st hob hE => aop_lit rfl rfl rfl ut37 iz5 (by decide) (by decide) (by simp only [partsA, List.map, evA]; rfl) rfl (by rw [hob]; rfl))
  ·exact sy_pure (by decide) (fun b => sL ag35)
  ·exact sy_pure (by decide) (fun b => dW 77 fun st hob hE => aop_move (av := .i r) (.inl rfl) rfl rfl (hE 1 rfl) (by rw [hob]; rfl))
  ·exact sy_fx (by decide) ⟨rfl, (fun d_ h_ => by cases h_ <;> exact blt_lt rfl), fun b hb_ hdep_ hcl_ st hob hE => by obtain ⟨en_, ob_⟩ := st; have hob_ : ob_ = (updO (updO (updO (Z5w c f e d cn l p) 58 (cond (b 12) (.live (Z62 d r)) .free)) 59 (cond (b 14) (.live (Z60 r tr d)) .free)) 60 (cond (b 16) (.live ⟨[.pt 59 0], 69, 1⟩) .free)) := Eq.trans hob (by simp only [hb_, cond_false, cond_true]); subst hob_; exact callG_ false [0] [] (r_piecesG c f e d cn r t hrr om) rfl rfl rfl rfl rfl bd34 (by decide) ⟨giv_no (o := ⟨(Z63 c f e d cn), 65, 1⟩) rfl rfl, trivial⟩ (by show ArgsG _ _ _ ([en_ 76, en_ 77] ++ _) _; rw [show en_ 76 = _ from hE 76 rfl, show en_ 77 = _ from hE 77 rfl]; exact ⟨(arg_own (.pt _ _ (by simp)) rfl), (arg_no (a := .i r)), trivial⟩) rfl trivial (fun h => by cases h) (am_no (a := .q eI (pthR d r))) (place_cons (ost_no (cs := (Z63 c f e d cn))) place_nil) ⟨rfl, fun id_ => by by_cases e0_ : id_ = 0 <;> by_cases e1_ : id_ = 58 <;> by_cases e2_ : id_ = 59 <;> by_cases e3_ : id_ = 60 <;> first | (subst e0_; rfl) | (subst e1_; rfl) | (subst e2_; rfl) | (subst e3_; rfl) | simp only [addO, updO, nbeq_ne e0_, nbeq_ne e1_, nbeq_ne e2_, nbeq_ne e3_, cond_false]⟩⟩
  ·exact sy_pure (by decide) (fun b => dW 79 fun st hob hE => aop_len rfl rfl rfl rfl ut42 (len_ro (hE 78 rfl)) (by rw [hob]; rfl))
  ·exact sy_fx (by decide) ⟨rfl, (fun d_ h_ => by cases h_ <;> exact blt_lt rfl), fun b hb_ hdep_ hcl_ st hob hE => by obtain ⟨en_, ob_⟩ := st; have hob_ : ob_ = (updO (updO (updO (Z5w c f e d cn l p) 58 .free) 59 (cond (b 14) (.live (Z60 r tr d)) .free)) 60 (cond (b 16) (.live ⟨[.pt 59 0], 69, 1⟩) .free)) := Eq.trans hob (by simp only [hb_, cond_false, cond_true]); subst hob_; exact callO_ 58 (sl_RepU ((pthR d r).length) oo) rfl rfl rfl rfl rfl bd33 (by show Lends _ ([en_ 75, en_ 79] ++ _) _; rw [show en_ 75 = _ from hE 75 rfl, show en_ 79 = _ from hE 79 rfl]; exact lS) (.sl _ _ _ trivial) (news1 news0) (free1 rfl) rfl rfl ⟨rfl, fun id_ => by by_cases e0_ : id_ = 0 <;> by_cases e1_ : id_ = 58 <;> by_cases e2_ : id_ = 59 <;> by_cases e3_ : id_ = 60 <;> first | (subst e0_; rfl) | (subst e1_; rfl) | (subst e2_; rfl) | (subst e3_; rfl) | simp only [addO, updO, nbeq_ne e0_, nbeq_ne e1_, nbeq_ne e2_, nbeq_ne e3_, cond_false]⟩⟩
  ·exact sy_pure (by decide) (fun b => dW 81 fun st hob hE => aop_build rfl rfl rfl pl47 (by simp only [partsA, List.map, evA, hE 73 rfl, hE 74 rfl, hE 80 rfl]; rfl) (by rw [hob]; rfl))
  ·exact sy_fx (by decide) ⟨rfl, (fun d_ h_ => by cases h_ <;> exact blt_lt rfl), fun b hb_ hdep_ hcl_ st hob hE => by obtain ⟨en_, ob_⟩ := st; have hob_ : ob_ = (updO (updO (updO (Z5w c f e d cn l p) 58 (cond (b 12) (.live (Z62 d r)) .free)) 59 .free) 60 (cond (b 16) (.live ⟨[.pt 59 0], 69, 1⟩) .free)) := Eq.trans hob (by simp only [hb_, cond_false, cond_true]); subst hob_; exact aop_box 59 rfl rfl rfl rfl (hE 81 rfl) rfl rfl ⟨rfl, fun id_ => by by_cases e0_ : id_ = 0 <;> by_cases e1_ : id_ = 58 <;> by_cases e2_ : id_ = 59 <;> by_cases e3_ : id_ = 60 <;> first | (subst e0_; rfl) | (subst e1_; rfl) | (subst e2_; rfl) | (subst e3_; rfl) | simp only [addO, updO, nbeq_ne e0_, nbeq_ne e1_, nbeq_ne e2_, nbeq_ne e3_, cond_false]⟩⟩
  ·exact sy_pure (by decide) (fun b => dW 83 fun st hob hE => aop_lit rfl rfl rfl ut63 iz69 (by decide) (by decide) (by simp only [partsA, List.map, evA, hE 82 rfl]; rfl) rfl (by rw [hob]; rfl))
  exact sy_fx (by decide) ⟨rfl, (fun d_ h_ => by cases h_ <;> exact blt_lt rfl), fun b hb_ hdep_ hcl_ st hob hE => by have hd12_ := dep_of (j := 12) (by kernel_rfl) hdep_; have hd15_ := dep_of (j := 15) (by kernel_rfl) hdep_; have hd14_ := dep_via (i := 15) (j := 14) (by kernel_rfl) hcl_ hd15_; obtain ⟨en_, ob_⟩ := st; have hob_ : ob_ = (updO (updO (updO (Z5w c f e d cn l p) 58 (.live (Z62 d r))) 59 (.live (Z60 r tr d))) 60 .free) := Eq.trans hob (by simp only [hb_, hd12_, hd14_, cond_false, cond_true]); subst hob_; exact aop_appNil 60 rfl rfl rfl rfl ut63 in69 rfl (by decide) (hE 72 rfl) (hE 83 rfl) rfl om om rfl ⟨rfl, fun id_ => by by_cases e0_ : id_ = 0 <;> by_cases e1_ : id_ = 58 <;> by_cases e2_ : id_ = 59 <;> by_cases e3_ : id_ = 60 <;> first | (subst e0_; first | rfl | (simp only [hd12_, hd14_]; rfl)) | (subst e1_; first | rfl | (simp only [hd12_, hd14_]; rfl)) | (subst e2_; first | rfl | (simp only [hd12_, hd14_]; rfl)) | (subst e3_; first | rfl | (simp only [hd12_, hd14_]; rfl)) | simp only [addO, updO, nbeq_ne e0_, nbeq_ne e1_, nbeq_ne e2_, nbeq_ne e3_, cond_false]⟩⟩
 refine oG (aop_nilCheck rfl rfl rfl rfl rfl ?_)
 refine fG (.pt 0 11) ft65_2 sz63 ?_
 refine oG (qS sz63 ?_)
 refine op0 ?_
 refine seqR ?_
 refine mG (.q eB g) ?_
 refine mG (Z64 c e d r g) ?_
 refine oG (qJ (p_MoveR g (movesL (paL c e (d.getD r.toNat [])) g) hrt om) bd35 ?_)
 refine mG (.q eB (moveL g (movesL (paL c e (d.getD r.toNat [])) g))) ?_
 refine mG (.i 0) ?_
 refine rU (upd (upd none_ 12 (.q eB (moveL g (movesL (paL c e (d.getD r.toNat [])) g)))) 13 (.i 0)) (updO (updO (updO (updO (Z5w c f e d cn l p) 58 (.live (Z62 d r))) 59 (.live (Z60 r tr d))) 60 (.live ⟨[.pt 59 0], 69, 1⟩)) 0 (.live ⟨[.one, .q eSec c, .q eIL f, .q ePnt e, .q eIL d, .one, .one, .one, .i cn, .one, .rp (Z5y c f e), .sl 60 0 1], 65, 1⟩)) ?_
 refine awp_imp ⟨(upd (upd none_ 12 (.q eB (moveL g (movesL (paL c e (d.getD r.toNat [])) g)))) 13 (.i 0)), (updO (updO (updO (updO noOb 0 (.live ⟨[.one, .q eSec c, .q eIL f, .q ePnt e, .q eIL d, .one, .one, .one, .i cn, .one, .rp (Z5y c f e), .sl 1 0 1], 65, 1⟩)) 1 (.live ⟨[.pt 2 0], 69, 1⟩)) 2 (.live ⟨[.i r, .i tr, .i (-1), .sl 3 0 ((List.replicate (pthR d r).length (1 : Int)).length)], 47, 1⟩)) 3 (.live ⟨(enc eU8 (List.replicate (pthR d r).length (1 : Int))), 5, 1⟩))⟩ ?_ ?_
 ·skip
  exact iL [(0, 0), (60, 1), (59, 2), (58, 3)] [((0, 0), .live _), ((60, 1), .live _), ((59, 2), .live _), ((58, 3), .live _)] ⟨row_map (o := ⟨[.one, .q eSec c, .q eIL f, .q ePnt e, .q eIL d, .one, .one, .one, .i cn, .one, .rp (Z5y c f e), .sl 60 0 1], 65, 1⟩) rfl (om_ (lm_cons (am_no (a := .one)) (lm_cons (am_no (a := .q eSec c)) (lm_cons (am_no (a := .q eIL f)) (lm_cons (am_no (a := .q ePnt e)) (lm_cons (am_no (a := .q eIL d)) (lm_cons (am_no (a := .one)) (lm_cons (am_no (a := .one)) (lm_cons (am_no (a := .one)) (lm_cons (am_no (a := .i cn)) (lm_cons (am_no (a := .one)) (lm_cons (am_no (a := .rp (Z5y c f e))) (lm_cons rfl lm_nil))))))))))))) (oks_cons (ok_no (a := .one)) (oks_cons (ok_no (a := .q eSec c)) (oks_cons (ok_no (a := .q eIL f)) (oks_cons (ok_no (a := .q ePnt e)) (oks_cons (ok_no (a := .q eIL d)) (oks_cons (ok_no (a := .one)) (oks_cons (ok_no (a := .one)) (oks_cons (ok_no (a := .one)) (oks_cons (ok_no (a := .i cn)) (oks_cons (ok_no (a := .one)) (oks_cons (ok_no (a := .rp (Z5y c f e))) (oks_cons (.sl _ _ _ (by simp)) oks_nil)))))))))))), row_map (o := ⟨[.pt 59 0], 69, 1⟩) rfl (om_ (lm_cons rfl lm_nil)) (oks_cons (.pt _ _ (by simp)) oks_nil), row_map (o := (Z60 r tr d)) rfl (congrArg (fun n_ : Nat => LObj.mk [.i r, .i tr, .i (-1), .sl 3 0 n_] 47 1) (List.length_replicate (a := (1 : Int))).symm) (oks_cons (ok_no (a := .i r)) (oks_cons (ok_no (a := .i tr)) (oks_cons (ok_no (a := .i (-1))) (oks_cons (.sl _ _ _ (by simp)) oks_nil)))), row_no rfl rfl, trivial⟩
 refine awp_ret ?_
 exact fretG rfl rfl rfl rfl
theorem cl_U8 (l : List Int) (hl : l.length ≤ 4294967296) : FnO Try.prog 40 [.ro l.length (enc eU8 l)] (.sl 0 0 l.length) [⟨(enc eU8 l), 5, 1⟩] := by
 refine fnE_of_body (N := 8) Try.func40 rfl rfl (resOf1 rfl) (by simp) (fun w0 X hL_ => ?_)
 refine seqR ?_
 refine mG vN ?_
 refine op0 ?_
 refine awp_seq ?_
 refine seqR ?_
 refine mG (.q eU8 l) ?_
 refine oG (aop_slNil rfl rfl rfl ut37 rfl rfl (.inl rfl) (fun b4_ hb4_ => ?_))
 refine op0 ?_
 refine awp_cond b4_ rfl rfl (fun hc0 => ?_) (fun hc0 => ?_)
 ·skip
  have h0 : l.length = 0 := Decidable.byContradiction fun h => by have := hb4_ h; rw [hc0] at this; cases this
  refine seqR ?_
  refine mG vN ?_
  refine rU (upd (upd none_ 0 (.q eU8 l)) 2 vN) noOb ?_
  refine awp_imp _ (imp_adopt 2 51 5 1 rfl rfl) ?_
  refine awp_ret ?_
  exact fretO 51 rfl rfl rfl h0.symm (by rw [List.length_eq_zero_iff.1 h0]; rfl)
 refine awp_skip ?_
 refine seqR ?_
 refine oG (aop_litO 52 rfl rfl rfl ut37 iz5 (by decide) (by decide) rfl rfl rfl rfl ?_)
 refine mG (.q eU8 l) ?_
 refine oG (aop_appE (f := eU8) (l := ([] : List Int)) (l2 := l) 53 rfl rfl rfl rfl ut37 in5 rfl (by decide) rfl rfl rfl rfl rfl rfl (fun _ => rfl) rfl rfl rfl oo oo rfl ?_)
 refine mG (.sl 53 0 ((([] : List Int) ++ l).length)) ?_
 refine rU (upd none_ 2 (.sl 53 0 ((([] : List Int) ++ l).length))) (updO (updO (updO noOb 52 (.live ⟨[], 5, 1⟩)) 52 .dead) 53 (.live ⟨(enc eU8 (([] : List Int) ++ l)), 5, 1⟩)) ?_
 refine awp_ret ?_
 exact fretO 53 rfl rfl rfl rfl rfl
end Go.Lo
