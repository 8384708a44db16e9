/- Walks of Go functions in the logic of values: what the law reaches. -/
import Derived.Test.YtnjncdidiijpgaaPFnPo1
set_option linter.unusedVariables false
set_option linter.unusedSimpArgs false
set_option maxRecDepth 10000
set_option maxHeartbeats 16000000
namespace Go.Lo
open Go.Proofs
abbrev Z2k (c d e g j m r jn : Int) (rs : List (List Int)) : List AV := [.v (.int .u8 c), .v (.int .u8 d), .v (.int .u8 e), .v (.int .u16 g), .v (.int .u16 j), .v (.int .u8 m), .v (.int .u8 r), .v (.int .u8 jn), .q eUL rs]
abbrev Z2j (c d jn : Int) (rs : List (List Int)) (k : Nat) (e g j m r : Int) : LObj := ⟨[.one, .q eSec (mkSecs c d), .q eIL (mkParts c jn), .q ePnt (mkPts c), .sl 55 0 (((routesK (mkSecs c d) (mkPts c) rs k) ++ [(walkL (mkSecs c d) (mkPts c) (((rs.getD k []).getD 0 0) % ((mkSecs c d).length : Int)) (((rs.getD k []).getD 0 0) / 128) ((rs.getD k []).drop 2) (2 + (((rs.getD k []).getD 1 0) % 5)) : (List Int))]).length), .i (1 + e % (2 * (10 * (1 + d % 20)))), .i (1 + g % 1000), .i (1 + j % 1000), .i (1 + m), .i (r % 4)], 39, 1⟩
abbrev Z2i (k : Nat) : Nat → AV := (upd (upd (upd (upd none_ 1 (.pt 2 0)) 2 (.pt 3 0)) 3 (.pt 1 0)) 4 (.i (k : Int)))
abbrev Z2h (c d : Int) (rs : List (List Int)) (k : Nat) : AV := (.q eI (walkL (mkSecs c d) (mkPts c) (((rs.getD k []).getD 0 0) % ((mkSecs c d).length : Int)) (((rs.getD k []).getD 0 0) / 128) ((rs.getD k []).drop 2) (2 + (((rs.getD k []).getD 1 0) % 5))))
abbrev Z2g (c d jn : Int) (rs : List (List Int)) (k : Nat) (e g j m r : Int) : List AV := [.one, .q eSec (mkSecs c d), .q eIL (mkParts c jn), .q ePnt (mkPts c), .sl 4 0 ((routesK (mkSecs c d) (mkPts c) rs k).length), .i (1 + e % (2 * (10 * (1 + d % 20)))), .i (1 + g % 1000), .i (1 + j % 1000), .i (1 + m), .i (r % 4)]
abbrev Z2f (c d jn : Int) (rs : List (List Int)) (k : Nat) (e g j m r : Int) : Nat → OSt := (updO (updO (updO (updO noOb 1 (.live ⟨(Z2g c d jn rs k e g j m r), 39, 1⟩)) 2 (.live ⟨(Z2k c d e g j m r jn rs), 25, 1⟩)) 3 (.live ⟨[vN, vN, vN, vN, vN, .i 0, .i 0, .i 0, .i 0, .i 0], 39, 1⟩)) 4 (.live ⟨(enc eIL (routesK (mkSecs c d) (mkPts c) rs k)), 48, 1⟩))
theorem r05_Full (c d e g j m r jn : Int) (rs : List (List Int)) (hf : 0 ≤ c ∧ c ≤ 255) (hl : 0 ≤ d ∧ d ≤ 255) (hs : 0 ≤ e ∧ e ≤ 255) (hm : 0 ≤ g ∧ g ≤ 65535) (hw : 0 ≤ j ∧ j ≤ 65535) (hc : 0 ≤ m ∧ m ≤ 255) (hy : 0 ≤ r ∧ r ≤ 255) (hj : 0 ≤ jn ∧ jn ≤ 255) (hn : rs.length ≤ 65536) (hx : ∀ x, x ∈ rs → x.length ≤ 65536 ∧ ∀ y, y ∈ x → 0 ≤ y ∧ y ≤ 255) : Fn Try.prog 13 [.agg [.v (.int .u8 c), .v (.int .u8 d), .v (.int .u8 e), .v (.int .u16 g), .v (.int .u16 j), .v (.int .u8 m), .v (.int .u8 r), .v (.int .u8 jn), .ro rs.length (enc eUL rs)]] (.agg [.one, .ro ((mkSecs c d).length) (enc eSec (mkSecs c d)), .ro ((mkParts c jn).length) (enc eIL (mkParts c jn)), .ro ((mkPts c).length) (enc ePnt (mkPts c)), .ro ((fullRoutes c d rs).length) (enc eIL (fullRoutes c d rs)), .v (.int .i64 (1 + e % (2 * (10 * (1 + d % 20))))), .v (.int .i64 (1 + g % 1000)), .v (.int .i64 (1 + j % 1000)), .v (.int .i64 (1 + m)), .v (.int .i64 (r % 4))]) := by
 have hel := mkEnds_len c
 have hsl := mkSecs_len c d
 have hpl := mkPts_len c
 refine fnC_of_body (N := 63) Try.func13 rfl rfl (by simp) (fun w0 X hL_ => ?_)
 refine seqR ?_
 refine oG (qW 51 ?_)
 refine oG (aop_alloc 52 rfl rfl rfl rfl ze39 rfl ?_)
 refine op0 ?_
 refine seqR ?_
 refine oG (qLB (Z2k c d e g j m r jn rs) ag25 sz25 ?_)
 refine oG (qC (r04_Make c d e g j m r jn oo oo oo oo oo oo oo oo) bd25 ?_)
 refine oG (aop_alloc 53 rfl rfl rfl rfl ze39 rfl ?_)
 refine oG (qS sz39 ?_)
 refine rU (upd (upd (upd none_ 1 (.pt 51 0)) 2 (.pt 52 0)) 3 (.pt 53 0)) (updO (updO (updO (updO noOb 51 (.live ⟨(Z2k c d e g j m r jn rs), 25, 1⟩)) 52 (.live ⟨[vN, vN, vN, vN, vN, .i 0, .i 0, .i 0, .i 0, .i 0], 39, 1⟩)) 53 (.live ⟨[vN, vN, vN, vN, vN, .i 0, .i 0, .i 0, .i 0, .i 0], 39, 1⟩)) 53 (.live ⟨[.one, .q eSec (mkSecs c d), .q eIL (mkParts c jn), .q ePnt (mkPts c), vN, .i (1 + e % (2 * (10 * (1 + d % 20)))), .i (1 + g % 1000), .i (1 + j % 1000), .i (1 + m), .i (r % 4)], 39, 1⟩)) ?_
 refine awp_seq ?_
 refine seqR ?_
 refine mG (.i 0) ?_
 refine op0 ?_
 refine awp_block ?_
 refine awp_countI (fun k => ⟨(Z2i k), (Z2f c d jn rs k e g j m r)⟩) (fun k => True) (rs.length) ?_ trivial (fun k hk_k hinv => ?_)
 ·skip
  refine (imp_adoptC 53 4 54 48 1 rfl rfl rfl rfl).trans ?_
  exact iL [(53, 1), (51, 2), (52, 3), (54, 4)] [((53, 1), .live _), ((51, 2), .live _), ((52, 3), .live _), ((54, 4), .live _)] ⟨row_map (o := ⟨[.one, .q eSec (mkSecs c d), .q eIL (mkParts c jn), .q ePnt (mkPts c), .sl 54 0 0, .i (1 + e % (2 * (10 * (1 + d % 20)))), .i (1 + g % 1000), .i (1 + j % 1000), .i (1 + m), .i (r % 4)], 39, 1⟩) rfl (om_ (lm_cons (am_no (a := .one)) (lm_cons (am_no (a := .q eSec (mkSecs c d))) (lm_cons (am_no (a := .q eIL (mkParts c jn))) (lm_cons (am_no (a := .q ePnt (mkPts c))) (lm_cons rfl (lm_cons (am_no (a := .i (1 + e % (2 * (10 * (1 + d % 20)))))) (lm_cons (am_no (a := .i (1 + g % 1000))) (lm_cons (am_no (a := .i (1 + j % 1000))) (lm_cons (am_no (a := .i (1 + m))) (lm_cons (am_no (a := .i (r % 4))) lm_nil))))))))))) (oks_cons (ok_no (a := .one)) (oks_cons (ok_no (a := .q eSec (mkSecs c d))) (oks_cons (ok_no (a := .q eIL (mkParts c jn))) (oks_cons (ok_no (a := .q ePnt (mkPts c))) (oks_cons (.sl _ _ _ (by simp)) (oks_cons (ok_no (a := .i (1 + e % (2 * (10 * (1 + d % 20)))))) (oks_cons (ok_no (a := .i (1 + g % 1000))) (oks_cons (ok_no (a := .i (1 + j % 1000))) (oks_cons (ok_no (a := .i (1 + m))) (oks_cons (ok_no (a := .i (r % 4))) oks_nil)))))))))), row_no rfl rfl, row_no rfl rfl, row_no (o := ⟨[], 48, 1⟩) rfl rfl, trivial⟩
 have hrk := routesK_len (mkSecs c d) (mkPts c) rs k
 refine awp_seq ?_
 refine seqR ?_
 refine mG (.i (k : Int)) ?_
 refine fG (.pt 2 8) ft25_8 sz23 ?_
 refine oG (qL (.q eUL rs) ag23 ?_)
 refine oG (qN ut23 ?_)
 refine bG ((.bool (decide ((k : Int) < (rs.length : Int))))) ?_
 refine mG (.b (decide ((k : Int) < (rs.length : Int)))) ?_
 refine aops_grp 5 19 (.b ((decide ((k : Int) < (rs.length : Int))) && (decide (((routesK (mkSecs c d) (mkPts c) rs k).length : Int) < 16)))) ?_ ?_
 ·refine (Bool.eq_false_or_eq_true (decide ((k : Int) < (rs.length : Int)))).elim (fun hg1 => ?_) (fun hg1 => ?_)
  ·skip
   have hf2 := of_decide_eq_true hg1
   refine oY hg1 (qF (.pt 1 0) (.pt 1 4) ft39_4 sz36 ?_)
   refine oY hg1 (qL (.sl 4 0 ((routesK (mkSecs c d) (mkPts c) rs k).length)) ag36 ?_)
   refine oY hg1 (aop_len rfl rfl rfl rfl ut36 (len_sl rfl) ?_)
   refine oY hg1 (qB (.bool (decide (((routesK (mkSecs c d) (mkPts c) rs k).length : Int) < 16))) rfl ?_)
   refine oG (qP (decide ((k : Int) < (rs.length : Int))) (.b (decide (((routesK (mkSecs c d) (mkPts c) rs k).length : Int) < 16))) hg1 ?_)
   refine op0 ?_
   exact imp_env (lee_both 19 _ _ (by rw [hg1] <;> rfl) lO)
  have hf3 := of_decide_eq_false hg1
  refine nG hg1 ?_
  refine nG hg1 ?_
  refine nG hg1 ?_
  refine nG hg1 ?_
  refine oG (qP (decide ((k : Int) < (rs.length : Int))) (.b false) hg1 ?_)
  refine op0 ?_
  exact imp_env (lee_both 19 _ _ (by rw [hg1] <;> rfl) lO)
 refine op0 ?_
 refine rT (upd (Z2i k) 19 (.b ((decide ((k : Int) < (rs.length : Int))) && (decide (((routesK (mkSecs c d) (mkPts c) rs k).length : Int) < 16))))) (Z2f c d jn rs k e g j m r) ?_
 refine awp_cond ((decide ((k : Int) < (rs.length : Int))) && (decide (((routesK (mkSecs c d) (mkPts c) rs k).length : Int) < 16))) rfl rfl (fun hc0 => ?_) (fun hc0 => ?_)
 ·skip
  obtain ⟨hf4a, hf4b⟩ := and_t hc0
  have hf5 := of_decide_eq_true hf4a
  have hf6 := of_decide_eq_true hf4b
  have hkr : k < rs.length := by simp at hc0; omega
  have hr16 : (routesK (mkSecs c d) (mkPts c) rs k).length < 16 := by simp at hc0; omega
  have hxk := hx _ (getD_mem [] hkr)
  refine awp_skip ?_
  refine awp_seq ?_
  refine awp_block ?_
  refine seqR ?_
  refine fG (.pt 2 8) ft25_8 sz23 ?_
  refine oG (qL (.q eUL rs) ag23 ?_)
  refine mG (.i (k : Int)) ?_
  refine oG (qX [] ut23 sz27 ?_)
  refine oG (qL (.q eU8 (rs.getD k [])) ag27 ?_)
  refine mG (.q eU8 (rs.getD k [])) ?_
  refine rU (upd (Z2i k) 5 (.q eU8 (rs.getD k []))) (Z2f c d jn rs k e g j m r) ?_
  refine awp_seq ?_
  refine seqR ?_
  refine mG (.q eU8 (rs.getD k [])) ?_
  refine oG (qN ut27 ?_)
  refine bG ((.bool (decide (((rs.getD k []).length : Int) < 2)))) ?_
  refine op0 ?_
  refine awp_cond (decide (((rs.getD k []).length : Int) < 2)) rfl rfl (fun hc1 => ?_) (fun hc1 => ?_)
  ·skip
   have hf7 := of_decide_eq_true hc1
   refine awp_exit ?_
   refine regR ?_
   refine mG (.i (k : Int)) ?_
   refine oG (qB (.int .i64 ((k + 1 : Nat) : Int)) (addN om) ?_)
   refine mG (.i ((k + 1 : Nat) : Int)) ?_
   refine op0 ?_
   show _ ∧ _
   have hs_ := routesK_skip (secs := (mkSecs c d)) (pts := (mkPts c)) (rs := rs) (k := k) (.inl (by simp at hc1; omega))
   refine ⟨by omega, trivial, ?_⟩
   exact iL [(1, 1), (2, 2), (3, 3), (4, 4)] [((1, 1), .live _), ((2, 2), .live _), ((3, 3), .live _), ((4, 4), .live _)] ⟨row_map (o := ⟨(Z2g c d jn rs k e g j m r), 39, 1⟩) rfl (by (try simp only [Z2k, Z2j, Z2g]); rw [hs_]; exact (om_ (lm_cons (am_no (a := .one)) (lm_cons (am_no (a := .q eSec (mkSecs c d))) (lm_cons (am_no (a := .q eIL (mkParts c jn))) (lm_cons (am_no (a := .q ePnt (mkPts c))) (lm_cons rfl (lm_cons (am_no (a := .i (1 + e % (2 * (10 * (1 + d % 20)))))) (lm_cons (am_no (a := .i (1 + g % 1000))) (lm_cons (am_no (a := .i (1 + j % 1000))) (lm_cons (am_no (a := .i (1 + m))) (lm_cons (am_no (a := .i (r % 4))) lm_nil)))))))))))) (oks_cons (ok_no (a := .one)) (oks_cons (ok_no (a := .q eSec (mkSecs c d))) (oks_cons (ok_no (a := .q eIL (mkParts c jn))) (oks_cons (ok_no (a := .q ePnt (mkPts c))) (oks_cons (.sl _ _ _ (by simp)) (oks_cons (ok_no (a := .i (1 + e % (2 * (10 * (1 + d % 20)))))) (oks_cons (ok_no (a := .i (1 + g % 1000))) (oks_cons (ok_no (a := .i (1 + j % 1000))) (oks_cons (ok_no (a := .i (1 + m))) (oks_cons (ok_no (a := .i (r % 4))) oks_nil)))))))))), row_no rfl rfl, row_no rfl rfl, row_no rfl (by exact congrArg (fun l_ => LObj.mk (enc eIL l_) 48 1) hs_), trivial⟩
  have hf8 := of_decide_eq_false hc1
  have hx2 : ¬ (rs.getD k []).length < 2 := by simp at hc1; omega
  have hx0 := hxk.2 _ (getD_mem (l := (rs.getD k [])) (k := 0) 0 om)
  have hx1 := hxk.2 _ (getD_mem (l := (rs.getD k [])) (k := 1) 0 om)
  have hxd : ∀ y, y ∈ (rs.getD k []).drop 2 → 0 ≤ y ∧ y ≤ 255 := fun y hy => hxk.2 y (List.mem_of_mem_drop hy)
  have hmd := modB (a := (rs.getD k []).getD 0 0) (b := ((mkSecs c d).length : Int)) om
  refine awp_skip ?_
  refine awp_seq ?_
  refine aD 23 [(52, .q eI (walkL (mkSecs c d) (mkPts c) (((rs.getD k []).getD 0 0) % ((mkSecs c d).length : Int)) (((rs.getD k []).getD 0 0) / 128) ((rs.getD k []).drop 2) (2 + (((rs.getD k []).getD 1 0) % 5)))), (51, .i (2 + (((rs.getD k []).getD 1 0) % 5))), (50, .i (((rs.getD k []).getD 1 0) % 5)), (49, .v (.int .u8 (((rs.getD k []).getD 1 0) % 5))), (48, .v (.int .u8 ((rs.getD k []).getD 1 0))), (47, .rp (([.v (.int .u8 ((rs.getD k []).getD 1 0))] : List AV) ++ ((enc eU8 (rs.getD k [])).drop ((1 + 1) * 1)))), (46, .q eU8 (rs.getD k [])), (45, .q eU8 ((rs.getD k []).drop 2)), (44, .q eU8 (rs.getD k [])), (43, .i (((rs.getD k []).getD 0 0) / 128)), (42, .v (.int .u8 (((rs.getD k []).getD 0 0) / 128))), (41, .v (.int .u8 ((rs.getD k []).getD 0 0))), (40, .rp (([.v (.int .u8 ((rs.getD k []).getD 0 0))] : List AV) ++ ((enc eU8 (rs.getD k [])).drop ((0 + 1) * 1)))), (39, .q eU8 (rs.getD k [])), (38, .i (((rs.getD k []).getD 0 0) % ((mkSecs c d).length : Int))), (37, .i ((mkSecs c d).length : Int)), (36, .q eSec (mkSecs c d)), (35, .pt 1 1), (34, .i ((rs.getD k []).getD 0 0)), (33, .v (.int .u8 ((rs.getD k []).getD 0 0))), (32, .rp (([.v (.int .u8 ((rs.getD k []).getD 0 0))] : List AV) ++ ((enc eU8 (rs.getD k [])).drop ((0 + 1) * 1)))), (31, .q eU8 (rs.getD k [])), (30, .agg (Z2g c d jn rs k e g j m r))] mixed ?_ ?_
  ·iterate 23 (refine ⟨?_, ?_⟩; rotate_left)
   trivial
   ·exact sLB (Z2g c d jn rs k e g j m r) ag39 sz39
   ·exact sMv
   ·exact dW 32 fun st hob hE => aop_ixE (k := 0) 0 rfl rfl rfl ut27 sz5 (hE 31 rfl) rfl (fun _ => rfl) rfl oo (by rw [hob]; rfl)
   ·exact (sLd ag5)
   ·exact dW 34 fun st hob hE => aop_conv' rfl rfl rfl ut5 ut3 (hE 33 rfl) (IntWalk.i64_in _ om) (by rw [hob]; rfl)
   ·exact sF (.pt 1 0) (.pt 1 1) ft39_1 sz35
   ·exact sL ag35
   ·exact dW 37 fun st hob hE => aop_len rfl rfl rfl rfl ut35 (len_ro (hE 36 rfl)) (by rw [hob]; rfl)
   ·exact dW 38 fun st hob hE => aop_binI (u := (.int .i64 (((rs.getD k []).getD 0 0) % ((mkSecs c d).length : Int)))) rfl rfl rfl (hE 34 rfl) (hE 37 rfl) (by show _ ≠ _; omega) (remI om) (by rw [hob]; rfl)
   ·exact sMv
   ·exact dW 40 fun st hob hE => aop_ixE (k := 0) 0 rfl rfl rfl ut27 sz5 (hE 39 rfl) rfl (fun _ => rfl) rfl oo (by rw [hob]; rfl)
   ·exact (sLd ag5)
   ·exact dW 42 fun st hob hE => aop_binI (u := (.int .u8 (((rs.getD k []).getD 0 0) / 128))) rfl rfl rfl (hE 41 rfl) rfl (by show _ ≠ _; decide) (quoU8 om) (by rw [hob]; rfl)
   ·exact dW 43 fun st hob hE => aop_conv' rfl rfl rfl ut5 ut3 (hE 42 rfl) (IntWalk.i64_in _ om) (by rw [hob]; rfl)
   ·exact sMv
   ·exact dW 45 fun st hob hE => aop_sliceRoN (l := 2) (hgh := ((rs.getD k []).length)) (cells' := enc eU8 ((rs.getD k []).drop 2)) (((rs.getD k []).drop 2)).length rfl rfl rfl ut27 sz5 (hE 44 rfl) ⟨_, rfl⟩ rfl oo oo (sliceE1 (f := eU8) (fun _ => rfl) _ _ _ rfl) oz (by rw [hob]; rfl)
   ·exact sMv
   ·exact dW 47 fun st hob hE => aop_ixE (k := 1) 0 rfl rfl rfl ut27 sz5 (hE 46 rfl) rfl (fun _ => rfl) rfl oo (by rw [hob]; rfl)
   ·exact (sLd ag5)
   ·exact dW 49 fun st hob hE => aop_binI (u := (.int .u8 (((rs.getD k []).getD 1 0) % 5))) rfl rfl rfl (hE 48 rfl) rfl (by show _ ≠ _; decide) (remI om) (by rw [hob]; rfl)
   ·exact dW 50 fun st hob hE => aop_conv' rfl rfl rfl ut5 ut3 (hE 49 rfl) (IntWalk.i64_in _ om) (by rw [hob]; rfl)
   ·exact sB (.int .i64 (2 + (((rs.getD k []).getD 1 0) % 5))) (addI om)
   exact sC (r05_Walk (mkSecs c d) (mkPts c) _ _ ((rs.getD k []).drop 2) (2 + (rs.getD k []).getD 1 0 % 5) om om (by rw [List.length_drop]; omega) om hxd) bd27
  refine mG (Z2h c d rs k) ?_
  refine op0 ?_
  refine rT (upd (upd (Z2i k) 5 (.q eU8 (rs.getD k []))) 6 (Z2h c d rs k)) (Z2f c d jn rs k e g j m r) ?_
  refine seqR ?_
  refine mG (Z2h c d rs k) ?_
  refine oG (qN ut48 ?_)
  refine bG ((.bool (decide (((walkL (mkSecs c d) (mkPts c) (((rs.getD k []).getD 0 0) % ((mkSecs c d).length : Int)) (((rs.getD k []).getD 0 0) / 128) ((rs.getD k []).drop 2) (2 + (((rs.getD k []).getD 1 0) % 5))).length : Int) ≥ 2)))) ?_
  refine op0 ?_
  refine awp_cond (decide (((walkL (mkSecs c d) (mkPts c) (((rs.getD k []).getD 0 0) % ((mkSecs c d).length : Int)) (((rs.getD k []).getD 0 0) / 128) ((rs.getD k []).drop 2) (2 + (((rs.getD k []).getD 1 0) % 5))).length : Int) ≥ 2)) rfl rfl (fun hc2 => ?_) (fun hc2 => ?_)
  ·skip
   have hf9 := of_decide_eq_true hc2
   have hwl := walkL_len (mkSecs c d) (mkPts c) ((rs.getD k []).getD 0 0 % ((mkSecs c d).length : Int)) ((rs.getD k []).getD 0 0 / 128) ((rs.getD k []).drop 2) (2 + (rs.getD k []).getD 1 0 % 5)
   refine regR ?_
   refine fG (.pt 1 4) ft39_4 sz36 ?_
   refine oG (qL (.sl 4 0 ((routesK (mkSecs c d) (mkPts c) rs k).length)) ag36 ?_)
   refine mG (Z2h c d rs k) ?_
   refine oG (aop_lit rfl rfl rfl ut36 iz48 (by decide) (by decide) rfl rfl ?_)
   refine oG (aop_app1 (f := eIL) (l := routesK (mkSecs c d) (mkPts c) rs k) 55 (walkL (mkSecs c d) (mkPts c) (((rs.getD k []).getD 0 0) % ((mkSecs c d).length : Int)) (((rs.getD k []).getD 0 0) / 128) ((rs.getD k []).drop 2) (2 + (((rs.getD k []).getD 1 0) % 5)) : (List Int)) rfl rfl rfl rfl ut36 in48 rfl (by decide) rfl rfl rfl rfl rfl rfl (fun _ => rfl) rfl rfl oo oo rfl ?_)
   refine fG (.pt 1 4) ft39_4 sz36 ?_
   refine oG (qS sz36 ?_)
   refine op0 ?_
   refine rT (upd (upd (Z2i k) 5 (.q eU8 (rs.getD k []))) 6 (Z2h c d rs k)) (updO (updO (updO (Z2f c d jn rs k e g j m r) 4 .dead) 55 (.live ⟨(enc eIL ((routesK (mkSecs c d) (mkPts c) rs k) ++ [(walkL (mkSecs c d) (mkPts c) (((rs.getD k []).getD 0 0) % ((mkSecs c d).length : Int)) (((rs.getD k []).getD 0 0) / 128) ((rs.getD k []).drop 2) (2 + (((rs.getD k []).getD 1 0) % 5)) : (List Int))])), 48, 1⟩)) 1 (.live (Z2j c d jn rs k e g j m r))) ?_
   refine regR ?_
   refine mG (.i (k : Int)) ?_
   refine oG (qB (.int .i64 ((k + 1 : Nat) : Int)) (addN om) ?_)
   refine mG (.i ((k + 1 : Nat) : Int)) ?_
   refine op0 ?_
   show _ ∧ _
   have hs_ := routesK_add (secs := (mkSecs c d)) (pts := (mkPts c)) (rs := rs) (k := k) hr16 hx2 (by unfold routeOf; simp at hc2; omega)
   refine ⟨by omega, trivial, ?_⟩
   exact iL [(1, 1), (2, 2), (3, 3), (55, 4)] [((1, 1), .live _), ((2, 2), .live _), ((3, 3), .live _), ((55, 4), .live _)] ⟨row_map (o := (Z2j c d jn rs k e g j m r)) rfl (by (try simp only [Z2k, Z2j, Z2g]); rw [hs_]; exact (om_ (lm_cons (am_no (a := .one)) (lm_cons (am_no (a := .q eSec (mkSecs c d))) (lm_cons (am_no (a := .q eIL (mkParts c jn))) (lm_cons (am_no (a := .q ePnt (mkPts c))) (lm_cons rfl (lm_cons (am_no (a := .i (1 + e % (2 * (10 * (1 + d % 20)))))) (lm_cons (am_no (a := .i (1 + g % 1000))) (lm_cons (am_no (a := .i (1 + j % 1000))) (lm_cons (am_no (a := .i (1 + m))) (lm_cons (am_no (a := .i (r % 4))) lm_nil)))))))))))) (oks_cons (ok_no (a := .one)) (oks_cons (ok_no (a := .q eSec (mkSecs c d))) (oks_cons (ok_no (a := .q eIL (mkParts c jn))) (oks_cons (ok_no (a := .q ePnt (mkPts c))) (oks_cons (.sl _ _ _ (by simp)) (oks_cons (ok_no (a := .i (1 + e % (2 * (10 * (1 + d % 20)))))) (oks_cons (ok_no (a := .i (1 + g % 1000))) (oks_cons (ok_no (a := .i (1 + j % 1000))) (oks_cons (ok_no (a := .i (1 + m))) (oks_cons (ok_no (a := .i (r % 4))) oks_nil)))))))))), row_no rfl rfl, row_no rfl rfl, row_no rfl (by exact congrArg (fun l_ => LObj.mk (enc eIL l_) 48 1) hs_), trivial⟩
  have hf10 := of_decide_eq_false hc2
  refine awp_skip ?_
  refine regR ?_
  refine mG (.i (k : Int)) ?_
  refine oG (qB (.int .i64 ((k + 1 : Nat) : Int)) (addN om) ?_)
  refine mG (.i ((k + 1 : Nat) : Int)) ?_
  refine op0 ?_
  show _ ∧ _
  have hs_ := routesK_skip (secs := (mkSecs c d)) (pts := (mkPts c)) (rs := rs) (k := k) (.inr (by unfold routeOf; simp at hc2; omega))
  refine ⟨by omega, trivial, ?_⟩
  exact iL [(1, 1), (2, 2), (3, 3), (4, 4)] [((1, 1), .live _), ((2, 2), .live _), ((3, 3), .live _), ((4, 4), .live _)] ⟨row_map (o := ⟨(Z2g c d jn rs k e g j m r), 39, 1⟩) rfl (by (try simp only [Z2k, Z2j, Z2g]); rw [hs_]; exact (om_ (lm_cons (am_no (a := .one)) (lm_cons (am_no (a := .q eSec (mkSecs c d))) (lm_cons (am_no (a := .q eIL (mkParts c jn))) (lm_cons (am_no (a := .q ePnt (mkPts c))) (lm_cons rfl (lm_cons (am_no (a := .i (1 + e % (2 * (10 * (1 + d % 20)))))) (lm_cons (am_no (a := .i (1 + g % 1000))) (lm_cons (am_no (a := .i (1 + j % 1000))) (lm_cons (am_no (a := .i (1 + m))) (lm_cons (am_no (a := .i (r % 4))) lm_nil)))))))))))) (oks_cons (ok_no (a := .one)) (oks_cons (ok_no (a := .q eSec (mkSecs c d))) (oks_cons (ok_no (a := .q eIL (mkParts c jn))) (oks_cons (ok_no (a := .q ePnt (mkPts c))) (oks_cons (.sl _ _ _ (by simp)) (oks_cons (ok_no (a := .i (1 + e % (2 * (10 * (1 + d % 20)))))) (oks_cons (ok_no (a := .i (1 + g % 1000))) (oks_cons (ok_no (a := .i (1 + j % 1000))) (oks_cons (ok_no (a := .i (1 + m))) (oks_cons (ok_no (a := .i (r % 4))) oks_nil)))))))))), row_no rfl rfl, row_no rfl rfl, row_no rfl (by exact congrArg (fun l_ => LObj.mk (enc eIL l_) 48 1) hs_), trivial⟩
 have hex : (routesK (mkSecs c d) (mkPts c) rs k).length ≥ 16 ∨ rs.length ≤ k := (Nat.lt_or_ge k rs.length).elim (fun h => .inl (by simp [h] at hc0; omega)) .inr
 refine awp_exit ?_
 refine seqR ?_
 refine oG (qLB (Z2g c d jn rs k e g j m r) ag39 sz39 ?_)
 refine oG (qS sz39 ?_)
 refine op0 ?_
 refine awp_imp _ ((frz_ [3] [(3, ⟨[.one, .q eSec (mkSecs c d), .q eIL (mkParts c jn), .q ePnt (mkPts c), .q eIL (routesK (mkSecs c d) (mkPts c) rs k), .i (1 + e % (2 * (10 * (1 + d % 20)))), .i (1 + g % 1000), .i (1 + j % 1000), .i (1 + m), .i (r % 4)], 39, 1⟩)] rfl (fun _ h => h) ⟨keep_cells (cs := (Z2g c d jn rs k e g j m r)) (by simp) rfl rfl (frzs_cons (.inl rfl) (frzs_cons (.inl rfl) (frzs_cons (.inl rfl) (frzs_cons (.inl rfl) (frzs_cons (.inr (lend_s (id := 4) (n := (routesK (mkSecs c d) (mkPts c) rs k).length) (o := ⟨(enc eIL (routesK (mkSecs c d) (mkPts c) rs k)), 48, 1⟩) rfl (enc_len (fun _ => rfl) (by first | rfl | (simp; done))))) fzA))))), trivial⟩ (fz_same 2 (.pt 3 0) rfl fz_none))) ?_
 refine awp_ret ?_
 exact fretC (p := 2) rfl rfl ag39 sz39 rfl rfl (Nat.le_of_ble_eq_true rfl) rfl (by rw [← fullRoutes_end (k := k) om hex]; rfl)
theorem ag102 : aggT Try.prog 102 = some true := by kernel_rfl
theorem ag115 : aggT Try.prog 115 = some false := by kernel_rfl
theorem bd72 : bodied Try.prog 72 = true := by kernel_rfl
theorem bd80 : bodied Try.prog 80 = true := by kernel_rfl
theorem bd85 : bodied Try.prog 85 = true := by kernel_rfl
theorem bd86 : bodied Try.prog 86 = true := by kernel_rfl
theorem bd87 : bodied Try.prog 87 = true := by kernel_rfl
theorem bd88 : bodied Try.prog 88 = true := by kernel_rfl
theorem bd89 : bodied Try.prog 89 = true := by kernel_rfl
theorem bd90 : bodied Try.prog 90 = true := by kernel_rfl
theorem bd91 : bodied Try.prog 91 = true := by kernel_rfl
theorem bd92 : bodied Try.prog 92 = true := by kernel_rfl
theorem bd93 : bodied Try.prog 93 = true := by kernel_rfl
theorem bd94 : bodied Try.prog 94 = true := by kernel_rfl
theorem bd95 : bodied Try.prog 95 = true := by kernel_rfl
theorem ft121_0 : fieldT Try.prog 121 0 = some (39, 0) := by kernel_rfl
theorem iz115 : (Try.prog.info? 115).map (fun i => (i.zero, i.size)) = some (some (.slice none 0 0), 1) := by kernel_rfl
theorem sz115 : (Try.prog.info? 115).map (·.size) = some 1 := by kernel_rfl
theorem ut159 : Try.prog.underlying 159 = some (.slice 115) := by kernel_rfl
theorem ut78 : Try.prog.underlying 78 = some (.pointer 121) := by kernel_rfl
theorem ze102 : (Try.prog.info? 102).bind (·.zero) = some (.agg #[(.int .i64 0), (.int .i64 0), (.int .i64 0)]) := by kernel_rfl
abbrev Z2o (c : List Sec) : AV := (.rp [.q eSec c, .one, .one, .one, .one, .one, .one, .one, .one])
abbrev Z2n : LObj := ⟨[.i 0, .i 0, .i 0], 102, 1⟩
abbrev Z2m (c : List Sec) (s : Int) : List AV := [.i ((c.getD s.toNat dS).len), .i ((c.getD s.toNat dS).a), .i ((c.getD s.toNat dS).b)]
abbrev Z2l (c : List Sec) : AV := (.rp [.one, .q eSec c, .one, .one, .one, .one, .one, .one, .one, .one])
theorem g_section (c : List Sec) (s : Int) (hs : c.length ≤ 65536) : Fn Try.prog 92 [.rp [.one, .ro c.length (enc eSec c), .one, .one, .one, .one, .one, .one, .one, .one], .v (.int .i64 s)] (.tup [.agg [.v (.int .i64 ((secV c s).len)), .v (.int .i64 ((secV c s).a)), .v (.int .i64 ((secV c s).b))], .v (.bool (!noSec c s))]) := by
 refine fnC_of_body (N := 31) Try.func92 rfl rfl (by simp) (fun w0 X hL_ => ?_)
 refine seqR ?_
 refine oG (aop_alloc 51 rfl rfl rfl rfl ze102 rfl ?_)
 refine mG (.b false) ?_
 refine op0 ?_
 refine awp_seq ?_
 refine seqR ?_
 refine mG (Z2l c) ?_
 refine oG (aop_ptNil rfl rfl rfl ut78 rfl rfl rfl (.inl ⟨rfl, rfl⟩) ?_)
 refine mG (.b false) ?_
 refine opY rfl rfl rfl rfl (aop_move (av := .i s) (.inl rfl) rfl rfl rfl ?_)
 refine opY rfl rfl rfl rfl (aop_binI (u := (.bool (decide (s < 0)))) rfl rfl rfl rfl rfl trivial rfl ?_)
 refine oG (aop_pick (b := false) (av := .b (decide (s < 0))) rfl rfl rfl rfl rfl ?_)
 refine mG (.b (decide (s < 0))) ?_
 refine aops_grp 9 21 (.b ((decide (s < 0)) || (decide (s ≥ (c.length : Int))))) ?_ ?_
 ·refine (Bool.eq_false_or_eq_true (decide (s < 0))).elim (fun hg1 => ?_) (fun hg1 => ?_)
  ·skip
   have hf2 := of_decide_eq_true hg1
   refine nG hg1 ?_
   refine nG hg1 ?_
   refine nG hg1 ?_
   refine nG hg1 ?_
   refine nG hg1 ?_
   refine nG hg1 ?_
   refine nG hg1 ?_
   refine nG hg1 ?_
   refine oG (qP (decide (s < 0)) (.b true) hg1 ?_)
   refine op0 ?_
   exact imp_env (lee_both 21 _ _ (by rw [hg1] <;> rfl) lO)
  have hf3 := of_decide_eq_false hg1
  refine oY hg1 (qM (.i s) ?_)
  refine oY hg1 (qM (Z2l c) ?_)
  refine oY hg1 (aop_nilCheck rfl rfl rfl rfl rfl ?_)
  refine oY hg1 (qF (Z2l c) (Z2l c) ft121_0 sz39 ?_)
  refine oY hg1 (qF (Z2l c) (Z2o c) ft39_1 sz35 ?_)
  refine oY hg1 (qL (.q eSec c) ag35 ?_)
  refine oY hg1 (qN ut35 ?_)
  refine oY hg1 (qB (.bool (decide (s ≥ (c.length : Int)))) rfl ?_)
  refine oG (qP (decide (s < 0)) (.b (decide (s ≥ (c.length : Int)))) hg1 ?_)
  refine op0 ?_
  exact imp_env (lee_both 21 _ _ (by rw [hg1] <;> rfl) lO)
 refine op0 ?_
 refine rT (upd (upd (upd (upd (upd none_ 0 (Z2l c)) 1 (.i s)) 4 (.pt 51 0)) 5 (.b false)) 21 (.b ((decide (s < 0)) || (decide (s ≥ (c.length : Int)))))) (updO noOb 51 (.live Z2n)) ?_
 refine awp_cond ((decide (s < 0)) || (decide (s ≥ (c.length : Int)))) rfl rfl (fun hc0 => ?_) (fun hc0 => ?_)
 ·skip
  have hn : noSec c s = true := hc0
  refine seqR ?_
  refine oG (qD pl102 ?_)
  refine oG (qS sz102 ?_)
  refine mG (.b false) ?_
  refine op0 ?_
  refine awp_imp _ ((frz_ [51] [(51, Z2n)] rfl (fun _ h => h) ⟨keep_cells (cs := [.i 0, .i 0, .i 0]) (by simp) rfl rfl fzA, trivial⟩ (fz_same 5 (.b false) rfl (fz_same 4 (.pt 51 0) rfl fz_none)))) ?_
  refine awp_ret ?_
  exact fretC2 (p := 4) (q := 5) rfl rfl ag102 sz102 rfl rfl (Nat.le_of_ble_eq_true rfl) rfl rfl rfl (by rw [secV_no hn, hn]; rfl)
 obtain ⟨hf4a, hf4b⟩ := or_f hc0
 have hf5 := of_decide_eq_false hf4a
 have hf6 := of_decide_eq_false hf4b
 have hn : noSec c s = false := hc0
 have hb := noSec_false hn
 refine awp_skip ?_
 refine seqR ?_
 refine mG (Z2l c) ?_
 refine oG (aop_nilCheck rfl rfl rfl rfl rfl ?_)
 refine oG (qF (Z2l c) (Z2l c) ft121_0 sz39 ?_)
 refine oG (qF (Z2l c) (Z2o c) ft39_1 sz35 ?_)
 refine oG (qL (.q eSec c) ag35 ?_)
 refine mG (.i s) ?_
 refine oG (aop_ixI dS rfl rfl rfl ut35 sz102 rfl rfl (fun _ => rfl) rfl om oo ?_)
 refine oG (qLB (Z2m c s) ag102 sz102 ?_)
 refine oG (qS sz102 ?_)
 refine mG (.b true) ?_
 refine rU (upd (upd none_ 4 (.pt 51 0)) 5 (.b true)) (updO (updO noOb 51 (.live Z2n)) 51 (.live ⟨(Z2m c s), 102, 1⟩)) ?_
 refine awp_imp _ ((frz_ [51] [(51, ⟨(Z2m c s), 102, 1⟩)] rfl (fun _ h => h) ⟨keep_cells (cs := (Z2m c s)) (by simp) rfl rfl fzA, trivial⟩ (fz_same 5 (.b true) rfl (fz_same 4 (.pt 51 0) rfl fz_none)))) ?_
 refine awp_ret ?_
 exact fretC2 (p := 4) (q := 5) rfl rfl ag102 sz102 rfl rfl (Nat.le_of_ble_eq_true rfl) rfl rfl rfl (by rw [secV_yes hn, hn]; rfl)
abbrev Z2p (s e : Int) (c : List Sec) : Nat → OSt := (updO (updO (updO noOb 51 (.live ⟨[.i s, .i e], 114, 1⟩)) 52 (.live ⟨[.i 0, .i 0, .i 0], 102, 1⟩)) 52 (.live ⟨[.i ((secV c s).len), .i ((secV c s).a), .i ((secV c s).b)], 102, 1⟩))
theorem g_node (c : List Sec) (s e : Int) (hs : c.length ≤ 65536) : Fn Try.prog 85 [.rp [.one, .ro c.length (enc eSec c), .one, .one, .one, .one, .one, .one, .one, .one], .agg [.v (.int .i64 s), .v (.int .i64 e)]] (.tup [.v (.int .i64 (nodeA c s e)), .v (.bool (!noNode c s e))]) := by
 refine fnE_of_body (N := 33) Try.func85 rfl rfl (resOf2 rfl) (by simp) (fun w0 X hL_ => ?_)
 refine seqR ?_
 refine oG (qW 51 ?_)
 refine mG (.i 0) ?_
 refine mG (.b false) ?_
 refine op0 ?_
 refine seqR ?_
 refine mG (.rp [.one, .q eSec c, .one, .one, .one, .one, .one, .one, .one, .one]) ?_
 refine fG (.pt 51 0) ft114_0 sz3 ?_
 refine oG (qL (.i s) ag3 ?_)
 refine oG (qJ (g_section c s oo) bd92 ?_)
 refine mG (.tup [.agg [.i ((secV c s).len), .i ((secV c s).a), .i ((secV c s).b)], .b (!noSec c s)]) ?_
 refine oG (qE ?_)
 refine oG (qE ?_)
 refine oG (aop_alloc 52 rfl rfl rfl rfl ze102 rfl ?_)
 refine oG (qS sz102 ?_)
 refine mG (.b (!noSec c s)) ?_
 refine rU (upd (upd (upd (upd (upd none_ 3 (.pt 51 0)) 4 (.i 0)) 5 (.b false)) 6 (.pt 52 0)) 7 (.b (!noSec c s))) (Z2p s e c) ?_
 refine awp_seq ?_
 refine awp_block ?_
 refine seqR ?_
 refine mG (.b (!noSec c s)) ?_
 refine mG (.b (!noSec c s)) ?_
 refine aops_grp 4 21 (.b ((!noSec c s) && (e == 0))) ?_ ?_
 ·refine (Bool.eq_false_or_eq_true (!noSec c s)).elim (fun hg1 => ?_) (fun hg1 => ?_)
  ·skip
   refine oY hg1 (qF (.pt 51 0) (.pt 51 1) ft114_1 sz3 ?_)
   refine oY hg1 (qL (.i e) ag3 ?_)
   refine oY hg1 (qB (.bool (e == 0)) rfl ?_)
   refine oG (qP (!noSec c s) (.b (e == 0)) hg1 ?_)
   refine op0 ?_
   exact imp_env (lee_both 21 _ _ (by rw [hg1] <;> rfl) lO)
  refine nG hg1 ?_
  refine nG hg1 ?_
  refine nG hg1 ?_
  refine oG (qP (!noSec c s) (.b false) hg1 ?_)
  refine op0 ?_
  exact imp_env (lee_both 21 _ _ (by rw [hg1] <;> rfl) lO)
 refine mG (.b ((!noSec c s) && (e == 0))) ?_
 refine op0 ?_
 refine awp_cond ((!noSec c s) && (e == 0)) rfl rfl (fun hc0 => ?_) (fun hc0 => ?_)
 ·skip
  obtain ⟨hf2a, hf2b⟩ := and_t hc0
  have hf3 := (beq_iff_eq).1 hf2b
  have hq : noSec c s = false ∧ e = 0 := by simpa using hc0
  have hn := node_0 hq.1 hq.2
  refine seqR ?_
  refine fG (.pt 52 1) ft102_1 sz3 ?_
  refine oG (qL (.i ((secV c s).a)) ag3 ?_)
  refine mG (.i ((secV c s).a)) ?_
  refine mG (.b true) ?_
  refine rU (upd (upd none_ 4 (.i ((secV c s).a))) 5 (.b true)) (Z2p s e c) ?_
  refine awp_ret ?_
  exact fret (av := .tup [.v (.int .i64 ((secV c s).a)), .v (.bool true)]) rfl rfl (by rw [hn.1, hn.2]; rfl)
 have hq : ¬ (noSec c s = false ∧ e = 0) := by simpa using hc0
 refine seqR ?_
 refine mG (.b (!noSec c s)) ?_
 refine mG (.b (!noSec c s)) ?_
 refine aops_grp 4 30 (.b ((!noSec c s) && (e == 1))) ?_ ?_
 ·refine (Bool.eq_false_or_eq_true (!noSec c s)).elim (fun hg4 => ?_) (fun hg4 => ?_)
  ·skip
   refine oY hg4 (qF (.pt 51 0) (.pt 51 1) ft114_1 sz3 ?_)
   refine oY hg4 (qL (.i e) ag3 ?_)
   refine oY hg4 (qB (.bool (e == 1)) rfl ?_)
   refine oG (qP (!noSec c s) (.b (e == 1)) hg4 ?_)
   refine op0 ?_
   exact imp_env (lee_both 30 _ _ (by rw [hg4] <;> rfl) lO)
  refine nG hg4 ?_
  refine nG hg4 ?_
  refine nG hg4 ?_
  refine oG (qP (!noSec c s) (.b false) hg4 ?_)
  refine op0 ?_
  exact imp_env (lee_both 30 _ _ (by rw [hg4] <;> rfl) lO)
 refine mG (.b ((!noSec c s) && (e == 1))) ?_
 refine op0 ?_
 refine rT (upd (upd (upd (upd none_ 4 (.i 0)) 5 (.b false)) 6 (.pt 52 0)) 24 (.b ((!noSec c s) && (e == 1)))) (Z2p s e c) ?_
 refine awp_cond ((!noSec c s) && (e == 1)) rfl rfl (fun hc1 => ?_) (fun hc1 => ?_)
 ·skip
  obtain ⟨hf5a, hf5b⟩ := and_t hc1
  have hf6 := (beq_iff_eq).1 hf5b
  have hq1 : noSec c s = false ∧ e = 1 := by simpa using hc1
  have hn := node_1 hq1.1 hq1.2
  refine seqR ?_
  refine fG (.pt 52 2) ft102_2 sz3 ?_
  refine oG (qL (.i ((secV c s).b)) ag3 ?_)
  refine mG (.i ((secV c s).b)) ?_
  refine mG (.b true) ?_
  refine rU (upd (upd none_ 4 (.i ((secV c s).b))) 5 (.b true)) (Z2p s e c) ?_
  refine awp_ret ?_
  exact fret (av := .tup [.v (.int .i64 ((secV c s).b)), .v (.bool true)]) rfl rfl (by rw [hn.1, hn.2]; rfl)
 have hq1 : ¬ (noSec c s = false ∧ e = 1) := by simpa using hc1
 have hn := node_no (secs := c) (s := s) (e := e) (by cases h : noSec c s with | true => exact .inl rfl | false => exact .inr ⟨fun x => hq ⟨h, x⟩, fun x => hq1 ⟨h, x⟩⟩)
 refine awp_skip ?_
 refine seqR ?_
 refine mG (.i 0) ?_
 refine mG (.b false) ?_
 refine op0 ?_
 refine awp_ret ?_
 exact fret (av := .tup [.v (.int .i64 0), .v (.bool false)]) rfl rfl (by rw [hn.1, hn.2]; rfl)
theorem g_Point1 (x n : Int)  : Fn Try.prog 94 [.agg [.v (.int .i64 x), .one, .one, .one], .rp [.v (.int .i64 n)]] (.v (.bool (decide (x = n)))) := by
 refine fnE_of_body (N := 8) Try.func94 rfl rfl (resOf1 rfl) (by simp) (fun w0 X hL_ => ?_)
 refine seqR ?_
 refine oG (qW 51 ?_)
 refine mG (.b false) ?_
 refine op0 ?_
 refine seqR ?_
 refine fG (.pt 51 0) ft100_0 sz3 ?_
 refine oG (qL (.i x) ag3 ?_)
 refine oG (qL (.i n) ag3 ?_)
 refine bG ((.bool (x == n))) ?_
 refine mG (.b (x == n)) ?_
 refine rU (upd none_ 3 (.b (x == n))) (updO noOb 51 (.live ⟨[.i x, .one, .one, .one], 100, 1⟩)) ?_
 refine awp_ret ?_
 exact fret (av := .v (.bool (x == n))) rfl rfl (by rfl)
abbrev Z2q (a : List Pnt) (n : Int) : Nat → AV := (upd (upd (upd none_ 0 (.q ePnt a)) 1 (.fn 94 [.rp [.i n]])) 4 (.i 0))
theorem ixPt (a : List Pnt) (n : Int) (hp : a.length ≤ 65536) : Fn Try.prog 93 [.ro a.length (enc ePnt a), .fn 94 [.rp [.v (.int .i64 n)]]] (.v (.int .i64 (pointI a n))) := by
 refine fnE_of_body (N := 19) Try.func93 rfl rfl (resOf1 rfl) (by simp) (fun w0 X hL_ => ?_)
 refine seqR ?_
 refine mG (.i 0) ?_
 refine op0 ?_
 refine awp_seq ?_
 refine seqR ?_
 refine mG (.q ePnt a) ?_
 refine oG (qN ut37 ?_)
 refine mG (.i 0) ?_
 refine rU (upd (upd (Z2q a n) 7 (.i (a.length : Int))) 8 (.i 0)) noOb ?_
 refine awp_block ?_
 refine awp_countI (fun k => ⟨(upd (upd (Z2q a n) 7 (.i (a.length : Int))) 8 (.i (k : Int))), noOb⟩) (fun k => (a.take k).any (fun p => decide (p.node = n)) = false) (a.length) ?_ (by simp) (fun k hk_k hinv => ?_)
 ·skip
  exact iN
 refine seqR ?_
 refine bG ((.bool (decide ((k : Int) < (a.length : Int))))) ?_
 refine op0 ?_
 refine awp_seq ?_
 refine awp_cond (decide ((k : Int) < (a.length : Int))) rfl rfl (fun hc0 => ?_) (fun hc0 => ?_)
 ·skip
  have hf1 := of_decide_eq_true hc0
  refine awp_skip ?_
  refine awp_seq ?_
  refine awp_block ?_
  refine seqR ?_
  refine mG (.i (k : Int)) ?_
  refine mG (.i (k : Int)) ?_
  refine op0 ?_
  refine seqR ?_
  refine mG (.fn 94 [.rp [.i n]]) ?_
  refine mG (.q ePnt a) ?_
  refine mG (.i (k : Int)) ?_
  refine oG (qX dP ut37 sz100 ?_)
  refine oG (qLB [.i ((a.getD k dP).node), .i ((a.getD k dP).stem), .i ((a.getD k dP).left), .i ((a.getD k dP).right)] ag100 sz100 ?_)
  refine oG (qC (g_Point1 ((a.getD k dP).node) n) bd94 ?_)
  refine rU (upd (upd (upd (upd (Z2q a n) 5 (.i (k : Int))) 7 (.i (a.length : Int))) 8 (.i (k : Int))) 16 (.b (decide (((a.getD k dP).node) = n)))) noOb ?_
  refine awp_cond (decide (((a.getD k dP).node) = n)) rfl rfl (fun hc1 => ?_) (fun hc1 => ?_)
  ·skip
   refine seqR ?_
   refine mG (.i (k : Int)) ?_
   refine mG (.i (k : Int)) ?_
   refine op0 ?_
   refine awp_ret ?_
   exact fret (av := .v (.int .i64 (k : Int))) rfl rfl (by unfold pointI; rw [idxB_stop dP om hinv hc1] <;> rfl)
  refine awp_skip ?_
  refine regR ?_
  refine oG (qB (.int .i64 ((k + 1 : Nat) : Int)) (addN om) ?_)
  refine mG (.i ((k + 1 : Nat) : Int)) ?_
  refine op0 ?_
  show _ ∧ _
  refine ⟨by omega, (any_step dP om hinv hc1), ?_⟩
  exact iN
 have hf2 := of_decide_eq_false hc0
 refine awp_exit ?_
 refine seqR ?_
 refine mG (.i (-1)) ?_
 refine op0 ?_
 refine awp_ret ?_
 exact fret (av := .v (.int .i64 (-1))) rfl rfl (by unfold pointI; rw [idxB_end om hinv] <;> rfl)
theorem g_Point (a : List Pnt) (n : Int) (hp : a.length ≤ 65536) : Fn Try.prog 86 [.rp [.one, .one, .one, .ro a.length (enc ePnt a), .one, .one, .one, .one, .one, .one], .v (.int .i64 n)] (.v (.int .i64 (pointI a n))) := by
 refine fnE_of_body (N := 14) Try.func86 rfl rfl (resOf1 rfl) (by simp) (fun w0 X hL_ => ?_)
 refine seqR ?_
 refine oG (qW 51 ?_)
 refine mG (.i 0) ?_
 refine op0 ?_
 refine awp_seq ?_
 refine seqR ?_
 refine mG (.rp [.one, .one, .one, .q ePnt a, .one, .one, .one, .one, .one, .one]) ?_
 refine oG (aop_ptNil rfl rfl rfl ut78 rfl rfl rfl (.inl ⟨rfl, rfl⟩) ?_)
 refine rU (upd (upd (upd (upd none_ 0 (.rp [.one, .one, .one, .q ePnt a, .one, .one, .one, .one, .one, .one])) 3 (.pt 51 0)) 4 (.i 0)) 6 (.b false)) (updO noOb 51 (.live ⟨[.i n], 3, 1⟩)) ?_
 refine awp_cond false rfl rfl (fun h => by cases h) (fun _ => ?_)
 refine awp_skip ?_
 refine seqR ?_
 refine mG (.rp [.one, .one, .one, .q ePnt a, .one, .one, .one, .one, .one, .one]) ?_
 refine oG (aop_nilCheck rfl rfl rfl rfl rfl ?_)
 refine oG (qF (.rp [.one, .one, .one, .q ePnt a, .one, .one, .one, .one, .one, .one]) (.rp [.one, .one, .one, .q ePnt a, .one, .one, .one, .one, .one, .one]) ft121_0 sz39 ?_)
 refine oG (qF (.rp [.one, .one, .one, .q ePnt a, .one, .one, .one, .one, .one, .one]) (.rp [.q ePnt a, .one, .one, .one, .one, .one, .one]) ft39_3 sz37 ?_)
 refine oG (qL (.q ePnt a) ag37 ?_)
 refine oG (aop_makeFunc (caps := [.tmp 3]) rfl rfl rfl rfl ?_)
 refine oG (callL_ (ixPt a n hp) rfl rfl rfl rfl rfl bd93 (lends_cons (lend_n (av := .q ePnt a)) (lends_cons (lend_fn (lends_cons (lend_pt rfl lS) lends_nil)) lends_nil)) ?_)
 refine mG (.i (pointI a n)) ?_
 refine rU (upd none_ 4 (.i (pointI a n))) (updO noOb 51 (.live ⟨[.i n], 3, 1⟩)) ?_
 refine awp_ret ?_
 exact fret (av := .v (.int .i64 (pointI a n))) rfl rfl rfl
abbrev Z2z (c : List Sec) (n : Int) (k j : Nat) : Nat → OSt := (updO noOb 1 (.live ⟨(enc eEn (endsJ c n k j)), 114, 2⟩))
abbrev Z2y (c : List Sec) (k : Nat) : List AV := [.i ((secV c (k : Int)).len), .i ((secV c (k : Int)).a), .i ((secV c (k : Int)).b)]
abbrev Z2x (c : List Sec) : AV := (.rp [.one, .q eSec c, .one, .one, .one, .one, .one, .one, .one, .one])
abbrev Z2w (k j : Nat) : En := (⟨(k : Int), (j : Int)⟩ : En)
abbrev Z2t (c : List Sec) (k : Nat) : List AV := [.i ((secV c (k : Int)).a), .i ((secV c (k : Int)).b)]
abbrev Z2s (c : List Sec) (n : Int) (k : Nat) : Nat → OSt := (updO (updO (updO noOb 1 (.live ⟨(enc eEn (endsK c n k)), 114, 2⟩)) 52 (.live ⟨[.i 0, .i 0, .i 0], 102, 1⟩)) 52 (.live ⟨(Z2y c k), 102, 1⟩))
abbrev Z2r (c : List Sec) (n : Int) : Nat → AV := (upd (upd none_ 0 (Z2x c)) 1 (.i n))
abbrev Z2v (c : List Sec) (n : Int) (k j : Nat) : Nat → AV := (upd (upd (upd (upd (Z2r c n) 4 vN) 5 (.sl 1 0 ((endsJ c n k j).length))) 6 (.i (k : Int))) 8 (.b (!noSec c (k : Int))))
abbrev Z2u (c : List Sec) (n : Int) (k : Nat) : Nat → AV := (upd (upd (upd (Z2r c n) 4 vN) 5 (.sl 1 0 ((endsK c n k).length))) 6 (.i (k : Int)))
theorem g_Ends (c : List Sec) (n : Int) (hs : c.length ≤ 65536) : FnO Try.prog 88 [.rp [.one, .ro c.length (enc eSec c), .one, .one, .one, .one, .one, .one, .one, .one], .v (.int .i64 n)] (.sl 0 0 ((endsL c n).length)) [⟨(enc eEn (endsL c n)), 114, 2⟩] := by
 refine fnE_of_body (N := 41) Try.func88 rfl rfl (resOf1 rfl) (by simp) (fun w0 X hL_ => ?_)
 refine seqR ?_
 refine mG vN ?_
 refine op0 ?_
 refine seqR ?_
 refine mG vN ?_
 refine op0 ?_
 refine seqR ?_
 refine mG (.i 0) ?_
 refine op0 ?_
 refine awp_block ?_
 refine awp_countI (fun k => ⟨(Z2u c n k), (updO noOb 1 (.live ⟨(enc eEn (endsK c n k)), 114, 2⟩))⟩) (fun k => k ≤ c.length) (c.length + 1) ?_ (Nat.zero_le _) (fun k hk_k hinv => ?_)
 ·skip
  refine (imp_adopt 5 51 114 2 rfl rfl).trans ?_
  exact iI 51 1 (o := ⟨[], 114, 2⟩) rfl
 have hle := endsK_len c n k
 refine awp_seq ?_
 refine awp_block ?_
 refine seqR ?_
 refine mG (Z2x c) ?_
 refine mG (.i (k : Int)) ?_
 refine oG (qJ (g_section c (k : Int) oo) bd92 ?_)
 refine mG (.tup [.agg (Z2y c k), .b (!noSec c (k : Int))]) ?_
 refine oG (qE ?_)
 refine oG (qE ?_)
 refine oG (aop_alloc 52 rfl rfl rfl rfl ze102 rfl ?_)
 refine oG (qS sz102 ?_)
 refine mG (.b (!noSec c (k : Int))) ?_
 refine rU (upd (upd (Z2u c n k) 7 (.pt 52 0)) 8 (.b (!noSec c (k : Int)))) (Z2s c n k) ?_
 refine awp_seq ?_
 refine seqR ?_
 refine mG (.b (!noSec c (k : Int))) ?_
 refine oG (aop_not rfl rfl rfl rfl ?_)
 refine op0 ?_
 refine awp_cond (!(!noSec c (k : Int))) rfl rfl (fun hc0 => ?_) (fun hc0 => ?_)
 ·skip
  have hf1 := not_t hc0
  have hkn : k = c.length := by rw [noSec_nat] at hc0; simp at hc0; omega
  refine seqR ?_
  refine mG (.sl 1 0 ((endsK c n k).length)) ?_
  refine mG (.sl 1 0 ((endsK c n k).length)) ?_
  refine rU (upd (upd (upd (upd (upd (Z2r c n) 4 (.sl 1 0 ((endsK c n k).length))) 5 (.sl 1 0 ((endsK c n k).length))) 6 (.i (k : Int))) 7 (.pt 52 0)) 8 (.b (!noSec c (k : Int)))) (Z2s c n k) ?_
  refine awp_ret ?_
  exact fretO 1 rfl rfl rfl (by rw [hkn]; rfl) (by rw [hkn]; rfl)
 have hf2 := not_f hc0
 have hkl : k < c.length := by rw [noSec_nat] at hc0; simp at hc0; omega
 have hsv := secV_nat (secs := c) hkl
 refine awp_skip ?_
 refine seqR ?_
 refine fG (.pt 52 1) ft102_1 sz3 ?_
 refine oG (qL (.i ((secV c (k : Int)).a)) ag3 ?_)
 refine fG (.pt 52 2) ft102_2 sz3 ?_
 refine oG (qL (.i ((secV c (k : Int)).b)) ag3 ?_)
 refine oG (qD pl98 ?_)
 refine mG (.i 0) ?_
 refine rU (upd (upd (upd (upd (Z2u c n k) 7 (.pt 52 0)) 8 (.b (!noSec c (k : Int)))) 26 (.agg (Z2t c k))) 27 (.i 0)) (Z2s c n k) ?_
 refine awp_block ?_
 refine awp_countI (fun j => ⟨(upd (upd (Z2v c n k j) 26 (.agg (Z2t c k))) 27 (.i (j : Int))), (Z2z c n k j)⟩) (fun j => j ≤ 2) (2) ?_ (by decide) (fun j hk_j hinv => ?_)
 ·skip
  have hz := endsJ_zero c n k
  exact iI 1 1 rfl (he := (sS rfl (sS rfl (sS rfl (sS rfl (sM (by exact congrArg (AV.sl 1 0) (congrArg List.length hz.symm)) (sS rfl (sS rfl (sS rfl sr_none))))))))) (hoo := (by exact congrArg (fun l_ => LObj.mk (enc eEn l_) 114 2) hz))
 have hlj := endsJ_len c n k j
 refine seqR ?_
 refine bG ((.bool (decide ((j : Int) < 2)))) ?_
 refine op0 ?_
 refine awp_seq ?_
 refine awp_cond (decide ((j : Int) < 2)) rfl rfl (fun hc1 => ?_) (fun hc1 => ?_)
 ·skip
  have hf3 := of_decide_eq_true hc1
  have hj2 : j < 2 := by omega
  refine awp_skip ?_
  refine awp_seq ?_
  refine awp_block ?_
  refine seqR ?_
  refine mG (.i (j : Int)) ?_
  refine oG (aop_index (cells := (Z2t c k)) (i := (j : Int)) (av := .i (endAt c k j)) rfl rfl rfl ut98 ag3 sz3 rfl rfl om om (pair_at hkl hj2) ?_)
  refine mG (.i (j : Int)) ?_
  refine mG (.i (endAt c k j)) ?_
  refine rU (upd (upd (upd (upd (Z2v c n k j) 9 (.i (j : Int))) 10 (.i (endAt c k j))) 26 (.agg (Z2t c k))) 27 (.i (j : Int))) (Z2z c n k j) ?_
  refine seqR ?_
  refine mG (.i (endAt c k j)) ?_
  refine mG (.i n) ?_
  refine bG ((.bool ((endAt c k j) == n))) ?_
  refine op0 ?_
  refine awp_cond ((endAt c k j) == n) rfl rfl (fun hc2 => ?_) (fun hc2 => ?_)
  ·skip
   have hf4 := (beq_iff_eq).1 hc2
   refine regR ?_
   refine mG (.sl 1 0 ((endsJ c n k j).length)) ?_
   refine mG (.i (k : Int)) ?_
   refine mG (.i (j : Int)) ?_
   refine oG (qD pl114 ?_)
   refine oG (aop_lit rfl rfl rfl ut115 iz114 (by decide) (by decide) rfl rfl ?_)
   refine oG (aop_app1 (f := eEn) (l := endsJ c n k j) 53 (Z2w k j) rfl rfl rfl rfl ut115 in114 rfl (by decide) rfl rfl rfl rfl rfl rfl (fun _ => rfl) rfl rfl oo oo rfl ?_)
   refine mG (.sl 53 0 (((endsJ c n k j) ++ [(Z2w k j)]).length)) ?_
   refine op0 ?_
   refine rT (upd (upd (upd (upd (upd (upd (upd (upd (Z2r c n) 4 vN) 5 (.sl 53 0 (((endsJ c n k j) ++ [(Z2w k j)]).length))) 6 (.i (k : Int))) 8 (.b (!noSec c (k : Int)))) 9 (.i (j : Int))) 10 (.i (endAt c k j))) 26 (.agg (Z2t c k))) 27 (.i (j : Int))) (updO (updO (Z2z c n k j) 1 .dead) 53 (.live ⟨(enc eEn ((endsJ c n k j) ++ [(Z2w k j)])), 114, 2⟩)) ?_
   refine regR ?_
   refine oG (qB (.int .i64 ((j + 1 : Nat) : Int)) (addN om) ?_)
   refine mG (.i ((j + 1 : Nat) : Int)) ?_
   refine op0 ?_
   show _ ∧ _
   have hs_ := endsJ_on hj2 (by simpa using hc2)
   refine ⟨by omega, om, ?_⟩
   exact iI 53 1 rfl (he := (sS rfl (sS rfl (sS rfl (sS rfl (sM (by exact congrArg (AV.sl 1 0) (congrArg List.length hs_.symm)) (sS rfl (sS rfl (sS rfl sr_none))))))))) (hoo := (by exact congrArg (fun l_ => LObj.mk (enc eEn l_) 114 2) hs_))
  have hf5 := (beq_eq_false_iff_ne).1 hc2
  refine awp_skip ?_
  refine regR ?_
  refine oG (qB (.int .i64 ((j + 1 : Nat) : Int)) (addN om) ?_)
  refine mG (.i ((j + 1 : Nat) : Int)) ?_
  refine op0 ?_
  show _ ∧ _
  have hs_ := endsJ_off hj2 (by simpa using hc2)
  refine ⟨by omega, om, ?_⟩
  exact iI 1 1 rfl (he := (sS rfl (sS rfl (sS rfl (sS rfl (sM (by exact congrArg (AV.sl 1 0) (congrArg List.length hs_.symm)) (sS rfl (sS rfl (sS rfl sr_none))))))))) (hoo := (by exact congrArg (fun l_ => LObj.mk (enc eEn l_) 114 2) hs_))
 have hf6 := of_decide_eq_false hc1
 refine awp_exit ?_
 refine regR ?_
 refine mG (.i (k : Int)) ?_
 refine oG (qB (.int .i64 ((k + 1 : Nat) : Int)) (addN om) ?_)
 refine mG (.i ((k + 1 : Nat) : Int)) ?_
 refine op0 ?_
 show _ ∧ _
 have hs_ : endsJ c n k j = endsK c n (k + 1) := by rw [show j = 2 by omega]; exact endsJ_two c n k
 refine ⟨by omega, om, ?_⟩
 exact iI 1 1 rfl (he := (sS rfl (sM (by exact congrArg (AV.sl 1 0) (congrArg List.length hs_)) (sS rfl (sS rfl (sS rfl sr_none)))))) (hoo := (by exact congrArg (fun l_ => LObj.mk (enc eEn l_) 114 2) hs_.symm))
abbrev Z32 (a : List Sec) (n : Int) (k : Nat) : List AV := [.i (((endsL a n).getD k dE).sec), .i (((endsL a n).getD k dE).en)]
abbrev Z31 (s : Int) (a : List Sec) (n : Int) (k : Nat) : Nat → AV := (upd (upd (upd (upd (upd (upd none_ 1 (.i s)) 6 vN) 8 (.pt 52 0)) 11 (.sl 1 0 ((endsL a n).length))) 12 (.i ((endsL a n).length : Int))) 13 (.i (k : Int)))
abbrev Z30 (a : List Sec) (n : Int) (k : Nat) : Nat → OSt := (updO (updO (updO noOb 1 (.live ⟨(enc eEn (endsL a n)), 114, 2⟩)) 52 (.live ⟨[.i 0, .i 0], 114, 1⟩)) 52 (.live ⟨(Z32 a n k), 114, 1⟩))
theorem g_at (a : List Sec) (s n : Int) (hs : a.length ≤ 65536) : Fn Try.prog 91 [.rp [.one, .ro a.length (enc eSec a), .one, .one, .one, .one, .one, .one, .one, .one], .v (.int .i64 s), .v (.int .i64 n)] (.ro ((oneE a s n).length) (enc eEn (oneE a s n))) := by
 refine fnE_of_body (N := 24) Try.func91 rfl rfl (resOf1 rfl) (by simp) (fun w0 X hL_ => ?_)
 refine seqR ?_
 refine mG vN ?_
 refine op0 ?_
 refine awp_seq ?_
 refine seqR ?_
 refine mG (.rp [.one, .q eSec a, .one, .one, .one, .one, .one, .one, .one, .one]) ?_
 refine mG (.i n) ?_
 refine oG (callO_ 51 (g_Ends a n oo) rfl rfl rfl rfl rfl bd88 lS (.sl _ _ _ trivial) (news1 news0) (free1 rfl) rfl rfl ?_)
 refine oG (aop_len rfl rfl rfl rfl ut115 (len_sl rfl) ?_)
 refine mG (.i 0) ?_
 refine rU (upd (upd (upd (upd (upd none_ 1 (.i s)) 6 vN) 11 (.sl 51 0 ((endsL a n).length))) 12 (.i ((endsL a n).length : Int))) 13 (.i 0)) (updO noOb 51 (.live ⟨(enc eEn (endsL a n)), 114, 2⟩)) ?_
 refine awp_block ?_
 refine awp_countI (fun k => ⟨(upd (upd (upd (upd (upd none_ 1 (.i s)) 6 vN) 11 (.sl 1 0 ((endsL a n).length))) 12 (.i ((endsL a n).length : Int))) 13 (.i (k : Int))), (updO noOb 1 (.live ⟨(enc eEn (endsL a n)), 114, 2⟩))⟩) (fun k => ((endsL a n).take k).any (fun e => decide (e.sec = s)) = false) ((endsL a n).length) ?_ (by simp) (fun k hk_k hinv => ?_)
 ·skip
  exact iI 51 1 rfl
 refine seqR ?_
 refine bG ((.bool (decide ((k : Int) < ((endsL a n).length : Int))))) ?_
 refine op0 ?_
 refine awp_seq ?_
 refine awp_cond (decide ((k : Int) < ((endsL a n).length : Int))) rfl rfl (fun hc0 => ?_) (fun hc0 => ?_)
 ·skip
  have hf1 := of_decide_eq_true hc0
  have hle := endsL_len a n
  refine awp_skip ?_
  refine awp_seq ?_
  refine awp_block ?_
  refine seqR ?_
  refine oG (aop_ixO (k := k) rfl rfl rfl ut115 sz114 rfl rfl oo ?_)
  refine oG (aop_ldOA (f := eEn) dE rfl rfl rfl ag114 sz114 rfl rfl rfl (fun _ => rfl) oo rfl ?_)
  refine oG (aop_alloc 52 rfl rfl rfl rfl ze114 rfl ?_)
  refine oG (qS sz114 ?_)
  refine rU (Z31 s a n k) (Z30 a n k) ?_
  refine seqR ?_
  refine fG (.pt 52 0) ft114_0 sz3 ?_
  refine oG (qL (.i (((endsL a n).getD k dE).sec)) ag3 ?_)
  refine mG (.i s) ?_
  refine bG ((.bool ((((endsL a n).getD k dE).sec) == s))) ?_
  refine rU (upd (Z31 s a n k) 20 (.b ((((endsL a n).getD k dE).sec) == s))) (Z30 a n k) ?_
  refine awp_cond ((((endsL a n).getD k dE).sec) == s) rfl rfl (fun hc1 => ?_) (fun hc1 => ?_)
  ·skip
   have hf2 := (beq_iff_eq).1 hc1
   refine seqR ?_
   refine oG (qLB (Z32 a n k) ag114 sz114 ?_)
   refine oG (aop_lit rfl rfl rfl ut115 iz114 (by decide) (by decide) rfl rfl ?_)
   refine mG (.ro 1 (Z32 a n k)) ?_
   refine op0 ?_
   refine awp_ret ?_
   exact fret (av := .ro 1 [.v (.int .i64 (((endsL a n).getD k dE).sec)), .v (.int .i64 (((endsL a n).getD k dE).en))]) rfl rfl (by unfold oneE; rw [firstE_stop om hinv (by simpa using hc1)] <;> rfl)
  have hf3 := (beq_eq_false_iff_ne).1 hc1
  refine awp_skip ?_
  refine regR ?_
  refine oG (qB (.int .i64 ((k + 1 : Nat) : Int)) (addN om) ?_)
  refine mG (.i ((k + 1 : Nat) : Int)) ?_
  refine op0 ?_
  show _ ∧ _
  refine ⟨by omega, (any_step dE om hinv (by simpa using hc1)), ?_⟩
  exact iI 1 1 rfl
 have hf4 := of_decide_eq_false hc0
 refine awp_exit ?_
 refine seqR ?_
 refine mG vN ?_
 refine op0 ?_
 refine awp_imp _ (imp_frozen rfl (fun _ h => h) (lee_lend 6 (.ro 0 []) .nil lee_lend0)) ?_
 refine awp_ret ?_
 exact fret (av := .ro 0 []) rfl rfl (by unfold oneE; rw [firstE_none om hinv] <;> rfl)
theorem g_Around1 (x y s e : Int)  : Fn Try.prog 89 [.agg [.v (.int .i64 x), .v (.int .i64 y)], .rp [.v (.int .i64 s), .v (.int .i64 e)]] (.v (.bool (decide (x = s ∧ y = e)))) := by
 refine fnE_of_body (N := 7) Try.func89 rfl rfl (resOf1 rfl) (by simp) (fun w0 X hL_ => ?_)
 refine seqR ?_
 refine oG (qW 51 ?_)
 refine mG (.b false) ?_
 refine op0 ?_
 refine seqR ?_
 refine oG (qLB [.i x, .i y] ag114 sz114 ?_)
 refine oG (qLB [.i s, .i e] ag114 sz114 ?_)
 refine oG (aop_eqS2 (r := (decide (x = s ∧ y = e))) rfl rfl rfl rfl rfl es114 ut3 ut3 ag3 ag3 (.inl ⟨rfl, rfl⟩) ?_)
 refine mG (.b (decide (x = s ∧ y = e))) ?_
 refine rU (upd none_ 3 (.b (decide (x = s ∧ y = e)))) (updO noOb 51 (.live ⟨[.i x, .i y], 114, 1⟩)) ?_
 refine awp_ret ?_
 exact fret (av := .v (.bool (decide (x = s ∧ y = e)))) rfl rfl rfl
abbrev Z33 (l : List En) (s e : Int) : Nat → AV := (upd (upd (upd none_ 0 (.q eEn l)) 1 (.fn 89 [.rp [.i s, .i e]])) 4 (.i 0))
theorem ixE_o (l : List En) (s e : Int) (hl : l.length ≤ 4294967296)  : Fn Try.prog 80 [.ro l.length (enc eEn l), .fn 89 [.rp [.v (.int .i64 s), .v (.int .i64 e)]]] (.v (.int .i64 (idxB (fun x : En => decide (x.sec = s ∧ x.en = e)) l))) := by
 refine fnE_of_body (N := 19) Try.func80 rfl rfl (resOf1 rfl) (by simp) (fun w0 X hL_ => ?_)
 refine seqR ?_
 refine mG (.i 0) ?_
 refine op0 ?_
 refine awp_seq ?_
 refine seqR ?_
 refine mG (.q eEn l) ?_
 refine oG (qN ut115 ?_)
 refine mG (.i 0) ?_
 refine rU (upd (upd (Z33 l s e) 7 (.i (l.length : Int))) 8 (.i 0)) noOb ?_
 refine awp_block ?_
 refine awp_countI (fun k => ⟨(upd (upd (Z33 l s e) 7 (.i (l.length : Int))) 8 (.i (k : Int))), noOb⟩) (fun k => (l.take k).any (fun x : En => decide (x.sec = s ∧ x.en = e)) = false) (l.length) ?_ (by simp) (fun k hk_k hinv => ?_)
 ·skip
  exact iN
 refine seqR ?_
 refine bG ((.bool (decide ((k : Int) < (l.length : Int))))) ?_
 refine op0 ?_
 refine awp_seq ?_
 refine awp_cond (decide ((k : Int) < (l.length : Int))) rfl rfl (fun hc0 => ?_) (fun hc0 => ?_)
 ·skip
  have hf1 := of_decide_eq_true hc0
  refine awp_skip ?_
  refine awp_seq ?_
  refine awp_block ?_
  refine seqR ?_
  refine mG (.i (k : Int)) ?_
  refine mG (.i (k : Int)) ?_
  refine op0 ?_
  refine seqR ?_
  refine mG (.fn 89 [.rp [.i s, .i e]]) ?_
  refine mG (.q eEn l) ?_
  refine mG (.i (k : Int)) ?_
  refine oG (qX dE ut115 sz114 ?_)
  refine oG (qLB [.i ((l.getD k dE).sec), .i ((l.getD k dE).en)] ag114 sz114 ?_)
  refine oG (qJ (g_Around1 ((l.getD k dE).sec) ((l.getD k dE).en) s e) bd89 ?_)
  refine rU (upd (upd (upd (upd (Z33 l s e) 5 (.i (k : Int))) 7 (.i (l.length : Int))) 8 (.i (k : Int))) 16 (.b (decide (((l.getD k dE).sec) = s ∧ ((l.getD k dE).en) = e)))) noOb ?_
  refine awp_cond (decide (((l.getD k dE).sec) = s ∧ ((l.getD k dE).en) = e)) rfl rfl (fun hc1 => ?_) (fun hc1 => ?_)
  ·skip
   refine seqR ?_
   refine mG (.i (k : Int)) ?_
   refine mG (.i (k : Int)) ?_
   refine op0 ?_
   refine awp_ret ?_
   exact fret (av := .v (.int .i64 (k : Int))) rfl rfl (by rw [idxB_stop (f := fun x : En => decide (x.sec = s ∧ x.en = e)) dE om hinv hc1] <;> rfl)
  refine awp_skip ?_
  refine regR ?_
  refine oG (qB (.int .i64 ((k + 1 : Nat) : Int)) (addN om) ?_)
  refine mG (.i ((k + 1 : Nat) : Int)) ?_
  refine op0 ?_
  show _ ∧ _
  refine ⟨by omega, (any_step dE om hinv hc1), ?_⟩
  exact iN
 have hf2 := of_decide_eq_false hc0
 refine awp_exit ?_
 refine seqR ?_
 refine mG (.i (-1)) ?_
 refine op0 ?_
 refine awp_ret ?_
 exact fret (av := .v (.int .i64 (-1))) rfl rfl (by rw [idxB_end (f := fun x : En => decide (x.sec = s ∧ x.en = e)) om hinv] <;> rfl)
abbrev Z36 : LObj := ⟨[.i 0, .i 0], 114, 1⟩
abbrev Z35 (l : List En) : Nat → OSt := (updO noOb 0 (.live ⟨(enc eEn l), 114, 2⟩))
abbrev Z34 (l : List En) (s e : Int) : Nat → AV := (upd (upd (upd none_ 0 (.sl 0 0 l.length)) 1 (.fn 89 [.rp [.i s, .i e]])) 4 vN)
theorem delE (l : List En) (s e : Int) (hl : l.length ≤ 4294967296)  : FnGO Try.prog 87 [⟨(enc eEn l), 114, 2⟩] [.sl 0 0 l.length, .fn 89 [.rp [.v (.int .i64 s), .v (.int .i64 e)]]] (.sl 0 0 ((restG (fun x : En => decide (x.sec = s ∧ x.en = e)) l).length)) [.live ⟨(enc eEn (restG (fun x : En => decide (x.sec = s ∧ x.en = e)) l ++ List.replicate (l.length - (restG (fun x : En => decide (x.sec = s ∧ x.en = e)) l).length) dE)), 114, 2⟩] := by
 refine fnG_of_body (N := 42) 1 rfl Try.func87 rfl rfl (resOf1 rfl) (by simp) (fun w0 G C hL_ hLG_ => ?_)
 refine seqR ?_
 refine mG vN ?_
 refine op0 ?_
 refine seqR ?_
 refine mG (.sl 0 0 l.length) ?_
 refine mG (.fn 89 [.rp [.i s, .i e]]) ?_
 refine oG (callL_ (ixE_o l s e oo) rfl rfl rfl rfl rfl bd80 (lends_cons (lend_s (id := 0) (n := l.length) (o := ⟨(enc eEn l), 114, 2⟩) rfl (enc_len (fun _ => rfl) (by first | rfl | (simp; done)))) lS) ?_)
 refine mG (.i (idxB (fun x : En => decide (x.sec = s ∧ x.en = e)) l)) ?_
 refine rU (upd (Z34 l s e) 5 (.i (idxB (fun x : En => decide (x.sec = s ∧ x.en = e)) l))) (Z35 l) ?_
 refine awp_seq ?_
 refine seqR ?_
 refine mG (.i (idxB (fun x : En => decide (x.sec = s ∧ x.en = e)) l)) ?_
 refine bG ((.bool ((idxB (fun x : En => decide (x.sec = s ∧ x.en = e)) l) == (-1)))) ?_
 refine op0 ?_
 refine awp_cond ((idxB (fun x : En => decide (x.sec = s ∧ x.en = e)) l) == (-1)) rfl rfl (fun hc0 => ?_) (fun hc0 => ?_)
 ·skip
  have hf1 := (beq_iff_eq).1 hc0
  have hm0 := restG_none (fun x : En => decide (x.sec = s ∧ x.en = e)) (any_none (fun x : En => decide (x.sec = s ∧ x.en = e)) dE hf1)
  refine seqR ?_
  refine mG (.sl 0 0 l.length) ?_
  refine mG (.sl 0 0 l.length) ?_
  refine rU (upd (upd (upd (upd none_ 0 (.sl 0 0 l.length)) 1 (.fn 89 [.rp [.i s, .i e]])) 4 (.sl 0 0 l.length)) 5 (.i (idxB (fun x : En => decide (x.sec = s ∧ x.en = e)) l))) (Z35 l) ?_
  refine awp_imp ⟨(upd none_ 4 (.sl 0 0 ((restG (fun x : En => decide (x.sec = s ∧ x.en = e)) l).length))), (updO noOb 0 (.live ⟨(enc eEn (restG (fun x : En => decide (x.sec = s ∧ x.en = e)) l ++ List.replicate (l.length - (restG (fun x : En => decide (x.sec = s ∧ x.en = e)) l).length) dE)), 114, 2⟩))⟩ ?_ ?_
  ·skip
   exact iL [(0, 0)] [((0, 0), .live _)] ⟨row_no rfl (by exact congrArg (fun l_ => LObj.mk (enc eEn l_) 114 2) (by rw [hm0]; simp)), trivial⟩ (he := (sM (by exact congrArg (AV.sl 0 0) (by rw [hm0])) sr_none))
  refine awp_ret ?_
  exact fretG rfl rfl rfl rfl
 have hf2 := (beq_eq_false_iff_ne).1 hc0
 obtain ⟨i0, hi, hlt, hpre, hdel⟩ := idxB_found dE (show ¬ idxB (fun x : En => decide (x.sec = s ∧ x.en = e)) l = -1 from fun e => hf2 e)
 refine awp_skip ?_
 refine awp_seq ?_
 refine seqR ?_
 refine mG (.i (idxB (fun x : En => decide (x.sec = s ∧ x.en = e)) l)) ?_
 refine oG (qB (.int .i64 ((idxB (fun x : En => decide (x.sec = s ∧ x.en = e)) l) + 1)) (addI om) ?_)
 refine mG (.i ((idxB (fun x : En => decide (x.sec = s ∧ x.en = e)) l) + 1)) ?_
 refine rU (upd (upd (Z34 l s e) 5 (.i (idxB (fun x : En => decide (x.sec = s ∧ x.en = e)) l))) 6 (.i ((idxB (fun x : En => decide (x.sec = s ∧ x.en = e)) l) + 1))) (Z35 l) ?_
 refine awp_block ?_
 refine awp_countI (fun k => ⟨(upd (upd (Z34 l s e) 5 (.i (((delG (fun x : En => decide (x.sec = s ∧ x.en = e)) l (i0 + 1 + k)).2 : Nat) : Int))) 6 (.i ((i0 + 1 + k : Nat) : Int))), (updO noOb 0 (.live ⟨(enc eEn ((delG (fun x : En => decide (x.sec = s ∧ x.en = e)) l (i0 + 1 + k)).1)), 114, 2⟩))⟩) (fun k => True) ((l.length - (i0 + 1))) ?_ trivial (fun k hk_k hinv => ?_)
 ·skip
  have hf0 := delG_first (fun x : En => decide (x.sec = s ∧ x.en = e)) dE hlt hpre hdel
  exact iL [(0, 0)] [((0, 0), .live _)] ⟨row_no rfl (by exact congrArg (fun l_ => LObj.mk (enc eEn l_) 114 2) (show (delG (fun x : En => decide (x.sec = s ∧ x.en = e)) l (i0 + 1 + 0)).1 = l by rw [show i0 + 1 + 0 = i0 + 1 from rfl, hf0])), trivial⟩ (he := (sS (by exact congrArg (fun n_ : Int => AV.v (.int .i64 n_)) (show idxB (fun x : En => decide (x.sec = s ∧ x.en = e)) l + 1 = ((i0 + 1 + 0 : Nat) : Int) by omega)) (sS (by exact congrArg (fun n_ : Int => AV.v (.int .i64 n_)) (show idxB (fun x : En => decide (x.sec = s ∧ x.en = e)) l = (((delG (fun x : En => decide (x.sec = s ∧ x.en = e)) l (i0 + 1 + 0)).2 : Nat) : Int) by rw [show i0 + 1 + 0 = i0 + 1 from rfl, hf0]; exact hi)) (sS rfl (sS rfl (sM rfl sr_none))))))
 obtain ⟨hv1, hv2, hv3, hv4, hv5⟩ := delG_inv (fun x : En => decide (x.sec = s ∧ x.en = e)) l (i0 + 1 + k) om
 have hv6 := delG_lt (fun x : En => decide (x.sec = s ∧ x.en = e)) dE hlt hpre hdel k om
 refine awp_seq ?_
 refine seqR ?_
 refine mG (.i ((i0 + 1 + k : Nat) : Int)) ?_
 refine mG (.sl 0 0 l.length) ?_
 refine oG (aop_len rfl rfl rfl rfl ut115 (len_sl rfl) ?_)
 refine bG ((.bool (decide (((i0 + 1 + k : Nat) : Int) < (l.length : Int))))) ?_
 refine rU (upd (upd (upd (Z34 l s e) 5 (.i (((delG (fun x : En => decide (x.sec = s ∧ x.en = e)) l (i0 + 1 + k)).2 : Nat) : Int))) 6 (.i ((i0 + 1 + k : Nat) : Int))) 19 (.b (decide (((i0 + 1 + k : Nat) : Int) < (l.length : Int))))) (updO noOb 0 (.live ⟨(enc eEn ((delG (fun x : En => decide (x.sec = s ∧ x.en = e)) l (i0 + 1 + k)).1)), 114, 2⟩)) ?_
 refine awp_cond (decide (((i0 + 1 + k : Nat) : Int) < (l.length : Int))) rfl rfl (fun hc1 => ?_) (fun hc1 => ?_)
 ·skip
  have hf3 := of_decide_eq_true hc1
  refine awp_skip ?_
  refine awp_seq ?_
  refine awp_block ?_
  refine seqR ?_
  refine mG (.sl 0 0 l.length) ?_
  refine mG (.i ((i0 + 1 + k : Nat) : Int)) ?_
  refine oG (aop_ixO (k := i0 + 1 + k) rfl rfl rfl ut115 sz114 rfl rfl oo ?_)
  refine oG (aop_ldOA (f := eEn) dE rfl rfl rfl ag114 sz114 rfl rfl rfl (fun _ => rfl) oo rfl ?_)
  refine oG (aop_alloc 51 rfl rfl rfl rfl ze114 rfl ?_)
  refine oG (qS sz114 ?_)
  refine rU (upd (upd (upd (Z34 l s e) 5 (.i (((delG (fun x : En => decide (x.sec = s ∧ x.en = e)) l (i0 + 1 + k)).2 : Nat) : Int))) 6 (.i ((i0 + 1 + k : Nat) : Int))) 7 (.pt 51 0)) (updO (updO (updO noOb 0 (.live ⟨(enc eEn ((delG (fun x : En => decide (x.sec = s ∧ x.en = e)) l (i0 + 1 + k)).1)), 114, 2⟩)) 51 (.live Z36)) 51 (.live ⟨[.i ((((delG (fun x : En => decide (x.sec = s ∧ x.en = e)) l (i0 + 1 + k)).1).getD (i0 + 1 + k) dE).sec), .i ((((delG (fun x : En => decide (x.sec = s ∧ x.en = e)) l (i0 + 1 + k)).1).getD (i0 + 1 + k) dE).en)], 114, 1⟩)) ?_
  refine seqR ?_
  refine mG (.fn 89 [.rp [.i s, .i e]]) ?_
  refine oG (qLB [.i ((((delG (fun x : En => decide (x.sec = s ∧ x.en = e)) l (i0 + 1 + k)).1).getD (i0 + 1 + k) dE).sec), .i ((((delG (fun x : En => decide (x.sec = s ∧ x.en = e)) l (i0 + 1 + k)).1).getD (i0 + 1 + k) dE).en)] ag114 sz114 ?_)
  refine oG (qJ (g_Around1 ((((delG (fun x : En => decide (x.sec = s ∧ x.en = e)) l (i0 + 1 + k)).1).getD (i0 + 1 + k) dE).sec) ((((delG (fun x : En => decide (x.sec = s ∧ x.en = e)) l (i0 + 1 + k)).1).getD (i0 + 1 + k) dE).en) s e) bd89 ?_)
  refine oG (aop_not rfl rfl rfl rfl ?_)
  refine rU (upd (upd (upd (upd (Z34 l s e) 5 (.i (((delG (fun x : En => decide (x.sec = s ∧ x.en = e)) l (i0 + 1 + k)).2 : Nat) : Int))) 6 (.i ((i0 + 1 + k : Nat) : Int))) 7 (.pt 51 0)) 29 (.b (!(decide (((((delG (fun x : En => decide (x.sec = s ∧ x.en = e)) l (i0 + 1 + k)).1).getD (i0 + 1 + k) dE).sec) = s ∧ ((((delG (fun x : En => decide (x.sec = s ∧ x.en = e)) l (i0 + 1 + k)).1).getD (i0 + 1 + k) dE).en) = e))))) (updO (updO (updO noOb 0 (.live ⟨(enc eEn ((delG (fun x : En => decide (x.sec = s ∧ x.en = e)) l (i0 + 1 + k)).1)), 114, 2⟩)) 51 (.live Z36)) 51 (.live ⟨[.i ((((delG (fun x : En => decide (x.sec = s ∧ x.en = e)) l (i0 + 1 + k)).1).getD (i0 + 1 + k) dE).sec), .i ((((delG (fun x : En => decide (x.sec = s ∧ x.en = e)) l (i0 + 1 + k)).1).getD (i0 + 1 + k) dE).en)], 114, 1⟩)) ?_
  refine awp_cond (!(decide (((((delG (fun x : En => decide (x.sec = s ∧ x.en = e)) l (i0 + 1 + k)).1).getD (i0 + 1 + k) dE).sec) = s ∧ ((((delG (fun x : En => decide (x.sec = s ∧ x.en = e)) l (i0 + 1 + k)).1).getD (i0 + 1 + k) dE).en) = e))) rfl rfl (fun hc2 => ?_) (fun hc2 => ?_)
  ·skip
   have hf4 := not_t hc2
   refine seqR ?_
   refine mG (.sl 0 0 l.length) ?_
   refine mG (.i (((delG (fun x : En => decide (x.sec = s ∧ x.en = e)) l (i0 + 1 + k)).2 : Nat) : Int)) ?_
   refine oG (qLB [.i ((((delG (fun x : En => decide (x.sec = s ∧ x.en = e)) l (i0 + 1 + k)).1).getD (i0 + 1 + k) dE).sec), .i ((((delG (fun x : En => decide (x.sec = s ∧ x.en = e)) l (i0 + 1 + k)).1).getD (i0 + 1 + k) dE).en)] ag114 sz114 ?_)
   refine oG (aop_ixO (k := (delG (fun x : En => decide (x.sec = s ∧ x.en = e)) l (i0 + 1 + k)).2) rfl rfl rfl ut115 sz114 rfl rfl oo ?_)
   refine oG (aop_storeE (f := eEn) (l := (delG (fun x : En => decide (x.sec = s ∧ x.en = e)) l (i0 + 1 + k)).1) (l' := ((delG (fun x : En => decide (x.sec = s ∧ x.en = e)) l (i0 + 1 + k)).1).set ((delG (fun x : En => decide (x.sec = s ∧ x.en = e)) l (i0 + 1 + k)).2) (⟨(((delG (fun x : En => decide (x.sec = s ∧ x.en = e)) l (i0 + 1 + k)).1).getD (i0 + 1 + k) dE).sec, (((delG (fun x : En => decide (x.sec = s ∧ x.en = e)) l (i0 + 1 + k)).1).getD (i0 + 1 + k) dE).en⟩ : En)) (⟨(((delG (fun x : En => decide (x.sec = s ∧ x.en = e)) l (i0 + 1 + k)).1).getD (i0 + 1 + k) dE).sec, (((delG (fun x : En => decide (x.sec = s ∧ x.en = e)) l (i0 + 1 + k)).1).getD (i0 + 1 + k) dE).en⟩ : En) rfl rfl rfl sz114 rfl rfl rfl rfl rfl (fun _ => rfl) oo rfl rfl ?_)
   refine rU (upd (upd (upd (Z34 l s e) 5 (.i (((delG (fun x : En => decide (x.sec = s ∧ x.en = e)) l (i0 + 1 + k)).2 : Nat) : Int))) 6 (.i ((i0 + 1 + k : Nat) : Int))) 7 (.pt 51 0)) (updO (updO (updO (updO noOb 0 (.live ⟨(enc eEn ((delG (fun x : En => decide (x.sec = s ∧ x.en = e)) l (i0 + 1 + k)).1)), 114, 2⟩)) 51 (.live Z36)) 51 (.live ⟨[.i ((((delG (fun x : En => decide (x.sec = s ∧ x.en = e)) l (i0 + 1 + k)).1).getD (i0 + 1 + k) dE).sec), .i ((((delG (fun x : En => decide (x.sec = s ∧ x.en = e)) l (i0 + 1 + k)).1).getD (i0 + 1 + k) dE).en)], 114, 1⟩)) 0 (.live ⟨(enc eEn (((delG (fun x : En => decide (x.sec = s ∧ x.en = e)) l (i0 + 1 + k)).1).set ((delG (fun x : En => decide (x.sec = s ∧ x.en = e)) l (i0 + 1 + k)).2) (⟨(((delG (fun x : En => decide (x.sec = s ∧ x.en = e)) l (i0 + 1 + k)).1).getD (i0 + 1 + k) dE).sec, (((delG (fun x : En => decide (x.sec = s ∧ x.en = e)) l (i0 + 1 + k)).1).getD (i0 + 1 + k) dE).en⟩ : En))), 114, 2⟩)) ?_
   refine regR ?_
   refine mG (.i (((delG (fun x : En => decide (x.sec = s ∧ x.en = e)) l (i0 + 1 + k)).2 : Nat) : Int)) ?_
   refine oG (qB (.int .i64 (((delG (fun x : En => decide (x.sec = s ∧ x.en = e)) l (i0 + 1 + k)).2 + 1 : Nat) : Int)) (addN om) ?_)
   refine mG (.i (((delG (fun x : En => decide (x.sec = s ∧ x.en = e)) l (i0 + 1 + k)).2 + 1 : Nat) : Int)) ?_
   refine op0 ?_
   refine regR ?_
   refine mG (.i ((i0 + 1 + k : Nat) : Int)) ?_
   refine oG (qB (.int .i64 ((i0 + 1 + k + 1 : Nat) : Int)) (addN om) ?_)
   refine mG (.i ((i0 + 1 + k + 1 : Nat) : Int)) ?_
   refine op0 ?_
   show _ ∧ _
   have hs := delG_keep (fun x : En => decide (x.sec = s ∧ x.en = e)) dE (l := l) (j := i0 + 1 + k) om ((Bool.not_eq_true' _).mp hc2)
   refine ⟨by omega, trivial, ?_⟩
   exact iL [(0, 0)] [((0, 0), .live _)] ⟨row_no rfl (by exact congrArg (fun l_ => LObj.mk (enc eEn l_) 114 2) (congrArg Prod.fst hs)), trivial⟩ (he := (sS rfl (sS (by exact congrArg (fun n_ : Int => AV.v (.int .i64 n_)) (congrArg (fun q : List En × Nat => ((q.2 : Nat) : Int)) hs.symm)) (sS rfl (sS rfl (sM rfl sr_none))))))
  have hf5 := not_f hc2
  refine awp_skip ?_
  refine regR ?_
  refine mG (.i ((i0 + 1 + k : Nat) : Int)) ?_
  refine oG (qB (.int .i64 ((i0 + 1 + k + 1 : Nat) : Int)) (addN om) ?_)
  refine mG (.i ((i0 + 1 + k + 1 : Nat) : Int)) ?_
  refine op0 ?_
  show _ ∧ _
  have hs := delG_drop (fun x : En => decide (x.sec = s ∧ x.en = e)) dE (l := l) (j := i0 + 1 + k) om ((Bool.not_eq_false' _).mp hc2)
  refine ⟨by omega, trivial, ?_⟩
  exact iL [(0, 0)] [((0, 0), .live _)] ⟨row_no rfl (by exact congrArg (fun l_ => LObj.mk (enc eEn l_) 114 2) (congrArg Prod.fst hs)), trivial⟩ (he := (sS rfl (sS (by exact congrArg (fun n_ : Int => AV.v (.int .i64 n_)) (congrArg (fun q : List En × Nat => ((q.2 : Nat) : Int)) hs.symm)) (sS rfl (sS rfl (sM rfl sr_none))))))
 have hf6 := of_decide_eq_false hc1
 refine awp_exit ?_
 refine seqR ?_
 refine mG (.sl 0 0 l.length) ?_
 refine mG (.i (((delG (fun x : En => decide (x.sec = s ∧ x.en = e)) l (i0 + 1 + k)).2 : Nat) : Int)) ?_
 refine oG (aop_sliceFrom (l := (delG (fun x : En => decide (x.sec = s ∧ x.en = e)) l (i0 + 1 + k)).2) (ob := ⟨(enc eEn ((delG (fun x : En => decide (x.sec = s ∧ x.en = e)) l (i0 + 1 + k)).1)), 114, 2⟩) rfl rfl rfl ut115 sz114 rfl rfl rfl ⟨_, rfl⟩ oo ?_)
 refine oG (aop_clear (n := l.length - ((delG (fun x : En => decide (x.sec = s ∧ x.en = e)) l (i0 + 1 + k)).2)) (ob := ⟨(enc eEn ((delG (fun x : En => decide (x.sec = s ∧ x.en = e)) l (i0 + 1 + k)).1)), 114, 2⟩) rfl rfl rfl rfl ut115 (run_zero_ ze114) rfl rfl rfl oo (clear_fit (fun _ => rfl) om) (clear_rowG (e := eEn) (v := dE) (s := 2) (i := (delG (fun x : En => decide (x.sec = s ∧ x.en = e)) l (i0 + 1 + k)).2) (n := l.length - (delG (fun x : En => decide (x.sec = s ∧ x.en = e)) l (i0 + 1 + k)).2) (fun _ => rfl) (zeros_enc (z := #[.int .i64 0, .int .i64 0]) rfl (by decide)) om) ?_)
 refine rU (upd (upd (upd none_ 0 (.sl 0 0 l.length)) 4 vN) 5 (.i (((delG (fun x : En => decide (x.sec = s ∧ x.en = e)) l (i0 + 1 + k)).2 : Nat) : Int))) (updO (updO noOb 0 (.live ⟨(enc eEn ((delG (fun x : En => decide (x.sec = s ∧ x.en = e)) l (i0 + 1 + k)).1)), 114, 2⟩)) 0 (.live ⟨(enc eEn ((delG (fun x : En => decide (x.sec = s ∧ x.en = e)) l (i0 + 1 + k)).1.take (delG (fun x : En => decide (x.sec = s ∧ x.en = e)) l (i0 + 1 + k)).2 ++ List.replicate (l.length - (delG (fun x : En => decide (x.sec = s ∧ x.en = e)) l (i0 + 1 + k)).2) dE)), 114, 2⟩)) ?_
 refine seqR ?_
 refine mG (.sl 0 0 l.length) ?_
 refine mG (.i (((delG (fun x : En => decide (x.sec = s ∧ x.en = e)) l (i0 + 1 + k)).2 : Nat) : Int)) ?_
 refine oG (aop_sliceOwn (hgh := (delG (fun x : En => decide (x.sec = s ∧ x.en = e)) l (i0 + 1 + k)).2) rfl rfl rfl ut115 sz114 rfl ⟨_, rfl⟩ oo ?_)
 refine mG (.sl 0 0 ((delG (fun x : En => decide (x.sec = s ∧ x.en = e)) l (i0 + 1 + k)).2)) ?_
 refine rU (upd none_ 4 (.sl 0 0 ((delG (fun x : En => decide (x.sec = s ∧ x.en = e)) l (i0 + 1 + k)).2))) (updO (updO noOb 0 (.live ⟨(enc eEn ((delG (fun x : En => decide (x.sec = s ∧ x.en = e)) l (i0 + 1 + k)).1)), 114, 2⟩)) 0 (.live ⟨(enc eEn ((delG (fun x : En => decide (x.sec = s ∧ x.en = e)) l (i0 + 1 + k)).1.take (delG (fun x : En => decide (x.sec = s ∧ x.en = e)) l (i0 + 1 + k)).2 ++ List.replicate (l.length - (delG (fun x : En => decide (x.sec = s ∧ x.en = e)) l (i0 + 1 + k)).2) dE)), 114, 2⟩)) ?_
 have hjk : i0 + 1 + k = l.length := by omega
 rw [hjk, List.take_of_length_le (Nat.le_refl _)] at hv4 hv5
 refine awp_imp ⟨(upd none_ 4 (.sl 0 0 ((restG (fun x : En => decide (x.sec = s ∧ x.en = e)) l).length))), (updO noOb 0 (.live ⟨(enc eEn (restG (fun x : En => decide (x.sec = s ∧ x.en = e)) l ++ List.replicate (l.length - (restG (fun x : En => decide (x.sec = s ∧ x.en = e)) l).length) dE)), 114, 2⟩))⟩ ?_ ?_
 ·skip
  exact iL [(0, 0)] [((0, 0), .live _)] ⟨row_no rfl (by exact congrArg (fun l_ => LObj.mk (enc eEn l_) 114 2) (by rw [hjk, hv4, hv5])), trivial⟩ (he := (sM (by exact congrArg (AV.sl 0 0) (by rw [hjk, hv5])) sr_none))
 refine awp_ret ?_
 exact fretG rfl rfl rfl rfl
theorem growE (n : Nat) (hn : n ≤ 4294967296) : FnO Try.prog 95 [vN, .v (.int .i64 (n : Int))] (.sl 0 0 0) [⟨[], 114, 2⟩] := by
 refine fnE_of_body (N := 27) Try.func95 rfl rfl (resOf1 rfl) (by simp) (fun w0 X hL_ => ?_)
 refine seqR ?_
 refine mG vN ?_
 refine op0 ?_
 refine awp_seq ?_
 refine seqR ?_
 refine mG (.i (n : Int)) ?_
 refine bG ((.bool (decide ((n : Int) < 0)))) ?_
 refine op0 ?_
 refine awp_cond (decide ((n : Int) < 0)) rfl rfl (fun hc0 => ?_) (fun hc0 => ?_)
 ·skip
  have hf1 := of_decide_eq_true hc0
  exfalso; omega
 have hf2 := of_decide_eq_false hc0
 refine awp_skip ?_
 refine awp_seq ?_
 refine seqR ?_
 refine mG (.i (n : Int)) ?_
 refine mG vN ?_
 refine oG (aop_capNil rfl rfl rfl rfl ut115 rfl ?_)
 refine mG vN ?_
 refine oG (aop_len rfl rfl rfl rfl ut115 (len_nil rfl) ?_)
 refine bG ((.int .i64 0)) ?_
 refine oG (qB (.int .i64 (n : Int)) (subZ om) ?_)
 refine mG (.i (n : Int)) ?_
 refine rU (upd (upd (upd none_ 0 vN) 1 (.i (n : Int))) 4 vN) noOb ?_
 refine seqR ?_
 refine mG (.i (n : Int)) ?_
 refine bG ((.bool (decide ((n : Int) > 0)))) ?_
 refine op0 ?_
 refine awp_cond (decide ((n : Int) > 0)) rfl rfl (fun hc1 => ?_) (fun hc1 => ?_)
 ·skip
  have hf3 := of_decide_eq_true hc1
  refine regR ?_
  refine mG vN ?_
  refine mG vN ?_
  refine oG (aop_capNil rfl rfl rfl rfl ut115 rfl ?_)
  refine oG (aop_sliceNil rfl rfl rfl ut115 sz114 rfl rfl ⟨_, rfl⟩ ?_)
  refine mG (.i (n : Int)) ?_
  refine oG (aop_appZ (n := n) 51 rfl rfl rfl rfl ut115 ut3 in114 rfl (by decide) rfl rfl om om om rfl ?_)
  refine mG vN ?_
  refine oG (aop_len rfl rfl rfl rfl ut115 (len_nil rfl) ?_)
  refine oG (aop_sliceOwn (hgh := 0) rfl rfl rfl ut115 sz114 rfl ⟨_, rfl⟩ oo ?_)
  refine mG (.sl 51 0 0) ?_
  refine op0 ?_
  refine rT (upd (upd none_ 0 (.sl 51 0 0)) 4 vN) (updO noOb 51 (.live ⟨[], 114, 2⟩)) ?_
  refine seqR ?_
  refine mG (.sl 51 0 0) ?_
  refine mG (.sl 51 0 0) ?_
  refine op0 ?_
  refine awp_ret ?_
  exact fretO 51 rfl rfl rfl rfl rfl
 have hf4 := of_decide_eq_false hc1
 refine awp_skip ?_
 refine seqR ?_
 refine mG vN ?_
 refine mG vN ?_
 refine rU (upd none_ 4 vN) noOb ?_
 refine awp_imp _ (imp_adopt 4 52 114 2 rfl rfl) ?_
 refine awp_ret ?_
 exact fretO 52 rfl rfl rfl rfl rfl
abbrev Z38 (ls : List (List En)) (j : Nat) : Nat → OSt := (updO noOb 1 (.live ⟨(enc eEn (catK ls j)), 114, 2⟩))
abbrev Z37 (ls : List (List En)) : Nat → AV := (upd (upd none_ 0 (.q eEL ls)) 2 vN)
theorem concE (ls : List (List En)) (hl : ls.length ≤ 16) (hx : ∀ x, x ∈ ls → x.length ≤ 65536) : Fn Try.prog 90 [.ro ls.length (enc eEL ls)] (.ro ls.flatten.length (enc eEn ls.flatten)) := by
 refine fnE_of_body (N := 36) Try.func90 rfl rfl (resOf1 rfl) (by simp) (fun w0 X hL_ => ?_)
 refine seqR ?_
 refine mG vN ?_
 refine op0 ?_
 refine seqR ?_
 refine mG (.i 0) ?_
 refine op0 ?_
 refine awp_seq ?_
 refine seqR ?_
 refine mG (.q eEL ls) ?_
 refine oG (qN ut159 ?_)
 refine mG (.i 0) ?_
 refine rU (upd (upd (upd (upd (Z37 ls) 3 (.i 0)) 9 (.q eEL ls)) 10 (.i (ls.length : Int))) 11 (.i 0)) noOb ?_
 refine awp_block ?_
 refine awp_countI (fun k => ⟨(upd (upd (upd (upd (Z37 ls) 3 (.i ((catK ls k).length : Int))) 9 (.q eEL ls)) 10 (.i (ls.length : Int))) 11 (.i (k : Int))), noOb⟩) (fun k => True) (ls.length) ?_ trivial (fun k hk_k hinv => ?_)
 ·skip
  exact iN
 have hcl := catK_len hx k
 refine seqR ?_
 refine bG ((.bool (decide ((k : Int) < (ls.length : Int))))) ?_
 refine op0 ?_
 refine awp_seq ?_
 refine awp_cond (decide ((k : Int) < (ls.length : Int))) rfl rfl (fun hc0 => ?_) (fun hc0 => ?_)
 ·skip
  have hf1 := of_decide_eq_true hc0
  have hkl : k < ls.length := by omega
  have hxk := hx _ (getD_mem [] hkl)
  refine awp_skip ?_
  refine awp_seq ?_
  refine awp_block ?_
  refine seqR ?_
  refine oG (qX [] ut159 sz115 ?_)
  refine oG (qL (.q eEn (ls.getD k [])) ag115 ?_)
  refine mG (.q eEn (ls.getD k [])) ?_
  refine rU (upd (upd (upd (upd (upd (Z37 ls) 3 (.i ((catK ls k).length : Int))) 5 (.q eEn (ls.getD k []))) 9 (.q eEL ls)) 10 (.i (ls.length : Int))) 11 (.i (k : Int))) noOb ?_
  refine seqR ?_
  refine mG (.i ((catK ls k).length : Int)) ?_
  refine mG (.q eEn (ls.getD k [])) ?_
  refine oG (qN ut115 ?_)
  refine oG (qB (.int .i64 (((catK ls k).length : Int) + ((ls.getD k []).length : Int))) (addI om) ?_)
  refine mG (.i (((catK ls k).length : Int) + ((ls.getD k []).length : Int))) ?_
  refine rU (upd (upd (upd (upd (upd (Z37 ls) 3 (.i (((catK ls k).length : Int) + ((ls.getD k []).length : Int)))) 5 (.q eEn (ls.getD k []))) 9 (.q eEL ls)) 10 (.i (ls.length : Int))) 11 (.i (k : Int))) noOb ?_
  refine seqR ?_
  refine mG (.i (((catK ls k).length : Int) + ((ls.getD k []).length : Int))) ?_
  refine bG ((.bool (decide ((((catK ls k).length : Int) + ((ls.getD k []).length : Int)) < 0)))) ?_
  refine op0 ?_
  refine awp_cond (decide ((((catK ls k).length : Int) + ((ls.getD k []).length : Int)) < 0)) rfl rfl (fun hc1 => ?_) (fun hc1 => ?_)
  ·skip
   have hf2 := of_decide_eq_true hc1
   exfalso; omega
  have hf3 := of_decide_eq_false hc1
  refine awp_skip ?_
  refine regR ?_
  refine oG (qB (.int .i64 ((k + 1 : Nat) : Int)) (addN om) ?_)
  refine mG (.i ((k + 1 : Nat) : Int)) ?_
  refine op0 ?_
  show _ ∧ _
  have hs_ := catK_step (d := []) hkl
  refine ⟨by omega, trivial, ?_⟩
  exact iN (he := (sS rfl (sS rfl (sS rfl (sS (by exact congrArg (fun n_ : Int => AV.v (.int .i64 n_)) (by rw [hs_, List.length_append]; omega)) (sS rfl (sS rfl sr_none)))))))
 have hf4 := of_decide_eq_false hc0
 refine awp_exit ?_
 refine seqR ?_
 refine mG (.i ((catK ls k).length : Int)) ?_
 refine oG (callO_ 51 (growE ((catK ls k).length) oo) rfl rfl rfl rfl rfl bd95 lS (.sl _ _ _ trivial) (news1 news0) (free1 rfl) rfl rfl ?_)
 refine mG (.sl 51 0 0) ?_
 refine rU (upd (Z37 ls) 6 (.sl 51 0 0)) (updO noOb 51 (.live ⟨[], 114, 2⟩)) ?_
 refine awp_seq ?_
 refine seqR ?_
 refine mG (.q eEL ls) ?_
 refine oG (qN ut159 ?_)
 refine mG (.i 0) ?_
 refine op0 ?_
 refine awp_block ?_
 refine awp_countI (fun j => ⟨(upd (upd (upd (upd (upd none_ 2 vN) 6 (.sl 1 0 ((catK ls j).length))) 25 (.q eEL ls)) 26 (.i (ls.length : Int))) 27 (.i (j : Int))), (Z38 ls j)⟩) (fun j => True) (ls.length) ?_ trivial (fun j hk_j hinv => ?_)
 ·skip
  exact iI 51 1 rfl
 have hcl2 := catK_len hx j
 refine seqR ?_
 refine bG ((.bool (decide ((j : Int) < (ls.length : Int))))) ?_
 refine op0 ?_
 refine awp_seq ?_
 refine awp_cond (decide ((j : Int) < (ls.length : Int))) rfl rfl (fun hc2 => ?_) (fun hc2 => ?_)
 ·skip
  have hf5 := of_decide_eq_true hc2
  have hjl : j < ls.length := by omega
  have hxj := hx _ (getD_mem [] hjl)
  refine awp_skip ?_
  refine awp_seq ?_
  refine awp_block ?_
  refine seqR ?_
  refine oG (qX [] ut159 sz115 ?_)
  refine oG (qL (.q eEn (ls.getD j [])) ag115 ?_)
  refine mG (.q eEn (ls.getD j [])) ?_
  refine rU (upd (upd (upd (upd (upd (upd none_ 2 vN) 6 (.sl 1 0 ((catK ls j).length))) 8 (.q eEn (ls.getD j []))) 25 (.q eEL ls)) 26 (.i (ls.length : Int))) 27 (.i (j : Int))) (Z38 ls j) ?_
  refine regR ?_
  refine mG (.sl 1 0 ((catK ls j).length)) ?_
  refine mG (.q eEn (ls.getD j [])) ?_
  refine oG (aop_appE (f := eEn) (l := catK ls j) (l2 := ls.getD j []) 52 rfl rfl rfl rfl ut115 in114 rfl (by decide) rfl rfl rfl rfl rfl rfl (fun _ => rfl) rfl rfl rfl oo oo rfl ?_)
  refine mG (.sl 52 0 (((catK ls j) ++ (ls.getD j [])).length)) ?_
  refine op0 ?_
  refine rT (upd (upd (upd (upd (upd (upd none_ 2 vN) 6 (.sl 52 0 (((catK ls j) ++ (ls.getD j [])).length))) 8 (.q eEn (ls.getD j []))) 25 (.q eEL ls)) 26 (.i (ls.length : Int))) 27 (.i (j : Int))) (updO (updO (Z38 ls j) 1 .dead) 52 (.live ⟨(enc eEn ((catK ls j) ++ (ls.getD j []))), 114, 2⟩)) ?_
  refine regR ?_
  refine oG (qB (.int .i64 ((j + 1 : Nat) : Int)) (addN om) ?_)
  refine mG (.i ((j + 1 : Nat) : Int)) ?_
  refine op0 ?_
  show _ ∧ _
  have hs_ := catK_step (d := []) hjl
  refine ⟨by omega, trivial, ?_⟩
  exact iI 52 1 rfl (he := (sS rfl (sS rfl (sS rfl (sM (by exact congrArg (AV.sl 1 0) (congrArg List.length hs_.symm)) (sS rfl sr_none)))))) (hoo := (by exact congrArg (fun l_ => LObj.mk (enc eEn l_) 114 2) hs_))
 have hf6 := of_decide_eq_false hc2
 refine awp_exit ?_
 refine seqR ?_
 refine mG (.sl 1 0 ((catK ls j).length)) ?_
 refine mG (.sl 1 0 ((catK ls j).length)) ?_
 refine op0 ?_
 have he : catK ls j = ls.flatten := by unfold catK; rw [List.take_of_length_le om]
 refine awp_imp _ (imp_frozen rfl (fun _ h => h) (lee_lend 2 (.q eEn (catK ls j)) (lend_s (id := 1) (n := (catK ls j).length) (o := ⟨(enc eEn (catK ls j)), 114, 2⟩) rfl (enc_len (fun _ => rfl) (by first | rfl | (simp; done)))) lee_lend0)) ?_
 refine awp_ret ?_
 exact fret (av := .ro ((catK ls j).length) (enc eEn (catK ls j))) rfl rfl (by rw [he])
abbrev Z3f (a : List Sec) (d : List Pnt) (s e : Int) : List AV := (enc eEn ([(oneE a ((d.getD (pointI d (nodeA a s e)).toNat dP).left) (nodeA a s e) : (List En)), (oneE a ((d.getD (pointI d (nodeA a s e)).toNat dP).right) (nodeA a s e) : (List En))].flatten))
abbrev Z3e (d : List Pnt) (a : List Sec) (s e : Int) : List AV := [.i ((d.getD (pointI d (nodeA a s e)).toNat dP).node), .i ((d.getD (pointI d (nodeA a s e)).toNat dP).stem), .i ((d.getD (pointI d (nodeA a s e)).toNat dP).left), .i ((d.getD (pointI d (nodeA a s e)).toNat dP).right)]
abbrev Z3d (a : List Sec) (d : List Pnt) (s e : Int) : AV := (.q eEn (oneE a ((d.getD (pointI d (nodeA a s e)).toNat dP).stem) (nodeA a s e)))
abbrev Z3c (s e : Int) : Nat → OSt := (updO noOb 51 (.live ⟨[.i s, .i e], 114, 1⟩))
abbrev Z3a (a : List Sec) (d : List Pnt) : List AV := [.one, .q eSec a, .one, .q ePnt d, .one, .one, .one, .one, .one, .one]
abbrev Z39 (s e : Int) (d : List Pnt) (a : List Sec) : Nat → OSt := (updO (updO (Z3c s e) 53 (.live ⟨[.i 0, .i 0, .i 0, .i 0], 100, 1⟩)) 53 (.live ⟨(Z3e d a s e), 100, 1⟩))
abbrev Z3h (s e : Int) (a : List Sec) : Nat → OSt := (updO (Z3c s e) 52 (.live ⟨(enc eEn (endsL a (nodeA a s e))), 114, 2⟩))
abbrev Z3g (a : List Sec) (d : List Pnt) (s e : Int) : Nat → AV := (upd (upd (upd (upd none_ 0 (.rp (Z3a a d))) 4 vN) 5 (.i (nodeA a s e))) 9 (.pt 53 0))
abbrev Z3b (a : List Sec) (d : List Pnt) (s e : Int) : Nat → AV := (upd (upd (upd (upd none_ 0 (.rp (Z3a a d))) 3 (.pt 51 0)) 4 vN) 5 (.i (nodeA a s e)))
theorem g_Around (a : List Sec) (d : List Pnt) (s e : Int) (hs : a.length ≤ 65536) (hp : d.length ≤ 65536) : Fn Try.prog 79 [.rp [.one, .ro a.length (enc eSec a), .one, .ro d.length (enc ePnt d), .one, .one, .one, .one, .one, .one], .agg [.v (.int .i64 s), .v (.int .i64 e)]] (.ro ((aroundL a d s e).length) (enc eEn (aroundL a d s e))) := by
 refine fnE_of_body (N := 70) Try.func79 rfl rfl (resOf1 rfl) (by simp) (fun w0 X hL_ => ?_)
 refine seqR ?_
 refine oG (qW 51 ?_)
 refine mG vN ?_
 refine op0 ?_
 refine seqR ?_
 refine mG (.rp (Z3a a d)) ?_
 refine oG (qLB [.i s, .i e] ag114 sz114 ?_)
 refine oG (qC (g_node a s e oo) bd85 ?_)
 refine mG (.tup [.i (nodeA a s e), .b (!noNode a s e)]) ?_
 refine oG (qE ?_)
 refine oG (qE ?_)
 refine mG (.i (nodeA a s e)) ?_
 refine mG (.b (!noNode a s e)) ?_
 refine rU (upd (Z3b a d s e) 6 (.b (!noNode a s e))) (Z3c s e) ?_
 refine awp_seq ?_
 refine seqR ?_
 refine mG (.b (!noNode a s e)) ?_
 refine oG (aop_not rfl rfl rfl rfl ?_)
 refine op0 ?_
 refine awp_cond (!(!noNode a s e)) rfl rfl (fun hc0 => ?_) (fun hc0 => ?_)
 ·skip
  have hf1 := not_t hc0
  have hn : noNode a s e = true := by simpa using hc0
  refine seqR ?_
  refine mG vN ?_
  refine op0 ?_
  refine awp_imp _ (imp_frozen rfl (fun _ h => h) (lee_lend 4 (.ro 0 []) .nil lee_lend0)) ?_
  refine awp_ret ?_
  exact fret (av := .ro 0 []) rfl rfl (by rw [around_no hn]; rfl)
 have hf2 := not_f hc0
 have hn : noNode a s e = false := by simpa using hc0
 have hr_ := pointI_range d (nodeA a s e)
 refine awp_skip ?_
 refine seqR ?_
 refine mG (.rp (Z3a a d)) ?_
 refine mG (.i (nodeA a s e)) ?_
 refine oG (qC (g_Point d (nodeA a s e) oo) bd86 ?_)
 refine mG (.i (pointI d (nodeA a s e))) ?_
 refine rU (upd (Z3b a d s e) 7 (.i (pointI d (nodeA a s e)))) (Z3c s e) ?_
 refine awp_seq ?_
 refine seqR ?_
 refine mG (.i (pointI d (nodeA a s e))) ?_
 refine bG ((.bool (decide ((pointI d (nodeA a s e)) < 0)))) ?_
 refine op0 ?_
 refine awp_cond (decide ((pointI d (nodeA a s e)) < 0)) rfl rfl (fun hc1 => ?_) (fun hc1 => ?_)
 ·skip
  have hf3 := of_decide_eq_true hc1
  have hi : ¬ 0 ≤ pointI d (nodeA a s e) := by omega
  have hle0 := endsL_len a (nodeA a s e)
  refine seqR ?_
  refine mG (.rp (Z3a a d)) ?_
  refine mG (.i (nodeA a s e)) ?_
  refine oG (callO_ 52 (g_Ends a (nodeA a s e) oo) rfl rfl rfl rfl rfl bd88 lS (.sl _ _ _ trivial) (news1 news0) (free1 rfl) rfl rfl ?_)
  refine oG (aop_makeFunc (caps := [.tmp 3]) rfl rfl rfl rfl ?_)
  refine oG (callG_ true [52] [] (delE (endsL a (nodeA a s e)) s e oo) rfl rfl rfl rfl rfl bd87 (by decide) ⟨giv_no (o := ⟨(enc eEn (endsL a (nodeA a s e))), 114, 2⟩) rfl rfl, trivial⟩ ⟨(arg_own (.sl _ _ _ (by simp)) rfl), (arg_lent (lend_fn (lends_cons (lend_pt rfl lS) lends_nil))), trivial⟩ rfl trivial (fun _ => ⟨.sl _ _ _ trivial, ⟨(fun c hc => ((inferInstance : FlatL (enc eEn (restG (fun x : En => decide (x.sec = s ∧ x.en = e)) (endsL a (nodeA a s e)) ++ List.replicate ((endsL a (nodeA a s e)).length - (restG (fun x : En => decide (x.sec = s ∧ x.en = e)) (endsL a (nodeA a s e))).length) dE))).out c hc).mono (fun _ h => h.elim) id), trivial⟩⟩) rfl (place_cons (ost_no (cs := (enc eEn (restG (fun x : En => decide (x.sec = s ∧ x.en = e)) (endsL a (nodeA a s e)) ++ List.replicate ((endsL a (nodeA a s e)).length - (restG (fun x : En => decide (x.sec = s ∧ x.en = e)) (endsL a (nodeA a s e))).length) dE)))) place_nil) ?_)
  refine mG (.sl 52 0 ((restG (fun x : En => decide (x.sec = s ∧ x.en = e)) (endsL a (nodeA a s e))).length)) ?_
  refine rU (upd (upd (Z3b a d s e) 7 (.i (pointI d (nodeA a s e)))) 8 (.sl 52 0 ((restG (fun x : En => decide (x.sec = s ∧ x.en = e)) (endsL a (nodeA a s e))).length))) (updO (Z3h s e a) 52 (.live ⟨(enc eEn (restG (fun x : En => decide (x.sec = s ∧ x.en = e)) (endsL a (nodeA a s e)) ++ List.replicate ((endsL a (nodeA a s e)).length - (restG (fun x : En => decide (x.sec = s ∧ x.en = e)) (endsL a (nodeA a s e))).length) dE)), 114, 2⟩)) ?_
  refine awp_seq ?_
  refine seqR ?_
  refine mG (.sl 52 0 ((restG (fun x : En => decide (x.sec = s ∧ x.en = e)) (endsL a (nodeA a s e))).length)) ?_
  refine oG (aop_len rfl rfl rfl rfl ut115 (len_sl rfl) ?_)
  refine bG ((.bool (((restG (fun x : En => decide (x.sec = s ∧ x.en = e)) (endsL a (nodeA a s e))).length : Int) != 1))) ?_
  refine op0 ?_
  refine awp_cond (((restG (fun x : En => decide (x.sec = s ∧ x.en = e)) (endsL a (nodeA a s e))).length : Int) != 1) rfl rfl (fun hc2 => ?_) (fun hc2 => ?_)
  ·skip
   have hf4 := (bne_iff_ne).1 hc2
   have hlen : ¬ (otherE a (nodeA a s e) s e).length = 1 := by rw [otherE_rest]; simp at hc2; omega
   refine seqR ?_
   refine mG vN ?_
   refine rU (upd (upd (Z3b a d s e) 7 (.i (pointI d (nodeA a s e)))) 8 (.sl 52 0 ((restG (fun x : En => decide (x.sec = s ∧ x.en = e)) (endsL a (nodeA a s e))).length))) (updO (Z3h s e a) 52 (.live ⟨(enc eEn (restG (fun x : En => decide (x.sec = s ∧ x.en = e)) (endsL a (nodeA a s e)) ++ List.replicate ((endsL a (nodeA a s e)).length - (restG (fun x : En => decide (x.sec = s ∧ x.en = e)) (endsL a (nodeA a s e))).length) dE)), 114, 2⟩)) ?_
   refine awp_imp _ (imp_frozen rfl (fun _ h => h) (lee_lend 4 (.ro 0 []) .nil lee_lend0)) ?_
   refine awp_ret ?_
   exact fret (av := .ro 0 []) rfl rfl (by rw [around_many hn hi hlen]; rfl)
  have hf5 := (bne_eq_false_iff_eq).1 hc2
  have hlen : (otherE a (nodeA a s e) s e).length = 1 := by rw [otherE_rest]; simp at hc2; omega
  refine awp_skip ?_
  refine seqR ?_
  refine mG (.sl 52 0 ((restG (fun x : En => decide (x.sec = s ∧ x.en = e)) (endsL a (nodeA a s e))).length)) ?_
  refine mG (.sl 52 0 ((restG (fun x : En => decide (x.sec = s ∧ x.en = e)) (endsL a (nodeA a s e))).length)) ?_
  refine rU (upd (upd (upd (upd (upd none_ 0 (.rp (Z3a a d))) 3 (.pt 51 0)) 4 (.sl 52 0 ((restG (fun x : En => decide (x.sec = s ∧ x.en = e)) (endsL a (nodeA a s e))).length))) 5 (.i (nodeA a s e))) 7 (.i (pointI d (nodeA a s e)))) (updO (Z3h s e a) 52 (.live ⟨(enc eEn (restG (fun x : En => decide (x.sec = s ∧ x.en = e)) (endsL a (nodeA a s e)) ++ List.replicate ((endsL a (nodeA a s e)).length - (restG (fun x : En => decide (x.sec = s ∧ x.en = e)) (endsL a (nodeA a s e))).length) dE)), 114, 2⟩)) ?_
  refine awp_imp _ (imp_frozen rfl (fun _ h => h) (lee_lend 4 (.q eEn (restG (fun x : En => decide (x.sec = s ∧ x.en = e)) (endsL a (nodeA a s e)))) (lend_p (id := 52) (n := (restG (fun x : En => decide (x.sec = s ∧ x.en = e)) (endsL a (nodeA a s e))).length) (o := ⟨(enc eEn (restG (fun x : En => decide (x.sec = s ∧ x.en = e)) (endsL a (nodeA a s e)) ++ List.replicate ((endsL a (nodeA a s e)).length - (restG (fun x : En => decide (x.sec = s ∧ x.en = e)) (endsL a (nodeA a s e))).length) dE)), 114, 2⟩) (f := eEn) (l := restG (fun x : En => decide (x.sec = s ∧ x.en = e)) (endsL a (nodeA a s e))) (rest := List.replicate ((endsL a (nodeA a s e)).length - (restG (fun x : En => decide (x.sec = s ∧ x.en = e)) (endsL a (nodeA a s e))).length) dE) rfl rfl rfl (fun _ => rfl)) lee_lend0)) ?_
  refine awp_ret ?_
  exact fret (av := .ro ((restG (fun x : En => decide (x.sec = s ∧ x.en = e)) (endsL a (nodeA a s e))).length) (enc eEn (restG (fun x : En => decide (x.sec = s ∧ x.en = e)) (endsL a (nodeA a s e))))) rfl rfl (by rw [around_one hn hi hlen, otherE_rest])
 have hf6 := of_decide_eq_false hc1
 have hi : 0 ≤ pointI d (nodeA a s e) := by omega
 have ho1 := oneE_len a (d.getD (pointI d (nodeA a s e)).toNat dP).left (nodeA a s e)
 have ho2 := oneE_len a (d.getD (pointI d (nodeA a s e)).toNat dP).right (nodeA a s e)
 have hxl : ∀ x, x ∈ [oneE a (d.getD (pointI d (nodeA a s e)).toNat dP).left (nodeA a s e), oneE a (d.getD (pointI d (nodeA a s e)).toNat dP).right (nodeA a s e)] → x.length ≤ 65536 := fun x hx => by rcases List.mem_cons.1 hx with rfl | hx; omega; rw [List.mem_singleton.1 hx]; omega
 refine awp_skip ?_
 refine seqR ?_
 refine mG (.rp (Z3a a d)) ?_
 refine oG (aop_nilCheck rfl rfl rfl rfl rfl ?_)
 refine oG (qF (.rp (Z3a a d)) (.rp (Z3a a d)) ft121_0 sz39 ?_)
 refine oG (qF (.rp (Z3a a d)) (.rp [.q ePnt d, .one, .one, .one, .one, .one, .one]) ft39_3 sz37 ?_)
 refine oG (qL (.q ePnt d) ag37 ?_)
 refine mG (.i (pointI d (nodeA a s e))) ?_
 refine oG (aop_ixI dP rfl rfl rfl ut37 sz100 rfl rfl (fun _ => rfl) rfl om oo ?_)
 refine oG (qLB (Z3e d a s e) ag100 sz100 ?_)
 refine oG (aop_alloc 53 rfl rfl rfl rfl ze100 rfl ?_)
 refine oG (qS sz100 ?_)
 refine rU (upd (Z3b a d s e) 9 (.pt 53 0)) (Z39 s e d a) ?_
 refine awp_seq ?_
 refine seqR ?_
 refine fG (.pt 51 0) ft114_0 sz3 ?_
 refine oG (qL (.i s) ag3 ?_)
 refine op0 ?_
 refine awp_block ?_
 refine seqR ?_
 refine fG (.pt 53 1) ft100_1 sz3 ?_
 refine oG (qL (.i ((d.getD (pointI d (nodeA a s e)).toNat dP).stem)) ag3 ?_)
 refine bG ((.bool (s == ((d.getD (pointI d (nodeA a s e)).toNat dP).stem)))) ?_
 refine mG (.b (s == ((d.getD (pointI d (nodeA a s e)).toNat dP).stem))) ?_
 refine rU (upd (upd (Z3g a d s e) 41 (.i s)) 42 (.b (s == ((d.getD (pointI d (nodeA a s e)).toNat dP).stem)))) (Z39 s e d a) ?_
 refine awp_cond (s == ((d.getD (pointI d (nodeA a s e)).toNat dP).stem)) rfl rfl (fun hc3 => ?_) (fun hc3 => ?_)
 ·skip
  have hf7 := (beq_iff_eq).1 hc3
  have hq : s = (d.getD (pointI d (nodeA a s e)).toNat dP).stem := by simpa using hc3
  refine awp_seq ?_
  refine aD 12 [(57, .ro ([(oneE a ((d.getD (pointI d (nodeA a s e)).toNat dP).left) (nodeA a s e) : (List En)), (oneE a ((d.getD (pointI d (nodeA a s e)).toNat dP).right) (nodeA a s e) : (List En))].flatten.length) (Z3f a d s e)), (56, .ro 2 [.q eEn (oneE a ((d.getD (pointI d (nodeA a s e)).toNat dP).left) (nodeA a s e)), .q eEn (oneE a ((d.getD (pointI d (nodeA a s e)).toNat dP).right) (nodeA a s e))]), (55, .q eEn (oneE a ((d.getD (pointI d (nodeA a s e)).toNat dP).right) (nodeA a s e))), (54, .i (nodeA a s e)), (53, .i ((d.getD (pointI d (nodeA a s e)).toNat dP).right)), (52, .pt 53 3), (51, .rp (Z3a a d)), (50, .q eEn (oneE a ((d.getD (pointI d (nodeA a s e)).toNat dP).left) (nodeA a s e))), (49, .i (nodeA a s e)), (48, .i ((d.getD (pointI d (nodeA a s e)).toNat dP).left)), (47, .pt 53 2), (46, .rp (Z3a a d))] mixed ?_ ?_
  ·refine ⟨?_, ?_, ?_, ?_, ?_, ?_, ?_, ?_, ?_, ?_, ?_, ?_, trivial⟩
   ·exact sMv
   ·exact sF (.pt 53 0) (.pt 53 2) ft100_2 sz3
   ·exact sL ag3
   ·exact sMv
   ·exact sC (g_at a ((d.getD (pointI d (nodeA a s e)).toNat dP).left) (nodeA a s e) oo) bd91
   ·exact sMv
   ·exact sF (.pt 53 0) (.pt 53 3) ft100_3 sz3
   ·exact sL ag3
   ·exact sMv
   ·exact sC (g_at a ((d.getD (pointI d (nodeA a s e)).toNat dP).right) (nodeA a s e) oo) bd91
   ·exact dW 56 fun st hob hE => aop_lit rfl rfl rfl ut159 iz115 (by decide) (by decide) (by simp only [partsA, List.map, evA, hE 50 rfl, hE 55 rfl]; rfl) rfl (by rw [hob]; rfl)
   exact dW 57 fun st hob hE => call_ (concE [oneE a (d.getD (pointI d (nodeA a s e)).toNat dP).left (nodeA a s e), oneE a (d.getD (pointI d (nodeA a s e)).toNat dP).right (nodeA a s e)] (Nat.le_of_ble_eq_true rfl) hxl) rfl rfl rfl rfl rfl bd90 (by show [st.env 56] ++ _ = _; rw [hE 56 rfl]; rfl) (by rw [hob]; rfl)
  refine mG (.ro ([(oneE a ((d.getD (pointI d (nodeA a s e)).toNat dP).left) (nodeA a s e) : (List En)), (oneE a ((d.getD (pointI d (nodeA a s e)).toNat dP).right) (nodeA a s e) : (List En))].flatten.length) (Z3f a d s e)) ?_
  refine op0 ?_
  refine awp_ret ?_
  exact fret (av := .ro ([(oneE a ((d.getD (pointI d (nodeA a s e)).toNat dP).left) (nodeA a s e) : (List En)), (oneE a ((d.getD (pointI d (nodeA a s e)).toNat dP).right) (nodeA a s e) : (List En))].flatten.length) (enc eEn ([(oneE a ((d.getD (pointI d (nodeA a s e)).toNat dP).left) (nodeA a s e) : (List En)), (oneE a ((d.getD (pointI d (nodeA a s e)).toNat dP).right) (nodeA a s e) : (List En))].flatten))) rfl rfl (by rw [around_stem hn hi hq]; simp)
 have hf8 := (beq_eq_false_iff_ne).1 hc3
 have hq : ¬ s = (d.getD (pointI d (nodeA a s e)).toNat dP).stem := by simpa using hc3
 refine awp_seq ?_
 refine seqR ?_
 refine fG (.pt 53 2) ft100_2 sz3 ?_
 refine oG (qL (.i ((d.getD (pointI d (nodeA a s e)).toNat dP).left)) ag3 ?_)
 refine bG ((.bool (s == ((d.getD (pointI d (nodeA a s e)).toNat dP).left)))) ?_
 refine mG (.b (s == ((d.getD (pointI d (nodeA a s e)).toNat dP).left))) ?_
 refine rU (upd (upd (Z3g a d s e) 41 (.i s)) 58 (.b (s == ((d.getD (pointI d (nodeA a s e)).toNat dP).left)))) (Z39 s e d a) ?_
 refine awp_cond (s == ((d.getD (pointI d (nodeA a s e)).toNat dP).left)) rfl rfl (fun hc4 => ?_) (fun hc4 => ?_)
 ·skip
  have hf9 := (beq_iff_eq).1 hc4
  refine awp_skip ?_
  refine awp_cond (s == ((d.getD (pointI d (nodeA a s e)).toNat dP).left)) rfl rfl (fun hc5 => ?_) (fun hc5 => ?_)
  ·skip
   have hf10 := (beq_iff_eq).1 hc5
   refine seqR ?_
   refine mG (.rp (Z3a a d)) ?_
   refine fG (.pt 53 1) ft100_1 sz3 ?_
   refine oG (qL (.i ((d.getD (pointI d (nodeA a s e)).toNat dP).stem)) ag3 ?_)
   refine mG (.i (nodeA a s e)) ?_
   refine oG (qC (g_at a ((d.getD (pointI d (nodeA a s e)).toNat dP).stem) (nodeA a s e) oo) bd91 ?_)
   refine mG (Z3d a d s e) ?_
   refine rU (upd none_ 4 (Z3d a d s e)) (Z39 s e d a) ?_
   refine awp_ret ?_
   exact fret (av := .ro ((oneE a ((d.getD (pointI d (nodeA a s e)).toNat dP).stem) (nodeA a s e)).length) (enc eEn (oneE a ((d.getD (pointI d (nodeA a s e)).toNat dP).stem) (nodeA a s e)))) rfl rfl (by rw [around_leg hn hi hq (.inl (by simpa using hc4))])
  have hf11 := (beq_eq_false_iff_ne).1 hc5
  exfalso; rw [hc4] at hc5; cases hc5
 have hf12 := (beq_eq_false_iff_ne).1 hc4
 refine regR ?_
 refine fG (.pt 53 3) ft100_3 sz3 ?_
 refine oG (qL (.i ((d.getD (pointI d (nodeA a s e)).toNat dP).right)) ag3 ?_)
 refine bG ((.bool (s == ((d.getD (pointI d (nodeA a s e)).toNat dP).right)))) ?_
 refine mG (.b (s == ((d.getD (pointI d (nodeA a s e)).toNat dP).right))) ?_
 refine op0 ?_
 refine rT (upd (Z3g a d s e) 58 (.b (s == ((d.getD (pointI d (nodeA a s e)).toNat dP).right)))) (Z39 s e d a) ?_
 refine awp_cond (s == ((d.getD (pointI d (nodeA a s e)).toNat dP).right)) rfl rfl (fun hc6 => ?_) (fun hc6 => ?_)
 ·skip
  have hf13 := (beq_iff_eq).1 hc6
  refine seqR ?_
  refine mG (.rp (Z3a a d)) ?_
  refine fG (.pt 53 1) ft100_1 sz3 ?_
  refine oG (qL (.i ((d.getD (pointI d (nodeA a s e)).toNat dP).stem)) ag3 ?_)
  refine mG (.i (nodeA a s e)) ?_
  refine oG (qC (g_at a ((d.getD (pointI d (nodeA a s e)).toNat dP).stem) (nodeA a s e) oo) bd91 ?_)
  refine mG (Z3d a d s e) ?_
  refine rU (upd none_ 4 (Z3d a d s e)) (Z39 s e d a) ?_
  refine awp_ret ?_
  exact fret (av := .ro ((oneE a ((d.getD (pointI d (nodeA a s e)).toNat dP).stem) (nodeA a s e)).length) (enc eEn (oneE a ((d.getD (pointI d (nodeA a s e)).toNat dP).stem) (nodeA a s e)))) rfl rfl (by rw [around_leg hn hi hq (.inr (by simpa using hc6))])
 have hf14 := (beq_eq_false_iff_ne).1 hc6
 refine awp_skip ?_
 refine seqR ?_
 refine mG vN ?_
 refine op0 ?_
 refine awp_imp _ (imp_frozen rfl (fun _ h => h) (lee_lend 4 (.ro 0 []) .nil lee_lend0)) ?_
 refine awp_ret ?_
 exact fret (av := .ro 0 []) rfl rfl (by rw [around_off hn hi hq (fun h => h.elim (fun h => (beq_eq_false_iff_ne.1 hc4) h) (fun h => (beq_eq_false_iff_ne.1 hc6) h))]; rfl)
abbrev Z3i (l : List Int) (v : Int) : Nat → AV := (upd (upd (upd none_ 0 (.q eI l)) 1 (.i v)) 4 (.i 0))
theorem ixI (l : List Int) (v : Int) (hl : l.length ≤ 4294967296) : Fn Try.prog 72 [.ro l.length (enc eI l), .v (.int .i64 v)] (.v (.int .i64 (idxB (fun x => decide (v = x)) l))) := by
 refine fnE_of_body (N := 19) Try.func72 rfl rfl (resOf1 rfl) (by simp) (fun w0 X hL_ => ?_)
 refine seqR ?_
 refine mG (.i 0) ?_
 refine op0 ?_
 refine awp_seq ?_
 refine seqR ?_
 refine mG (.q eI l) ?_
 refine oG (qN ut48 ?_)
 refine mG (.i 0) ?_
 refine rU (upd (upd (Z3i l v) 7 (.i (l.length : Int))) 8 (.i 0)) noOb ?_
 refine awp_block ?_
 refine awp_countI (fun k => ⟨(upd (upd (Z3i l v) 7 (.i (l.length : Int))) 8 (.i (k : Int))), noOb⟩) (fun k => (l.take k).any (fun x => decide (v = x)) = false) (l.length) ?_ (by simp) (fun k hk_k hinv => ?_)
 ·skip
  exact iN
 refine seqR ?_
 refine bG ((.bool (decide ((k : Int) < (l.length : Int))))) ?_
 refine op0 ?_
 refine awp_seq ?_
 refine awp_cond (decide ((k : Int) < (l.length : Int))) rfl rfl (fun hc0 => ?_) (fun hc0 => ?_)
 ·skip
  have hf1 := of_decide_eq_true hc0
  refine awp_skip ?_
  refine awp_seq ?_
  refine awp_block ?_
  refine seqR ?_
  refine mG (.i (k : Int)) ?_
  refine mG (.i (k : Int)) ?_
  refine op0 ?_
  refine seqR ?_
  refine mG (.i v) ?_
  refine mG (.q eI l) ?_
  refine mG (.i (k : Int)) ?_
  refine oG (qX (0 : Int) ut48 sz3 ?_)
  refine oG (qL (.i (l.getD k 0)) ag3 ?_)
  refine bG ((.bool (v == (l.getD k 0)))) ?_
  refine rU (upd (upd (upd (upd (Z3i l v) 5 (.i (k : Int))) 7 (.i (l.length : Int))) 8 (.i (k : Int))) 16 (.b (v == (l.getD k 0)))) noOb ?_
  refine awp_cond (v == (l.getD k 0)) rfl rfl (fun hc1 => ?_) (fun hc1 => ?_)
  ·skip
   have hf2 := (beq_iff_eq).1 hc1
   refine seqR ?_
   refine mG (.i (k : Int)) ?_
   refine mG (.i (k : Int)) ?_
   refine op0 ?_
   refine awp_ret ?_
   exact fret (av := .v (.int .i64 (k : Int))) rfl rfl (by rw [idxB_stop (f := fun x => decide (v = x)) 0 om hinv (by simpa using hc1)] <;> rfl)
  have hf3 := (beq_eq_false_iff_ne).1 hc1
  refine awp_skip ?_
  refine regR ?_
  refine oG (qB (.int .i64 ((k + 1 : Nat) : Int)) (addN om) ?_)
  refine mG (.i ((k + 1 : Nat) : Int)) ?_
  refine op0 ?_
  show _ ∧ _
  refine ⟨by omega, (any_step 0 om hinv (by simpa using hc1)), ?_⟩
  exact iN
 have hf4 := of_decide_eq_false hc0
 refine awp_exit ?_
 refine seqR ?_
 refine mG (.i (-1)) ?_
 refine op0 ?_
 refine awp_ret ?_
 exact fret (av := .v (.int .i64 (-1))) rfl rfl (by rw [idxB_end (f := fun x => decide (v = x)) om hinv] <;> rfl)
theorem coI (l : List Int) (v : Int) (hl : l.length ≤ 4294967296) : Fn Try.prog 67 [.ro l.length (enc eI l), .v (.int .i64 v)] (.v (.bool (decide (v ∈ l)))) := by
 refine fnE_of_body (N := 9) Try.func67 rfl rfl (resOf1 rfl) (by simp) (fun w0 X hL_ => ?_)
 refine seqR ?_
 refine mG (.b false) ?_
 refine op0 ?_
 refine seqR ?_
 refine mG (.q eI l) ?_
 refine mG (.i v) ?_
 refine oG (qJ (ixI l v oo) bd72 ?_)
 refine bG ((.bool (decide ((idxB (fun x => decide (v = x)) l) ≥ 0)))) ?_
 refine mG (.b (decide ((idxB (fun x => decide (v = x)) l) ≥ 0))) ?_
 refine rU (upd none_ 4 (.b (decide ((idxB (fun x => decide (v = x)) l) ≥ 0)))) noOb ?_
 refine awp_ret ?_
 exact fret (av := .v (.bool (decide ((idxB (fun x => decide (v = x)) l) ≥ 0)))) rfl rfl (by rw [idxB_mem2])
theorem ag110 : aggT Try.prog 110 = some true := by kernel_rfl
theorem ag140 : aggT Try.prog 140 = some true := by kernel_rfl
theorem ag28 : aggT Try.prog 28 = some false := by kernel_rfl
theorem ag63 : aggT Try.prog 63 = some true := by kernel_rfl
theorem ag69 : aggT Try.prog 69 = some true := by kernel_rfl
theorem bd53 : bodied Try.prog 53 = true := by kernel_rfl
theorem bd54 : bodied Try.prog 54 = true := by kernel_rfl
theorem bd65 : bodied Try.prog 65 = true := by kernel_rfl
theorem bd66 : bodied Try.prog 66 = true := by kernel_rfl
theorem bd67 : bodied Try.prog 67 = true := by kernel_rfl
theorem bd71 : bodied Try.prog 71 = true := by kernel_rfl
theorem bd74 : bodied Try.prog 74 = true := by kernel_rfl
theorem bd75 : bodied Try.prog 75 = true := by kernel_rfl
theorem bd76 : bodied Try.prog 76 = true := by kernel_rfl
theorem bd77 : bodied Try.prog 77 = true := by kernel_rfl
theorem bd78 : bodied Try.prog 78 = true := by kernel_rfl
theorem bd83 : bodied Try.prog 83 = true := by kernel_rfl
theorem bd84 : bodied Try.prog 84 = true := by kernel_rfl
theorem ft140_0 : fieldT Try.prog 140 0 = some (3, 0) := by kernel_rfl
theorem ft140_1 : fieldT Try.prog 140 1 = some (4, 1) := by kernel_rfl
theorem ft63_0 : fieldT Try.prog 63 0 = some (3, 0) := by kernel_rfl
theorem ft69_0 : fieldT Try.prog 69 0 = some (3, 0) := by kernel_rfl
theorem in110 : (Try.prog.info? 110).map (fun i => (i.zero, i.size, i.bytes)) = some (some (.agg #[(.int .i64 0), (.bool false)]), 2, 16) := by kernel_rfl
theorem iz110 : (Try.prog.info? 110).map (fun i => (i.zero, i.size)) = some (some (.agg #[(.int .i64 0), (.bool false)]), 2) := by kernel_rfl
theorem pl63 : placesOf Try.prog 63 = some ((.agg #[(.int .i64 0), (.bool false), (.slice none 0 0)]), fun i => ([(0, 1), (1, 1), (2, 1)] : List (Nat × Nat)).toArray[i]?) := by kernel_rfl
theorem pl69 : placesOf Try.prog 69 = some ((.agg #[(.int .i64 0), (.bool false), (.slice none 0 0)]), fun i => ([(0, 1), (1, 1), (2, 1)] : List (Nat × Nat)).toArray[i]?) := by kernel_rfl
theorem sz140 : (Try.prog.info? 140).map (·.size) = some 2 := by kernel_rfl
theorem sz63 : (Try.prog.info? 63).map (·.size) = some 3 := by kernel_rfl
theorem sz69 : (Try.prog.info? 69).map (·.size) = some 3 := by kernel_rfl
theorem ut131 : Try.prog.underlying 131 = some (.slice 140) := by kernel_rfl
theorem ut4 : Try.prog.underlying 4 = some (.bool) := by kernel_rfl
theorem ut43 : Try.prog.underlying 43 = some (.slice 63) := by kernel_rfl
theorem ut44 : Try.prog.underlying 44 = some (.slice 69) := by kernel_rfl
theorem ze63 : (Try.prog.info? 63).bind (·.zero) = some (.agg #[(.int .i64 0), (.bool false), (.slice none 0 0)]) := by kernel_rfl
theorem ze69 : (Try.prog.info? 69).bind (·.zero) = some (.agg #[(.int .i64 0), (.bool false), (.slice none 0 0)]) := by kernel_rfl
theorem g_Part1 (l : List Int) (s : Int) (hl : l.length ≤ 4294967296) : Fn Try.prog 78 [.ro l.length (enc eI l), .rp [.v (.int .i64 s)]] (.v (.bool (decide (s ∈ l)))) := by
 refine fnE_of_body (N := 7) Try.func78 rfl rfl (resOf1 rfl) (by simp) (fun w0 X hL_ => ?_)
 refine seqR ?_
 refine mG (.b false) ?_
 refine op0 ?_
 refine seqR ?_
 refine mG (.q eI l) ?_
 refine oG (qL (.i s) ag3 ?_)
 refine oG (qJ (coI l s oo) bd67 ?_)
 refine mG (.b (decide (s ∈ l))) ?_
 refine rU (upd none_ 3 (.b (decide (s ∈ l)))) noOb ?_
 refine awp_ret ?_
 exact fret (av := .v (.bool (decide (s ∈ l)))) rfl rfl rfl
abbrev Z3j (a : List (List Int)) (s : Int) : Nat → AV := (upd (upd (upd none_ 0 (.q eIL a)) 1 (.fn 78 [.rp [.i s]])) 4 (.i 0))
theorem ixIL (a : List (List Int)) (s : Int) (hp : a.length ≤ 65536) (hpl : ∀ x, x ∈ a → x.length ≤ 65536) : Fn Try.prog 77 [.ro a.length (enc eIL a), .fn 78 [.rp [.v (.int .i64 s)]]] (.v (.int .i64 (partI a s))) := by
 refine fnE_of_body (N := 19) Try.func77 rfl rfl (resOf1 rfl) (by simp) (fun w0 X hL_ => ?_)
 refine seqR ?_
 refine mG (.i 0) ?_
 refine op0 ?_
 refine awp_seq ?_
 refine seqR ?_
 refine mG (.q eIL a) ?_
 refine oG (qN ut36 ?_)
 refine mG (.i 0) ?_
 refine rU (upd (upd (Z3j a s) 7 (.i (a.length : Int))) 8 (.i 0)) noOb ?_
 refine awp_block ?_
 refine awp_countI (fun k => ⟨(upd (upd (Z3j a s) 7 (.i (a.length : Int))) 8 (.i (k : Int))), noOb⟩) (fun k => (a.take k).any (fun l => decide (s ∈ l)) = false) (a.length) ?_ (by simp) (fun k hk_k hinv => ?_)
 ·skip
  exact iN
 refine seqR ?_
 refine bG ((.bool (decide ((k : Int) < (a.length : Int))))) ?_
 refine op0 ?_
 refine awp_seq ?_
 refine awp_cond (decide ((k : Int) < (a.length : Int))) rfl rfl (fun hc0 => ?_) (fun hc0 => ?_)
 ·skip
  have hf1 := of_decide_eq_true hc0
  have hpk := hpl _ (getD_mem (l := a) (k := k) [] om)
  refine awp_skip ?_
  refine awp_seq ?_
  refine awp_block ?_
  refine seqR ?_
  refine mG (.i (k : Int)) ?_
  refine mG (.i (k : Int)) ?_
  refine op0 ?_
  refine seqR ?_
  refine mG (.fn 78 [.rp [.i s]]) ?_
  refine mG (.q eIL a) ?_
  refine mG (.i (k : Int)) ?_
  refine oG (qX [] ut36 sz48 ?_)
  refine oG (qL (.q eI (a.getD k [])) ag48 ?_)
  refine oG (qJ (g_Part1 (a.getD k []) s oo) bd78 ?_)
  refine rU (upd (upd (upd (upd (Z3j a s) 5 (.i (k : Int))) 7 (.i (a.length : Int))) 8 (.i (k : Int))) 16 (.b (decide (s ∈ (a.getD k []))))) noOb ?_
  refine awp_cond (decide (s ∈ (a.getD k []))) rfl rfl (fun hc1 => ?_) (fun hc1 => ?_)
  ·skip
   refine seqR ?_
   refine mG (.i (k : Int)) ?_
   refine mG (.i (k : Int)) ?_
   refine op0 ?_
   refine awp_ret ?_
   exact fret (av := .v (.int .i64 (k : Int))) rfl rfl (by unfold partI; rw [idxB_stop [] om hinv hc1] <;> rfl)
  refine awp_skip ?_
  refine regR ?_
  refine oG (qB (.int .i64 ((k + 1 : Nat) : Int)) (addN om) ?_)
  refine mG (.i ((k + 1 : Nat) : Int)) ?_
  refine op0 ?_
  show _ ∧ _
  refine ⟨by omega, (any_step [] om hinv hc1), ?_⟩
  exact iN
 have hf2 := of_decide_eq_false hc0
 refine awp_exit ?_
 refine seqR ?_
 refine mG (.i (-1)) ?_
 refine op0 ?_
 refine awp_ret ?_
 exact fret (av := .v (.int .i64 (-1))) rfl rfl (by unfold partI; rw [idxB_end om hinv] <;> rfl)
theorem g_Part (a : List (List Int)) (s : Int) (hp : a.length ≤ 65536) (hpl : ∀ x, x ∈ a → x.length ≤ 65536) : Fn Try.prog 70 [.rp [.one, .one, .ro a.length (enc eIL a), .one, .one, .one, .one, .one, .one, .one], .v (.int .i64 s)] (.v (.int .i64 (partI a s))) := by
 refine fnE_of_body (N := 14) Try.func70 rfl rfl (resOf1 rfl) (by simp) (fun w0 X hL_ => ?_)
 refine seqR ?_
 refine oG (qW 51 ?_)
 refine mG (.i 0) ?_
 refine op0 ?_
 refine awp_seq ?_
 refine seqR ?_
 refine mG (.rp [.one, .one, .q eIL a, .one, .one, .one, .one, .one, .one, .one]) ?_
 refine oG (aop_ptNil rfl rfl rfl ut78 rfl rfl rfl (.inl ⟨rfl, rfl⟩) ?_)
 refine rU (upd (upd (upd (upd none_ 0 (.rp [.one, .one, .q eIL a, .one, .one, .one, .one, .one, .one, .one])) 3 (.pt 51 0)) 4 (.i 0)) 6 (.b false)) (updO noOb 51 (.live ⟨[.i s], 3, 1⟩)) ?_
 refine awp_cond false rfl rfl (fun h => by cases h) (fun _ => ?_)
 refine awp_skip ?_
 refine seqR ?_
 refine mG (.rp [.one, .one, .q eIL a, .one, .one, .one, .one, .one, .one, .one]) ?_
 refine oG (aop_nilCheck rfl rfl rfl rfl rfl ?_)
 refine oG (qF (.rp [.one, .one, .q eIL a, .one, .one, .one, .one, .one, .one, .one]) (.rp [.one, .one, .q eIL a, .one, .one, .one, .one, .one, .one, .one]) ft121_0 sz39 ?_)
 refine oG (qF (.rp [.one, .one, .q eIL a, .one, .one, .one, .one, .one, .one, .one]) (.rp [.q eIL a, .one, .one, .one, .one, .one, .one, .one]) ft39_2 sz36 ?_)
 refine oG (qL (.q eIL a) ag36 ?_)
 refine oG (aop_makeFunc (caps := [.tmp 3]) rfl rfl rfl rfl ?_)
 refine oG (callL_ (ixIL a s hp hpl) rfl rfl rfl rfl rfl bd77 (lends_cons (lend_n (av := .q eIL a)) (lends_cons (lend_fn (lends_cons (lend_pt rfl lS) lends_nil)) lends_nil)) ?_)
 refine mG (.i (partI a s)) ?_
 refine rU (upd none_ 4 (.i (partI a s))) (updO noOb 51 (.live ⟨[.i s], 3, 1⟩)) ?_
 refine awp_ret ?_
 exact fret (av := .v (.int .i64 (partI a s))) rfl rfl rfl
abbrev Z3l (s : Int) (k : Nat) : Nat → AV := (upd (upd (upd (upd none_ 1 (.i s)) 2 (.pt 2 0)) 4 (.i 0)) 5 (.i (k : Int)))
abbrev Z3k (a : List (List Int)) : LObj := ⟨[.one, .one, .q eIL a, .one, .one, .one, .one, .one, .one, .one], 39, 1⟩
theorem r05_Part (a : List (List Int)) (s : Int) (hp : a.length ≤ 65536) (hpl : ∀ x, x ∈ a → x.length ≤ 65536) : Fn Try.prog 39 [.agg [.one, .one, .ro a.length (enc eIL a), .one, .one, .one, .one, .one, .one, .one], .v (.int .i64 s)] (.v (.int .i64 (partI a s))) := by
 refine fnE_of_body (N := 21) Try.func39 rfl rfl (resOf1 rfl) (by simp) (fun w0 X hL_ => ?_)
 refine seqR ?_
 refine oG (qW 51 ?_)
 refine mG (.i 0) ?_
 refine op0 ?_
 refine awp_seq ?_
 refine seqR ?_
 refine mG (.i 0) ?_
 refine op0 ?_
 refine awp_block ?_
 refine awp_countI (fun k => ⟨(Z3l s k), (updO noOb 2 (.live (Z3k a)))⟩) (fun k => (a.take k).any (fun l => decide (s ∈ l)) = false) (a.length) ?_ (by simp) (fun k hk_k hinv => ?_)
 ·skip
  exact iI 51 2 (o := (Z3k a)) rfl
 refine awp_seq ?_
 refine seqR ?_
 refine mG (.i (k : Int)) ?_
 refine fG (.pt 2 2) ft39_2 sz36 ?_
 refine oG (qL (.q eIL a) ag36 ?_)
 refine oG (qN ut36 ?_)
 refine bG ((.bool (decide ((k : Int) < (a.length : Int))))) ?_
 refine rU (upd (Z3l s k) 10 (.b (decide ((k : Int) < (a.length : Int))))) (updO noOb 2 (.live (Z3k a))) ?_
 refine awp_cond (decide ((k : Int) < (a.length : Int))) rfl rfl (fun hc0 => ?_) (fun hc0 => ?_)
 ·skip
  have hf1 := of_decide_eq_true hc0
  have hpk := hpl _ (getD_mem (l := a) (k := k) [] om)
  refine awp_skip ?_
  refine awp_seq ?_
  refine awp_block ?_
  refine seqR ?_
  refine fG (.pt 2 2) ft39_2 sz36 ?_
  refine oG (qL (.q eIL a) ag36 ?_)
  refine mG (.i (k : Int)) ?_
  refine oG (qX [] ut36 sz48 ?_)
  refine oG (qL (.q eI (a.getD k [])) ag48 ?_)
  refine mG (.i s) ?_
  refine oG (qJ (r01_Has (a.getD k []) s oo) bd52 ?_)
  refine rU (upd (Z3l s k) 19 (.b (decide (s ∈ (a.getD k []))))) (updO noOb 2 (.live (Z3k a))) ?_
  refine awp_cond (decide (s ∈ (a.getD k []))) rfl rfl (fun hc1 => ?_) (fun hc1 => ?_)
  ·skip
   refine seqR ?_
   refine mG (.i (k : Int)) ?_
   refine mG (.i (k : Int)) ?_
   refine op0 ?_
   refine awp_ret ?_
   exact fret (av := .v (.int .i64 (k : Int))) rfl rfl (by unfold partI; rw [idxB_stop [] om hinv hc1] <;> rfl)
  refine awp_skip ?_
  refine regR ?_
  refine mG (.i (k : Int)) ?_
  refine oG (qB (.int .i64 ((k + 1 : Nat) : Int)) (addN om) ?_)
  refine mG (.i ((k + 1 : Nat) : Int)) ?_
  refine op0 ?_
  show _ ∧ _
  refine ⟨by omega, (any_step [] om hinv hc1), ?_⟩
  exact iI 2 2 rfl
 have hf2 := of_decide_eq_false hc0
 refine awp_exit ?_
 refine seqR ?_
 refine mG (.i (-1)) ?_
 refine op0 ?_
 refine awp_ret ?_
 exact fret (av := .v (.int .i64 (-1))) rfl rfl (by unfold partI; rw [idxB_end om hinv] <;> rfl)
theorem o_Find1 (id x : Int)  : Fn Try.prog 54 [.agg [.v (.int .i64 x), .one, .one], .rp [.v (.int .i64 id)]] (.v (.bool (decide (x = id)))) := by
 refine fnE_of_body (N := 8) Try.func54 rfl rfl (resOf1 rfl) (by simp) (fun w0 X hL_ => ?_)
 refine seqR ?_
 refine oG (qW 51 ?_)
 refine mG (.b false) ?_
 refine op0 ?_
 refine seqR ?_
 refine fG (.pt 51 0) ft63_0 sz3 ?_
 refine oG (qL (.i x) ag3 ?_)
 refine oG (qL (.i id) ag3 ?_)
 refine bG ((.bool (x == id))) ?_
 refine mG (.b (x == id)) ?_
 refine rU (upd none_ 3 (.b (x == id))) (updO noOb 51 (.live ⟨[.i x, .one, .one], 63, 1⟩)) ?_
 refine awp_ret ?_
 exact fret (av := .v (.bool (x == id))) rfl rfl (by rw [eq_dec])
abbrev Z3m (a : List View) (id : Int) : Nat → AV := (upd (upd (upd none_ 0 (.q eV a)) 1 (.fn 54 [.rp [.i id]])) 4 (.i 0))
theorem ixVf (a : List View) (id : Int) (hn : a.length ≤ 4294967296)  : Fn Try.prog 53 [.ro a.length (enc eV a), .fn 54 [.rp [.v (.int .i64 id)]]] (.v (.int .i64 (findI a id))) := by
 refine fnE_of_body (N := 19) Try.func53 rfl rfl (resOf1 rfl) (by simp) (fun w0 X hL_ => ?_)
 refine seqR ?_
 refine mG (.i 0) ?_
 refine op0 ?_
 refine awp_seq ?_
 refine seqR ?_
 refine mG (.q eV a) ?_
 refine oG (qN ut43 ?_)
 refine mG (.i 0) ?_
 refine rU (upd (upd (Z3m a id) 7 (.i (a.length : Int))) 8 (.i 0)) noOb ?_
 refine awp_block ?_
 refine awp_countI (fun k => ⟨(upd (upd (Z3m a id) 7 (.i (a.length : Int))) 8 (.i (k : Int))), noOb⟩) (fun k => (a.take k).any (fun v : View => decide (v.id = id)) = false) (a.length) ?_ (by simp) (fun k hk_k hinv => ?_)
 ·skip
  exact iN
 refine seqR ?_
 refine bG ((.bool (decide ((k : Int) < (a.length : Int))))) ?_
 refine op0 ?_
 refine awp_seq ?_
 refine awp_cond (decide ((k : Int) < (a.length : Int))) rfl rfl (fun hc0 => ?_) (fun hc0 => ?_)
 ·skip
  have hf1 := of_decide_eq_true hc0
  refine awp_skip ?_
  refine awp_seq ?_
  refine awp_block ?_
  refine seqR ?_
  refine mG (.i (k : Int)) ?_
  refine mG (.i (k : Int)) ?_
  refine op0 ?_
  refine seqR ?_
  refine mG (.fn 54 [.rp [.i id]]) ?_
  refine mG (.q eV a) ?_
  refine mG (.i (k : Int)) ?_
  refine oG (qX dV ut43 sz63 ?_)
  refine oG (qLB [.i ((a.getD k dV).id), .b ((a.getD k dV).sure), .ro ((a.getD k dV).span.length) (enc eI ((a.getD k dV).span))] ag63 sz63 ?_)
  refine oG (qC (o_Find1 id ((a.getD k dV).id)) bd54 ?_)
  refine rU (upd (upd (upd (upd (Z3m a id) 5 (.i (k : Int))) 7 (.i (a.length : Int))) 8 (.i (k : Int))) 16 (.b (decide (((a.getD k dV).id) = id)))) noOb ?_
  refine awp_cond (decide (((a.getD k dV).id) = id)) rfl rfl (fun hc1 => ?_) (fun hc1 => ?_)
  ·skip
   refine seqR ?_
   refine mG (.i (k : Int)) ?_
   refine mG (.i (k : Int)) ?_
   refine op0 ?_
   refine awp_ret ?_
   exact fret (av := .v (.int .i64 (k : Int))) rfl rfl (by unfold findI; rw [idxB_stop (f := fun v : View => decide (v.id = id)) dV om hinv hc1] <;> rfl)
  refine awp_skip ?_
  refine regR ?_
  refine oG (qB (.int .i64 ((k + 1 : Nat) : Int)) (addN om) ?_)
  refine mG (.i ((k + 1 : Nat) : Int)) ?_
  refine op0 ?_
  show _ ∧ _
  refine ⟨by omega, (any_step dV om hinv hc1), ?_⟩
  exact iN
 have hf2 := of_decide_eq_false hc0
 refine awp_exit ?_
 refine seqR ?_
 refine mG (.i (-1)) ?_
 refine op0 ?_
 refine awp_ret ?_
 exact fret (av := .v (.int .i64 (-1))) rfl rfl (by unfold findI; rw [idxB_end (f := fun v : View => decide (v.id = id)) om hinv] <;> rfl)
abbrev Z3p (a : List View) (id : Int) : Nat → AV := (upd (upd (upd (upd none_ 0 (.q eV a)) 4 (.pt 52 0)) 5 (.b false)) 6 (.i (findI a id)))
abbrev Z3o (id : Int) : Nat → OSt := (updO (updO noOb 51 (.live ⟨[.i id], 3, 1⟩)) 52 (.live ⟨[.i 0, .b false, vN], 63, 1⟩))
abbrev Z3n (a : List View) (id : Int) : List AV := [.i ((a.getD (findI a id).toNat dV).id), .b ((a.getD (findI a id).toNat dV).sure), .ro ((a.getD (findI a id).toNat dV).span.length) (enc eI ((a.getD (findI a id).toNat dV).span))]
theorem o_Find (a : List View) (id : Int) (hn : a.length ≤ 4294967296) : Fn Try.prog 30 [.ro a.length (enc eV a), .v (.int .i64 id)] (.tup [.agg [.v (.int .i64 ((findV a id).id)), .v (.bool ((findV a id).sure)), .ro ((findV a id).span.length) (enc eI ((findV a id).span))], .v (.bool (!decide (findI a id < 0)))]) := by
 refine fnC_of_body (N := 17) Try.func30 rfl rfl (by simp) (fun w0 X hL_ => ?_)
 refine seqR ?_
 refine oG (qW 51 ?_)
 refine oG (aop_alloc 52 rfl rfl rfl rfl ze63 rfl ?_)
 refine mG (.b false) ?_
 refine op0 ?_
 refine seqR ?_
 refine mG (.q eV a) ?_
 refine oG (aop_makeFunc (caps := [.tmp 3]) rfl rfl rfl rfl ?_)
 refine oG (callL_ (ixVf a id oo) rfl rfl rfl rfl rfl bd53 (lends_cons (lend_n (av := .q eV a)) (lends_cons (lend_fn (lends_cons (lend_pt rfl lS) lends_nil)) lends_nil)) ?_)
 refine mG (.i (findI a id)) ?_
 refine rU (Z3p a id) (Z3o id) ?_
 refine awp_seq ?_
 refine seqR ?_
 refine mG (.i (findI a id)) ?_
 refine bG ((.bool (decide ((findI a id) < 0)))) ?_
 refine op0 ?_
 refine awp_cond (decide ((findI a id) < 0)) rfl rfl (fun hc0 => ?_) (fun hc0 => ?_)
 ·skip
  have hf1 := of_decide_eq_true hc0
  have hf : findI a id < 0 := of_decide_eq_true hc0
  refine seqR ?_
  refine oG (qD pl63 ?_)
  refine oG (qS sz63 ?_)
  refine mG (.b false) ?_
  refine rU (Z3p a id) (updO (Z3o id) 52 (.live ⟨[.i 0, .b false, vN], 63, 1⟩)) ?_
  refine awp_imp _ ((frz_ [52] [(52, ⟨[.i 0, .b false, .ro 0 []], 63, 1⟩)] rfl (fun _ h => h) ⟨keep_cells (cs := [.i 0, .b false, vN]) (by simp) rfl rfl (frzs_cons (.inl rfl) (frzs_cons (.inl rfl) (frzs_cons (.inr .nil) frzs_nil))), trivial⟩ (fz_same 5 (.b false) rfl (fz_same 4 (.pt 52 0) rfl fz_none)))) ?_
  refine awp_ret ?_
  exact fretC2 (p := 4) (q := 5) rfl rfl ag63 sz63 rfl rfl (Nat.le_of_ble_eq_true rfl) rfl rfl rfl (by rw [findV_no hf, decide_eq_true hf]; rfl)
 have hf2 := of_decide_eq_false hc0
 have hf : ¬ findI a id < 0 := of_decide_eq_false hc0
 have hfr := findI_range a id
 refine awp_skip ?_
 refine seqR ?_
 refine mG (.q eV a) ?_
 refine mG (.i (findI a id)) ?_
 refine oG (aop_ixI dV rfl rfl rfl ut43 sz63 rfl rfl (fun _ => rfl) rfl om oo ?_)
 refine oG (qLB (Z3n a id) ag63 sz63 ?_)
 refine oG (qS sz63 ?_)
 refine mG (.b true) ?_
 refine rU (upd (upd none_ 4 (.pt 52 0)) 5 (.b true)) (updO (Z3o id) 52 (.live ⟨(Z3n a id), 63, 1⟩)) ?_
 refine awp_imp _ ((frz_ [52] [(52, ⟨(Z3n a id), 63, 1⟩)] rfl (fun _ h => h) ⟨keep_cells (cs := (Z3n a id)) (by simp) rfl rfl fzA, trivial⟩ (fz_same 5 (.b true) rfl (fz_same 4 (.pt 52 0) rfl fz_none)))) ?_
 refine awp_ret ?_
 exact fretC2 (p := 4) (q := 5) rfl rfl ag63 sz63 rfl rfl (Nat.le_of_ble_eq_true rfl) rfl rfl rfl (by rw [findV_at hf, decide_eq_false hf]; rfl)
abbrev Z3s (a : List View) (id : Int) (k : Nat) : Nat → AV := (upd (upd (upd (upd (upd none_ 0 (.q eV a)) 1 (.i id)) 4 (.pt 2 0)) 5 (.b false)) 6 (.i (k : Int)))
abbrev Z3r : Nat → OSt := (updO noOb 2 (.live ⟨[.i 0, .b false, vN], 69, 1⟩))
abbrev Z3q (a : List View) (k : Nat) : List AV := [.i ((a.getD k dV).id), .b ((a.getD k dV).sure), .ro ((a.getD k dV).span.length) (enc eI ((a.getD k dV).span))]
theorem r12_Find (a : List View) (id : Int) (hn : a.length ≤ 4294967296) : Fn Try.prog 37 [.ro a.length (enc eV a), .v (.int .i64 id)] (.tup [.agg [.v (.int .i64 ((findV a id).id)), .v (.bool ((findV a id).sure)), .ro ((findV a id).span.length) (enc eI ((findV a id).span))], .v (.bool (!decide (findI a id < 0)))]) := by
 refine fnC_of_body (N := 25) Try.func37 rfl rfl (by simp) (fun w0 X hL_ => ?_)
 refine seqR ?_
 refine oG (aop_alloc 51 rfl rfl rfl rfl ze69 rfl ?_)
 refine mG (.b false) ?_
 refine op0 ?_
 refine awp_seq ?_
 refine seqR ?_
 refine mG (.i 0) ?_
 refine op0 ?_
 refine awp_block ?_
 refine awp_countI (fun k => ⟨(Z3s a id k), Z3r⟩) (fun k => (a.take k).any (fun v : View => decide (v.id = id)) = false) (a.length) ?_ (by simp) (fun k hk_k hinv => ?_)
 ·skip
  exact iI 51 2 (o := ⟨[.i 0, .b false, vN], 69, 1⟩) rfl
 refine awp_seq ?_
 refine seqR ?_
 refine mG (.i (k : Int)) ?_
 refine mG (.q eV a) ?_
 refine oG (qN ut44 ?_)
 refine bG ((.bool (decide ((k : Int) < (a.length : Int))))) ?_
 refine rU (upd (Z3s a id k) 10 (.b (decide ((k : Int) < (a.length : Int))))) Z3r ?_
 refine awp_cond (decide ((k : Int) < (a.length : Int))) rfl rfl (fun hc0 => ?_) (fun hc0 => ?_)
 ·skip
  have hf1 := of_decide_eq_true hc0
  refine awp_skip ?_
  refine awp_seq ?_
  refine awp_block ?_
  refine seqR ?_
  refine mG (.q eV a) ?_
  refine mG (.i (k : Int)) ?_
  refine oG (qX dV ut44 sz69 ?_)
  refine oG (qF (.rp (((Z3q a k) : List AV) ++ ((enc eV a).drop ((k + 1) * 3)))) (.rp (((Z3q a k) : List AV) ++ ((enc eV a).drop ((k + 1) * 3)))) ft69_0 sz3 ?_)
  refine oG (qL (.i ((a.getD k dV).id)) ag3 ?_)
  refine mG (.i id) ?_
  refine bG ((.bool (((a.getD k dV).id) == id))) ?_
  refine rU (upd (Z3s a id k) 19 (.b (((a.getD k dV).id) == id))) Z3r ?_
  refine awp_cond (((a.getD k dV).id) == id) rfl rfl (fun hc1 => ?_) (fun hc1 => ?_)
  ·skip
   have hf2 := (beq_iff_eq).1 hc1
   refine seqR ?_
   refine mG (.q eV a) ?_
   refine mG (.i (k : Int)) ?_
   refine oG (qX dV ut44 sz69 ?_)
   refine oG (qLB (Z3q a k) ag69 sz69 ?_)
   refine oG (qS sz69 ?_)
   refine mG (.b true) ?_
   refine rU (upd (upd (upd (upd (upd none_ 0 (.q eV a)) 1 (.i id)) 4 (.pt 2 0)) 5 (.b true)) 6 (.i (k : Int))) (updO Z3r 2 (.live ⟨(Z3q a k), 69, 1⟩)) ?_
   have hi : findI a id = (k : Int) := idxB_stop dV om hinv (by simpa using hc1)
   refine awp_imp _ ((frz_ [2] [(2, ⟨(Z3q a k), 69, 1⟩)] rfl (fun _ h => h) ⟨keep_cells (cs := (Z3q a k)) (by simp) rfl rfl fzA, trivial⟩ (fz_same 5 (.b true) rfl (fz_same 4 (.pt 2 0) rfl fz_none)))) ?_
   refine awp_ret ?_
   exact fretC2 (p := 4) (q := 5) rfl rfl ag69 sz69 rfl rfl (Nat.le_of_ble_eq_true rfl) rfl rfl rfl (by rw [findV_at om, decide_eq_false (show ¬ findI a id < 0 by omega), hi]; rfl)
  have hf3 := (beq_eq_false_iff_ne).1 hc1
  refine awp_skip ?_
  refine regR ?_
  refine mG (.i (k : Int)) ?_
  refine oG (qB (.int .i64 ((k + 1 : Nat) : Int)) (addN om) ?_)
  refine mG (.i ((k + 1 : Nat) : Int)) ?_
  refine op0 ?_
  show _ ∧ _
  refine ⟨by omega, (any_step dV om hinv (by simpa using hc1)), ?_⟩
  exact iI 2 2 rfl
 have hf4 := of_decide_eq_false hc0
 refine awp_exit ?_
 refine seqR ?_
 refine oG (qD pl69 ?_)
 refine oG (qS sz69 ?_)
 refine mG (.b false) ?_
 refine op0 ?_
 have hi : findI a id = -1 := idxB_end om hinv
 refine awp_imp _ ((frz_ [2] [(2, ⟨[.i 0, .b false, .ro 0 []], 69, 1⟩)] rfl (fun _ h => h) ⟨keep_cells (cs := [.i 0, .b false, vN]) (by simp) rfl rfl (frzs_cons (.inl rfl) (frzs_cons (.inl rfl) (frzs_cons (.inr .nil) frzs_nil))), trivial⟩ (fz_same 5 (.b false) rfl (fz_same 4 (.pt 2 0) rfl fz_none)))) ?_
 refine awp_ret ?_
 exact fretC2 (p := 4) (q := 5) rfl rfl ag69 sz69 rfl rfl (Nat.le_of_ble_eq_true rfl) rfl rfl rfl (by rw [findV_no om, decide_eq_true (show findI a id < 0 by omega)]; rfl)
theorem p_wrong (p : Int) (r : Bool) (a : List Bool) (hl : a.length ≤ 4294967296) : Fn Try.prog 76 [.agg [.v (.int .i64 p), .v (.bool r)], .ro a.length (enc eB a)] (.v (.bool (hasB a p != r))) := by
 refine fnE_of_body (N := 12) Try.func76 rfl rfl (resOf1 rfl) (by simp) (fun w0 X hL_ => ?_)
 refine seqR ?_
 refine oG (qW 51 ?_)
 refine mG (.b false) ?_
 refine op0 ?_
 refine awp_seq ?_
 refine aD 7 [(11, .b ((hasB a p) != r)), (10, .b r), (9, .pt 51 1), (8, .b (hasB a p)), (7, .i p), (6, .pt 51 0), (5, .q eB a)] mixed ?_ ?_
 ·refine ⟨?_, ?_, ?_, ?_, ?_, ?_, ?_, trivial⟩
  ·exact sMv
  ·exact sF (.pt 51 0) (.pt 51 0) ft140_0 sz3
  ·exact sL ag3
  ·exact dW 8 fun st hob hE => call_ (p_has a p oo) rfl rfl rfl rfl rfl bd84 (by show [st.env 5, st.env 7] ++ _ = _; rw [hE 5 rfl, hE 7 rfl]; rfl) (by rw [hob]; rfl)
  ·exact sF (.pt 51 0) (.pt 51 1) ft140_1 sz4
  ·exact sL ag4
  exact dW 11 fun st hob hE => aop_neB rfl rfl rfl (hE 8 rfl) (hE 10 rfl) ut4 (by rw [hob]; rfl)
 refine mG (.b ((hasB a p) != r)) ?_
 refine op0 ?_
 refine awp_ret ?_
 exact fret (av := .v (.bool ((hasB a p) != r))) rfl rfl rfl
theorem p_Stands1 (p : Int) (r : Bool) (a : List Bool) (hl : a.length ≤ 4294967296) : Fn Try.prog 75 [.agg [.v (.int .i64 p), .v (.bool r)], .rp [.ro a.length (enc eB a)]] (.v (.bool (hasB a p != r))) := by
 refine fnE_of_body (N := 7) Try.func75 rfl rfl (resOf1 rfl) (by simp) (fun w0 X hL_ => ?_)
 refine seqR ?_
 refine oG (qW 51 ?_)
 refine mG (.b false) ?_
 refine op0 ?_
 refine seqR ?_
 refine oG (qLB [.i p, .b r] ag140 sz140 ?_)
 refine oG (qL (.q eB a) ag28 ?_)
 refine oG (qJ (p_wrong p r a oo) bd76 ?_)
 refine mG (.b (hasB a p != r)) ?_
 refine rU (upd none_ 3 (.b (hasB a p != r))) (updO noOb 51 (.live ⟨[.i p, .b r], 140, 1⟩)) ?_
 refine awp_ret ?_
 exact fret (av := .v (.bool (hasB a p != r))) rfl rfl rfl
abbrev Z3t (l : List Need) (a : List Bool) : Nat → AV := (upd (upd (upd none_ 0 (.q eN l)) 1 (.fn 75 [.rp [.q eB a]])) 4 (.i 0))
theorem ixN_wr (l : List Need) (a : List Bool) (hl : l.length ≤ 4294967296) (hr : a.length ≤ 4294967296) : Fn Try.prog 83 [.ro l.length (enc eN l), .fn 75 [.rp [.ro a.length (enc eB a)]]] (.v (.int .i64 (idxB (wrB a) l))) := by
 refine fnE_of_body (N := 19) Try.func83 rfl rfl (resOf1 rfl) (by simp) (fun w0 X hL_ => ?_)
 refine seqR ?_
 refine mG (.i 0) ?_
 refine op0 ?_
 refine awp_seq ?_
 refine seqR ?_
 refine mG (.q eN l) ?_
 refine oG (qN ut131 ?_)
 refine mG (.i 0) ?_
 refine rU (upd (upd (Z3t l a) 7 (.i (l.length : Int))) 8 (.i 0)) noOb ?_
 refine awp_block ?_
 refine awp_countI (fun k => ⟨(upd (upd (Z3t l a) 7 (.i (l.length : Int))) 8 (.i (k : Int))), noOb⟩) (fun k => (l.take k).any (wrB a) = false) (l.length) ?_ (by simp) (fun k hk_k hinv => ?_)
 ·skip
  exact iN
 refine seqR ?_
 refine bG ((.bool (decide ((k : Int) < (l.length : Int))))) ?_
 refine op0 ?_
 refine awp_seq ?_
 refine awp_cond (decide ((k : Int) < (l.length : Int))) rfl rfl (fun hc0 => ?_) (fun hc0 => ?_)
 ·skip
  have hf1 := of_decide_eq_true hc0
  refine awp_skip ?_
  refine awp_seq ?_
  refine awp_block ?_
  refine seqR ?_
  refine mG (.i (k : Int)) ?_
  refine mG (.i (k : Int)) ?_
  refine op0 ?_
  refine seqR ?_
  refine mG (.fn 75 [.rp [.q eB a]]) ?_
  refine mG (.q eN l) ?_
  refine mG (.i (k : Int)) ?_
  refine oG (qX dN ut131 sz140 ?_)
  refine oG (qLB [.i ((l.getD k dN).point), .b ((l.getD k dN).right)] ag140 sz140 ?_)
  refine oG (qJ (p_Stands1 ((l.getD k dN).point) ((l.getD k dN).right) a oo) bd75 ?_)
  refine rU (upd (upd (upd (upd (Z3t l a) 5 (.i (k : Int))) 7 (.i (l.length : Int))) 8 (.i (k : Int))) 16 (.b (hasB a ((l.getD k dN).point) != ((l.getD k dN).right)))) noOb ?_
  refine awp_cond (hasB a ((l.getD k dN).point) != ((l.getD k dN).right)) rfl rfl (fun hc1 => ?_) (fun hc1 => ?_)
  ·skip
   refine seqR ?_
   refine mG (.i (k : Int)) ?_
   refine mG (.i (k : Int)) ?_
   refine op0 ?_
   refine awp_ret ?_
   exact fret (av := .v (.int .i64 (k : Int))) rfl rfl (by rw [idxB_stop (f := wrB a) dN om hinv hc1] <;> rfl)
  refine awp_skip ?_
  refine regR ?_
  refine oG (qB (.int .i64 ((k + 1 : Nat) : Int)) (addN om) ?_)
  refine mG (.i ((k + 1 : Nat) : Int)) ?_
  refine op0 ?_
  show _ ∧ _
  refine ⟨by omega, (any_step dN om hinv hc1), ?_⟩
  exact iN
 have hf2 := of_decide_eq_false hc0
 refine awp_exit ?_
 refine seqR ?_
 refine mG (.i (-1)) ?_
 refine op0 ?_
 refine awp_ret ?_
 exact fret (av := .v (.int .i64 (-1))) rfl rfl (by rw [idxB_end (f := wrB a) om hinv] <;> rfl)
theorem coN_wr (l : List Need) (a : List Bool) (hl : l.length ≤ 4294967296) (hr : a.length ≤ 4294967296) : Fn Try.prog 74 [.ro l.length (enc eN l), .fn 75 [.rp [.ro a.length (enc eB a)]]] (.v (.bool (l.any (wrB a)))) := by
 refine fnE_of_body (N := 9) Try.func74 rfl rfl (resOf1 rfl) (by simp) (fun w0 X hL_ => ?_)
 refine seqR ?_
 refine mG (.b false) ?_
 refine op0 ?_
 refine seqR ?_
 refine mG (.q eN l) ?_
 refine mG (.fn 75 [.rp [.q eB a]]) ?_
 refine oG (qJ (ixN_wr l a oo oo) bd83 ?_)
 refine bG ((.bool (decide ((idxB (wrB a) l) ≥ 0)))) ?_
 refine mG (.b (decide ((idxB (wrB a) l) ≥ 0))) ?_
 refine rU (upd none_ 4 (.b (decide ((idxB (wrB a) l) ≥ 0)))) noOb ?_
 refine awp_ret ?_
 exact fret (av := .v (.bool (decide ((idxB (wrB a) l) ≥ 0)))) rfl rfl (by rw [idxB_any dN] <;> rfl)
theorem p_Stands (a : List Need) (c : List Bool) (hl : a.length ≤ 4294967296) (hr : c.length ≤ 4294967296) : Fn Try.prog 69 [.ro a.length (enc eN a), .ro c.length (enc eB c)] (.v (.bool (!(a.any (wrB c))))) := by
 refine fnE_of_body (N := 9) Try.func69 rfl rfl (resOf1 rfl) (by simp) (fun w0 X hL_ => ?_)
 refine seqR ?_
 refine oG (qW 51 ?_)
 refine mG (.b false) ?_
 refine op0 ?_
 refine seqR ?_
 refine mG (.q eN a) ?_
 refine oG (aop_makeFunc (caps := [.tmp 3]) rfl rfl rfl rfl ?_)
 refine oG (callL_ (coN_wr a c oo oo) rfl rfl rfl rfl rfl bd74 (lends_cons (lend_n (av := .q eN a)) (lends_cons (lend_fn (lends_cons (lend_pt rfl lS) lends_nil)) lends_nil)) ?_)
 refine oG (aop_not rfl rfl rfl rfl ?_)
 refine mG (.b (!(a.any (wrB c)))) ?_
 refine rU (upd none_ 4 (.b (!(a.any (wrB c))))) (updO noOb 51 (.live ⟨[.q eB c], 28, 1⟩)) ?_
 refine awp_ret ?_
 exact fret (av := .v (.bool (!(a.any (wrB c))))) rfl rfl rfl
abbrev Z3y (a : List Need) (k : Nat) (c : List Bool) : Nat → OSt := (updO noOb 1 (.live ⟨(enc eN (movesL (a.take k) c)), 110, 2⟩))
abbrev Z3x (a : List Need) (c : List Bool) (k : Nat) : Nat → AV := (upd (upd (upd (upd (upd none_ 0 (.q eN a)) 1 (.q eB c)) 4 vN) 5 (.sl 1 0 ((movesL (a.take k) c).length))) 6 (.i (k : Int)))
abbrev Z3v (a : List Need) (k : Nat) : Need := (⟨(a.getD k dN).point, (a.getD k dN).right⟩ : Need)
abbrev Z3u (a : List Need) (k : Nat) : List AV := [.i ((a.getD k dN).point), .b ((a.getD k dN).right)]
abbrev Z3w (a : List Need) (k : Nat) : AV := (.rp (((Z3u a k) : List AV) ++ ((enc eN a).drop ((k + 1) * 2))))
theorem r14_Moves (a : List Need) (c : List Bool) (hl : a.length ≤ 4294967296) (hr : c.length ≤ 4294967296) : FnO Try.prog 40 [.ro a.length (enc eN a), .ro c.length (enc eB c)] (.sl 0 0 ((movesL a c).length)) [⟨(enc eN (movesL a c)), 110, 2⟩] := by
 refine fnE_of_body (N := 34) Try.func40 rfl rfl (resOf1 rfl) (by simp) (fun w0 X hL_ => ?_)
 refine seqR ?_
 refine mG vN ?_
 refine op0 ?_
 refine seqR ?_
 refine mG vN ?_
 refine op0 ?_
 refine awp_seq ?_
 refine seqR ?_
 refine mG (.i 0) ?_
 refine op0 ?_
 refine awp_block ?_
 refine awp_countI (fun k => ⟨(Z3x a c k), (Z3y a k c)⟩) (fun k => True) (a.length) ?_ trivial (fun k hk_k hinv => ?_)
 ·skip
  refine (imp_adopt 5 51 110 2 rfl rfl).trans ?_
  exact iI 51 1 (o := ⟨[], 110, 2⟩) rfl
 have hml := movesL_len (a.take k) c
 have htk : (a.take k).length ≤ a.length := by simp; omega
 refine awp_seq ?_
 refine seqR ?_
 refine mG (.i (k : Int)) ?_
 refine mG (.q eN a) ?_
 refine oG (qN ut91 ?_)
 refine bG ((.bool (decide ((k : Int) < (a.length : Int))))) ?_
 refine rU (upd (Z3x a c k) 10 (.b (decide ((k : Int) < (a.length : Int))))) (Z3y a k c) ?_
 refine awp_cond (decide ((k : Int) < (a.length : Int))) rfl rfl (fun hc0 => ?_) (fun hc0 => ?_)
 ·skip
  have hf1 := of_decide_eq_true hc0
  refine awp_skip ?_
  refine awp_seq ?_
  refine awp_block ?_
  refine awp_seq ?_
  refine aD 13 [(25, .b ((hasB c ((a.getD k dN).point)) != ((a.getD k dN).right))), (24, .b ((a.getD k dN).right)), (23, .rp (([.b ((a.getD k dN).right)] : List AV) ++ ((enc eN a).drop ((k + 1) * 2)))), (22, .rp (((Z3u a k) : List AV) ++ ((enc eN a).drop ((k + 1) * 2)))), (21, .i (k : Int)), (20, .q eN a), (19, .b (hasB c ((a.getD k dN).point))), (18, .i ((a.getD k dN).point)), (17, .rp (((Z3u a k) : List AV) ++ ((enc eN a).drop ((k + 1) * 2)))), (16, .rp (((Z3u a k) : List AV) ++ ((enc eN a).drop ((k + 1) * 2)))), (15, .i (k : Int)), (14, .q eN a), (13, .q eB c)] mixed ?_ ?_
  ·iterate 13 (refine ⟨?_, ?_⟩; rotate_left)
   trivial
   ·exact sMv
   ·exact sMv
   ·exact sMv
   ·exact (sIx dN ut91 sz110)
   ·exact sF (Z3w a k) (Z3w a k) ft110_0 sz3
   ·exact (sLd ag3)
   ·exact dW 19 fun st hob hE => call_ (r14_stands c ((a.getD k dN).point) oo) rfl rfl rfl rfl rfl bd59 (by show [st.env 13, st.env 18] ++ _ = _; rw [hE 13 rfl, hE 18 rfl]; rfl) (by rw [hob]; rfl)
   ·exact sMv
   ·exact sMv
   ·exact (sIx dN ut91 sz110)
   ·exact sF (Z3w a k) (.rp (([.b ((a.getD k dN).right)] : List AV) ++ ((enc eN a).drop ((k + 1) * 2)))) ft110_1 sz4
   ·exact (sLd ag4)
   exact dW 25 fun st hob hE => aop_neB rfl rfl rfl (hE 19 rfl) (hE 24 rfl) ut4 (by rw [hob]; rfl)
  refine op0 ?_
  refine awp_cond ((hasB c ((a.getD k dN).point)) != ((a.getD k dN).right)) rfl rfl (fun hc1 => ?_) (fun hc1 => ?_)
  ·skip
   refine regR ?_
   refine mG (.sl 1 0 ((movesL (a.take k) c).length)) ?_
   refine mG (.q eN a) ?_
   refine mG (.i (k : Int)) ?_
   refine oG (qX dN ut91 sz110 ?_)
   refine oG (qLB (Z3u a k) ag110 sz110 ?_)
   refine oG (aop_lit rfl rfl rfl ut91 iz110 (by decide) (by decide) rfl rfl ?_)
   refine oG (aop_app1 (f := eN) (l := movesL (a.take k) c) 52 (Z3v a k) rfl rfl rfl rfl ut91 in110 rfl (by decide) rfl rfl rfl rfl rfl rfl (fun _ => rfl) rfl rfl oo oo rfl ?_)
   refine mG (.sl 52 0 (((movesL (a.take k) c) ++ [(Z3v a k)]).length)) ?_
   refine op0 ?_
   refine rT (upd (upd (upd (upd (upd none_ 0 (.q eN a)) 1 (.q eB c)) 4 vN) 5 (.sl 52 0 (((movesL (a.take k) c) ++ [(Z3v a k)]).length))) 6 (.i (k : Int))) (updO (updO (Z3y a k c) 1 .dead) 52 (.live ⟨(enc eN ((movesL (a.take k) c) ++ [(Z3v a k)])), 110, 2⟩)) ?_
   refine regR ?_
   refine mG (.i (k : Int)) ?_
   refine oG (qB (.int .i64 ((k + 1 : Nat) : Int)) (addN om) ?_)
   refine mG (.i ((k + 1 : Nat) : Int)) ?_
   refine op0 ?_
   show _ ∧ _
   have hs := movesL_on (needs := a) (right := c) (k := k) om hc1
   refine ⟨by omega, trivial, ?_⟩
   exact iI 52 1 rfl (he := (sS rfl (sM (by exact congrArg (AV.sl 1 0) (congrArg List.length hs)) (sS rfl (sS rfl (sS rfl sr_none)))))) (hoo := (by exact congrArg (fun l_ => LObj.mk (enc eN l_) 110 2) hs.symm))
  refine awp_skip ?_
  refine regR ?_
  refine mG (.i (k : Int)) ?_
  refine oG (qB (.int .i64 ((k + 1 : Nat) : Int)) (addN om) ?_)
  refine mG (.i ((k + 1 : Nat) : Int)) ?_
  refine op0 ?_
  show _ ∧ _
  have hs := movesL_off (needs := a) (right := c) (k := k) om hc1
  refine ⟨by omega, trivial, ?_⟩
  exact iI 1 1 rfl (he := (sS rfl (sM (by exact congrArg (AV.sl 1 0) (congrArg List.length hs)) (sS rfl (sS rfl (sS rfl sr_none)))))) (hoo := (by exact congrArg (fun l_ => LObj.mk (enc eN l_) 110 2) hs.symm))
 have hf2 := of_decide_eq_false hc0
 refine awp_exit ?_
 refine seqR ?_
 refine mG (.sl 1 0 ((movesL (a.take k) c).length)) ?_
 refine mG (.sl 1 0 ((movesL (a.take k) c).length)) ?_
 refine op0 ?_
 refine awp_ret ?_
 have he : movesL (a.take k) c = movesL a c := by rw [List.take_of_length_le om]
 exact fretO 1 rfl rfl rfl (congrArg List.length he) (congrArg (fun l_ => LObj.mk (enc eN l_) 110 2) he)
theorem c_Meets1 (b : List Int) (s : Int) (hb : b.length ≤ 4294967296) : Fn Try.prog 66 [.v (.int .i64 s), .rp [.ro b.length (enc eI b)]] (.v (.bool (decide (s ∈ b)))) := by
 refine fnE_of_body (N := 7) Try.func66 rfl rfl (resOf1 rfl) (by simp) (fun w0 X hL_ => ?_)
 refine seqR ?_
 refine mG (.b false) ?_
 refine op0 ?_
 refine seqR ?_
 refine oG (qL (.q eI b) ag48 ?_)
 refine mG (.i s) ?_
 refine oG (qJ (coI b s oo) bd67 ?_)
 refine mG (.b (decide (s ∈ b))) ?_
 refine rU (upd none_ 3 (.b (decide (s ∈ b)))) noOb ?_
 refine awp_ret ?_
 exact fret (av := .v (.bool (decide (s ∈ b)))) rfl rfl rfl
abbrev Z3z (l b : List Int) : Nat → AV := (upd (upd (upd none_ 0 (.q eI l)) 1 (.fn 66 [.rp [.q eI b]])) 4 (.i 0))
theorem ixI_m (l : List Int) (b : List Int) (hl : l.length ≤ 4294967296) (hb : b.length ≤ 4294967296) : Fn Try.prog 71 [.ro l.length (enc eI l), .fn 66 [.rp [.ro b.length (enc eI b)]]] (.v (.int .i64 (idxB (fun s => decide (s ∈ b)) l))) := by
 refine fnE_of_body (N := 19) Try.func71 rfl rfl (resOf1 rfl) (by simp) (fun w0 X hL_ => ?_)
 refine seqR ?_
 refine mG (.i 0) ?_
 refine op0 ?_
 refine awp_seq ?_
 refine seqR ?_
 refine mG (.q eI l) ?_
 refine oG (qN ut48 ?_)
 refine mG (.i 0) ?_
 refine rU (upd (upd (Z3z l b) 7 (.i (l.length : Int))) 8 (.i 0)) noOb ?_
 refine awp_block ?_
 refine awp_countI (fun k => ⟨(upd (upd (Z3z l b) 7 (.i (l.length : Int))) 8 (.i (k : Int))), noOb⟩) (fun k => (l.take k).any (fun s => decide (s ∈ b)) = false) (l.length) ?_ (by simp) (fun k hk_k hinv => ?_)
 ·skip
  exact iN
 refine seqR ?_
 refine bG ((.bool (decide ((k : Int) < (l.length : Int))))) ?_
 refine op0 ?_
 refine awp_seq ?_
 refine awp_cond (decide ((k : Int) < (l.length : Int))) rfl rfl (fun hc0 => ?_) (fun hc0 => ?_)
 ·skip
  have hf1 := of_decide_eq_true hc0
  refine awp_skip ?_
  refine awp_seq ?_
  refine awp_block ?_
  refine seqR ?_
  refine mG (.i (k : Int)) ?_
  refine mG (.i (k : Int)) ?_
  refine op0 ?_
  refine seqR ?_
  refine mG (.fn 66 [.rp [.q eI b]]) ?_
  refine mG (.q eI l) ?_
  refine mG (.i (k : Int)) ?_
  refine oG (qX (0 : Int) ut48 sz3 ?_)
  refine oG (qL (.i (l.getD k 0)) ag3 ?_)
  refine oG (qJ (c_Meets1 b (l.getD k 0) oo) bd66 ?_)
  refine rU (upd (upd (upd (upd (Z3z l b) 5 (.i (k : Int))) 7 (.i (l.length : Int))) 8 (.i (k : Int))) 16 (.b (decide ((l.getD k 0) ∈ b)))) noOb ?_
  refine awp_cond (decide ((l.getD k 0) ∈ b)) rfl rfl (fun hc1 => ?_) (fun hc1 => ?_)
  ·skip
   refine seqR ?_
   refine mG (.i (k : Int)) ?_
   refine mG (.i (k : Int)) ?_
   refine op0 ?_
   refine awp_ret ?_
   exact fret (av := .v (.int .i64 (k : Int))) rfl rfl (by rw [idxB_stop (f := fun s => decide (s ∈ b)) 0 om hinv hc1] <;> rfl)
  refine awp_skip ?_
  refine regR ?_
  refine oG (qB (.int .i64 ((k + 1 : Nat) : Int)) (addN om) ?_)
  refine mG (.i ((k + 1 : Nat) : Int)) ?_
  refine op0 ?_
  show _ ∧ _
  refine ⟨by omega, (any_step 0 om hinv hc1), ?_⟩
  exact iN
 have hf2 := of_decide_eq_false hc0
 refine awp_exit ?_
 refine seqR ?_
 refine mG (.i (-1)) ?_
 refine op0 ?_
 refine awp_ret ?_
 exact fret (av := .v (.int .i64 (-1))) rfl rfl (by rw [idxB_end (f := fun s => decide (s ∈ b)) om hinv] <;> rfl)
theorem coI_m (l : List Int) (b : List Int) (hl : l.length ≤ 4294967296) (hb : b.length ≤ 4294967296) : Fn Try.prog 65 [.ro l.length (enc eI l), .fn 66 [.rp [.ro b.length (enc eI b)]]] (.v (.bool (l.any (fun s => decide (s ∈ b))))) := by
 refine fnE_of_body (N := 9) Try.func65 rfl rfl (resOf1 rfl) (by simp) (fun w0 X hL_ => ?_)
 refine seqR ?_
 refine mG (.b false) ?_
 refine op0 ?_
 refine seqR ?_
 refine mG (.q eI l) ?_
 refine mG (.fn 66 [.rp [.q eI b]]) ?_
 refine oG (qJ (ixI_m l b oo oo) bd71 ?_)
 refine bG ((.bool (decide ((idxB (fun s => decide (s ∈ b)) l) ≥ 0)))) ?_
 refine mG (.b (decide ((idxB (fun s => decide (s ∈ b)) l) ≥ 0))) ?_
 refine rU (upd none_ 4 (.b (decide ((idxB (fun s => decide (s ∈ b)) l) ≥ 0)))) noOb ?_
 refine awp_ret ?_
 exact fret (av := .v (.bool (decide ((idxB (fun s => decide (s ∈ b)) l) ≥ 0)))) rfl rfl (by rw [idxB_any 0] <;> rfl)
theorem c_Meets (a b : List Int) (ha : a.length ≤ 4294967296) (hb : b.length ≤ 4294967296) : Fn Try.prog 56 [.ro a.length (enc eI a), .ro b.length (enc eI b)] (.v (.bool (a.any (fun s => decide (s ∈ b))))) := by
 refine fnE_of_body (N := 8) Try.func56 rfl rfl (resOf1 rfl) (by simp) (fun w0 X hL_ => ?_)
 refine seqR ?_
 refine oG (qW 51 ?_)
 refine mG (.b false) ?_
 refine op0 ?_
 refine seqR ?_
 refine mG (.q eI a) ?_
 refine oG (aop_makeFunc (caps := [.tmp 3]) rfl rfl rfl rfl ?_)
 refine oG (callL_ (coI_m a b oo oo) rfl rfl rfl rfl rfl bd65 (lends_cons (lend_n (av := .q eI a)) (lends_cons (lend_fn (lends_cons (lend_pt rfl lS) lends_nil)) lends_nil)) ?_)
 refine mG (.b (a.any (fun s => decide (s ∈ b)))) ?_
 refine rU (upd none_ 4 (.b (a.any (fun s => decide (s ∈ b))))) (updO noOb 51 (.live ⟨[.q eI b], 48, 1⟩)) ?_
 refine awp_ret ?_
 exact fret (av := .v (.bool (a.any (fun s => decide (s ∈ b))))) rfl rfl rfl
theorem r11_Meets (a b : List Int) (ha : a.length ≤ 4294967296) (hb : b.length ≤ 4294967296) : Fn Try.prog 38 [.ro a.length (enc eI a), .ro b.length (enc eI b)] (.v (.bool (a.any (fun s => decide (s ∈ b))))) := by
 refine fnE_of_body (N := 18) Try.func38 rfl rfl (resOf1 rfl) (by simp) (fun w0 X hL_ => ?_)
 refine seqR ?_
 refine mG (.b false) ?_
 refine op0 ?_
 refine awp_seq ?_
 refine seqR ?_
 refine mG (.i 0) ?_
 refine op0 ?_
 refine awp_block ?_
 refine awp_countI (fun k => ⟨(upd (upd (upd (upd none_ 0 (.q eI a)) 1 (.q eI b)) 4 (.b false)) 5 (.i (k : Int))), noOb⟩) (fun k => (a.take k).any (fun s => decide (s ∈ b)) = false) (a.length) ?_ (by simp) (fun k hk_k hinv => ?_)
 ·skip
  exact iN
 refine awp_seq ?_
 refine seqR ?_
 refine mG (.i (k : Int)) ?_
 refine mG (.q eI a) ?_
 refine oG (qN ut48 ?_)
 refine bG ((.bool (decide ((k : Int) < (a.length : Int))))) ?_
 refine rU (upd (upd (upd (upd (upd none_ 0 (.q eI a)) 1 (.q eI b)) 4 (.b false)) 5 (.i (k : Int))) 9 (.b (decide ((k : Int) < (a.length : Int))))) noOb ?_
 refine awp_cond (decide ((k : Int) < (a.length : Int))) rfl rfl (fun hc0 => ?_) (fun hc0 => ?_)
 ·skip
  have hf1 := of_decide_eq_true hc0
  refine awp_skip ?_
  refine awp_seq ?_
  refine awp_block ?_
  refine seqR ?_
  refine mG (.q eI b) ?_
  refine mG (.q eI a) ?_
  refine mG (.i (k : Int)) ?_
  refine oG (qX (0 : Int) ut48 sz3 ?_)
  refine oG (qL (.i (a.getD k 0)) ag3 ?_)
  refine oG (qJ (r01_Has b (a.getD k 0) oo) bd52 ?_)
  refine rU (upd (upd (upd (upd (upd none_ 0 (.q eI a)) 1 (.q eI b)) 4 (.b false)) 5 (.i (k : Int))) 17 (.b (decide ((a.getD k 0) ∈ b)))) noOb ?_
  refine awp_cond (decide ((a.getD k 0) ∈ b)) rfl rfl (fun hc1 => ?_) (fun hc1 => ?_)
  ·skip
   refine seqR ?_
   refine mG (.b true) ?_
   refine op0 ?_
   refine awp_ret ?_
   exact fret (av := .v (.bool true)) rfl rfl (by rw [any_stop 0 om hc1] <;> rfl)
  refine awp_skip ?_
  refine regR ?_
  refine mG (.i (k : Int)) ?_
  refine oG (qB (.int .i64 ((k + 1 : Nat) : Int)) (addN om) ?_)
  refine mG (.i ((k + 1 : Nat) : Int)) ?_
  refine op0 ?_
  show _ ∧ _
  refine ⟨by omega, (any_step 0 om hinv hc1), ?_⟩
  exact iN
 have hf2 := of_decide_eq_false hc0
 refine awp_exit ?_
 refine seqR ?_
 refine mG (.b false) ?_
 refine op0 ?_
 refine awp_ret ?_
 exact fret (av := .v (.bool false)) rfl rfl (by rw [any_end om hinv] <;> rfl)
theorem bd42 : bodied Try.prog 42 = true := by kernel_rfl
theorem bd60 : bodied Try.prog 60 = true := by kernel_rfl
theorem bd73 : bodied Try.prog 73 = true := by kernel_rfl
theorem bd79 : bodied Try.prog 79 = true := by kernel_rfl
theorem bd81 : bodied Try.prog 81 = true := by kernel_rfl
theorem bd82 : bodied Try.prog 82 = true := by kernel_rfl
theorem in140 : (Try.prog.info? 140).map (fun i => (i.zero, i.size, i.bytes)) = some (some (.agg #[(.int .i64 0), (.bool false)]), 2, 16) := by kernel_rfl
theorem iz140 : (Try.prog.info? 140).map (fun i => (i.zero, i.size)) = some (some (.agg #[(.int .i64 0), (.bool false)]), 2) := by kernel_rfl
theorem pl110 : placesOf Try.prog 110 = some ((.agg #[(.int .i64 0), (.bool false)]), fun i => ([(0, 1), (1, 1)] : List (Nat × Nat)).toArray[i]?) := by kernel_rfl
theorem pl140 : placesOf Try.prog 140 = some ((.agg #[(.int .i64 0), (.bool false)]), fun i => ([(0, 1), (1, 1)] : List (Nat × Nat)).toArray[i]?) := by kernel_rfl
theorem ze3 : (Try.prog.info? 3).bind (·.zero) = some (.int .i64 0) := by kernel_rfl
abbrev Z41 (l : List Int) (k : Nat) : Nat → AV := (upd (upd (upd none_ 0 (.q eI l)) 2 vN) 3 (.sl 1 0 ((riseK l k).length)))
abbrev Z40 (l : List Int) (k : Nat) : Nat → OSt := (updO noOb 1 (.live ⟨(enc eI (riseK l k)), 3, 1⟩))
theorem r01_Rise (l : List Int) (hl : l.length ≤ 65536) : Fn Try.prog 42 [.ro l.length (enc eI l)] (.ro ((riseL l).length) (enc eI (riseL l))) := by
 refine fnE_of_body (N := 54) Try.func42 rfl rfl (resOf1 rfl) (by simp) (fun w0 X hL_ => ?_)
 refine seqR ?_
 refine mG vN ?_
 refine op0 ?_
 refine seqR ?_
 refine mG vN ?_
 refine op0 ?_
 refine awp_block ?_
 refine awp_countI (fun k => ⟨(Z41 l k), (Z40 l k)⟩) (fun k => (riseK l k).length = k ∧ k ≤ l.length) (l.length + 1) ?_ ⟨rfl, Nat.zero_le _⟩ (fun k hk_k hinv => ?_)
 ·skip
  refine (imp_adopt 3 51 3 1 rfl rfl).trans ?_
  exact iI 51 1 (o := ⟨[], 3, 1⟩) rfl
 have hk1 := hinv.1
 have hk2 := hinv.2
 refine awp_block ?_
 refine seqR ?_
 refine mG (.i (-1)) ?_
 refine op0 ?_
 refine awp_seq ?_
 refine seqR ?_
 refine mG (.i 0) ?_
 refine op0 ?_
 refine awp_block ?_
 refine awp_countI (fun i => ⟨(upd (upd (Z41 l k) 4 (.i (bestK l (riseK l k) i))) 5 (.i (i : Int))), (Z40 l k)⟩) (fun i => True) (l.length) ?_ trivial (fun i hk_i hinv => ?_)
 ·skip
  exact iI 1 1 rfl
 have hix : (((riseK l k).length : Int) - 1).toNat = (riseK l k).length - 1 := by omega
 have hbr := bestK_range l (riseK l k) i
 refine awp_seq ?_
 refine seqR ?_
 refine mG (.i (i : Int)) ?_
 refine mG (.q eI l) ?_
 refine oG (qN ut48 ?_)
 refine bG ((.bool (decide ((i : Int) < (l.length : Int))))) ?_
 refine rU (upd (upd (upd (Z41 l k) 4 (.i (bestK l (riseK l k) i))) 5 (.i (i : Int))) 9 (.b (decide ((i : Int) < (l.length : Int))))) (Z40 l k) ?_
 refine awp_cond (decide ((i : Int) < (l.length : Int))) rfl rfl (fun hc0 => ?_) (fun hc0 => ?_)
 ·skip
  have hf1 := of_decide_eq_true hc0
  refine awp_skip ?_
  refine awp_seq ?_
  refine awp_block ?_
  refine awp_seq ?_
  refine (Bool.eq_false_or_eq_true (((riseK l k).length : Int) == 0)).elim (fun hg2 => ?_) (fun hg2 => ?_)
  ·skip
   have hf3 := (beq_iff_eq).1 hg2
   refine (Bool.eq_false_or_eq_true (decide ((bestK l (riseK l k) i) < 0))).elim (fun hg4 => ?_) (fun hg4 => ?_)
   ·skip
    have hf5 := of_decide_eq_true hg4
    refine aD 31 [(42, .b true), (41, .b true), (40, .v undef), (39, .v undef), (38, .v undef), (37, .v undef), (36, .v undef), (35, .v undef), (34, .v undef), (33, .v undef), (32, .v undef), (31, .b (decide ((bestK l (riseK l k) i) < 0))), (30, .b (decide ((bestK l (riseK l k) i) < 0))), (29, .i (bestK l (riseK l k) i)), (28, .b true), (27, .b true), (26, .v undef), (25, .v undef), (24, .v undef), (23, .v undef), (22, .v undef), (21, .v undef), (20, .v undef), (19, .v undef), (18, .v undef), (17, .v undef), (16, .v undef), (15, .b (((riseK l k).length : Int) == 0)), (14, .b (((riseK l k).length : Int) == 0)), (13, .i ((riseK l k).length : Int)), (12, .sl 1 0 ((riseK l k).length))] mixed ?_ ?_
    ·iterate 31 (refine ⟨?_, ?_⟩; rotate_left)
     trivial
     ·exact sMv
     ·exact dW 13 fun st hob hE => aop_len rfl rfl rfl rfl ut48 (len_sl (hE 12 rfl)) (by rw [hob]; rfl)
     ·exact sB (.bool (((riseK l k).length : Int) == 0)) rfl
     ·exact sMv
     ·exact gn0 hg2
     ·exact gn0 hg2
     ·exact gn0 hg2
     ·exact gn0 hg2
     ·exact gn0 hg2
     ·exact gn0 hg2
     ·exact gn0 hg2
     ·exact gn0 hg2
     ·exact gn0 hg2
     ·exact gn0 hg2
     ·exact gn0 hg2
     ·exact sPk (((riseK l k).length : Int) == 0) (.b true) hg2
     ·exact sMv
     ·exact gy1 rfl sMv
     ·exact gy1 rfl (sB (.bool (decide ((bestK l (riseK l k) i) < 0))) rfl)
     ·exact gy1 rfl sMv
     ·exact gn0 hg4
     ·exact gn0 hg4
     ·exact gn0 hg4
     ·exact gn0 hg4
     ·exact gn0 hg4
     ·exact gn0 hg4
     ·exact gn0 hg4
     ·exact gn0 hg4
     ·exact gn0 hg4
     ·exact gy1 rfl (sPk (decide ((bestK l (riseK l k) i) < 0)) (.b true) hg4)
     exact dW 42 fun st hob hE => aop_pick (b := true) (av := .b true) rfl rfl rfl (hE 28 rfl) (hE 41 rfl) (by rw [hob]; rfl)
    refine op0 ?_
    refine awp_cond true rfl rfl (fun _ => ?_) (fun h => by cases h)
    refine regR ?_
    refine mG (.i (i : Int)) ?_
    refine mG (.i (i : Int)) ?_
    refine op0 ?_
    refine regR ?_
    refine mG (.i (i : Int)) ?_
    refine oG (qB (.int .i64 ((i + 1 : Nat) : Int)) (addN om) ?_)
    refine mG (.i ((i + 1 : Nat) : Int)) ?_
    refine op0 ?_
    show _ ∧ _
    refine ⟨by omega, trivial, ?_⟩
    exact iI 1 1 rfl (he := (sS rfl (sS (by exact congrArg (fun n_ : Int => AV.v (.int .i64 n_)) (by first | exact (bestK_on (by simp only [riseC, Bool.and_eq_true, Bool.or_eq_true, Bool.and_eq_false_iff, Bool.or_eq_false_iff, decide_eq_true_eq, decide_eq_false_iff_not]; rw [← hix]; omega)).symm | exact (bestK_off (by simp only [riseC, Bool.and_eq_true, Bool.or_eq_true, Bool.and_eq_false_iff, Bool.or_eq_false_iff, decide_eq_true_eq, decide_eq_false_iff_not]; rw [← hix]; omega)).symm)) (sM rfl (sS rfl (sS rfl sr_none))))))
   have hf6 := of_decide_eq_false hg4
   refine aD 31 [(42, .b (decide ((l.getD i 0) < (l.getD (bestK l (riseK l k) i).toNat 0)))), (41, .b (decide ((l.getD i 0) < (l.getD (bestK l (riseK l k) i).toNat 0)))), (40, .b (decide ((l.getD i 0) < (l.getD (bestK l (riseK l k) i).toNat 0)))), (39, .i (l.getD (bestK l (riseK l k) i).toNat 0)), (38, .rp (([.i (l.getD (bestK l (riseK l k) i).toNat 0)] : List AV) ++ ((enc eI l).drop (((bestK l (riseK l k) i).toNat + 1) * 1)))), (37, .i (bestK l (riseK l k) i)), (36, .q eI l), (35, .i (l.getD i 0)), (34, .rp (([.i (l.getD i 0)] : List AV) ++ ((enc eI l).drop ((i + 1) * 1)))), (33, .i (i : Int)), (32, .q eI l), (31, .b (decide ((bestK l (riseK l k) i) < 0))), (30, .b (decide ((bestK l (riseK l k) i) < 0))), (29, .i (bestK l (riseK l k) i)), (28, .b true), (27, .b true), (26, .v undef), (25, .v undef), (24, .v undef), (23, .v undef), (22, .v undef), (21, .v undef), (20, .v undef), (19, .v undef), (18, .v undef), (17, .v undef), (16, .v undef), (15, .b (((riseK l k).length : Int) == 0)), (14, .b (((riseK l k).length : Int) == 0)), (13, .i ((riseK l k).length : Int)), (12, .sl 1 0 ((riseK l k).length))] mixed ?_ ?_
   ·iterate 31 (refine ⟨?_, ?_⟩; rotate_left)
    trivial
    ·exact sMv
    ·exact dW 13 fun st hob hE => aop_len rfl rfl rfl rfl ut48 (len_sl (hE 12 rfl)) (by rw [hob]; rfl)
    ·exact sB (.bool (((riseK l k).length : Int) == 0)) rfl
    ·exact sMv
    ·exact gn0 hg2
    ·exact gn0 hg2
    ·exact gn0 hg2
    ·exact gn0 hg2
    ·exact gn0 hg2
    ·exact gn0 hg2
    ·exact gn0 hg2
    ·exact gn0 hg2
    ·exact gn0 hg2
    ·exact gn0 hg2
    ·exact gn0 hg2
    ·exact sPk (((riseK l k).length : Int) == 0) (.b true) hg2
    ·exact sMv
    ·exact gy1 rfl sMv
    ·exact gy1 rfl (sB (.bool (decide ((bestK l (riseK l k) i) < 0))) rfl)
    ·exact gy1 rfl sMv
    ·exact gy0 hg4 sMv
    ·exact gy0 hg4 sMv
    ·exact gy0 hg4 (sIx (0 : Int) ut48 sz3)
    ·exact gy0 hg4 (sLd ag3)
    ·exact gy0 hg4 sMv
    ·exact gy0 hg4 sMv
    ·exact gy0 hg4 (dW 38 fun st hob hE => aop_ixI 0 rfl rfl rfl ut48 sz3 (hE 36 rfl) (hE 37 rfl) (fun _ => rfl) rfl om oo (by rw [hob]; rfl))
    ·exact gy0 hg4 (sLd ag3)
    ·exact gy0 hg4 (sB (.bool (decide ((l.getD i 0) < (l.getD (bestK l (riseK l k) i).toNat 0)))) rfl)
    ·exact gy1 rfl (dW 41 fun st hob hE => aop_pick (b := (decide ((bestK l (riseK l k) i) < 0))) (av := .b (decide ((l.getD i 0) < (l.getD (bestK l (riseK l k) i).toNat 0)))) rfl rfl rfl (hE 31 rfl) (by rw [hg4]; exact hE 40 rfl) (by rw [hob]; rfl))
    exact dW 42 fun st hob hE => aop_pick (b := true) (av := .b (decide ((l.getD i 0) < (l.getD (bestK l (riseK l k) i).toNat 0)))) rfl rfl rfl (hE 28 rfl) (hE 41 rfl) (by rw [hob]; rfl)
   refine op0 ?_
   refine awp_cond (decide ((l.getD i 0) < (l.getD (bestK l (riseK l k) i).toNat 0))) rfl rfl (fun hc1 => ?_) (fun hc1 => ?_)
   ·skip
    have hf7 := of_decide_eq_true hc1
    refine regR ?_
    refine mG (.i (i : Int)) ?_
    refine mG (.i (i : Int)) ?_
    refine op0 ?_
    refine regR ?_
    refine mG (.i (i : Int)) ?_
    refine oG (qB (.int .i64 ((i + 1 : Nat) : Int)) (addN om) ?_)
    refine mG (.i ((i + 1 : Nat) : Int)) ?_
    refine op0 ?_
    show _ ∧ _
    refine ⟨by omega, trivial, ?_⟩
    exact iI 1 1 rfl (he := (sS rfl (sS (by exact congrArg (fun n_ : Int => AV.v (.int .i64 n_)) (by first | exact (bestK_on (by simp only [riseC, Bool.and_eq_true, Bool.or_eq_true, Bool.and_eq_false_iff, Bool.or_eq_false_iff, decide_eq_true_eq, decide_eq_false_iff_not]; rw [← hix]; omega)).symm | exact (bestK_off (by simp only [riseC, Bool.and_eq_true, Bool.or_eq_true, Bool.and_eq_false_iff, Bool.or_eq_false_iff, decide_eq_true_eq, decide_eq_false_iff_not]; rw [← hix]; omega)).symm)) (sM rfl (sS rfl (sS rfl sr_none))))))
   have hf8 := of_decide_eq_false hc1
   refine awp_skip ?_
   refine regR ?_
   refine mG (.i (i : Int)) ?_
   refine oG (qB (.int .i64 ((i + 1 : Nat) : Int)) (addN om) ?_)
   refine mG (.i ((i + 1 : Nat) : Int)) ?_
   refine op0 ?_
   show _ ∧ _
   refine ⟨by omega, trivial, ?_⟩
   exact iI 1 1 rfl (he := (sS rfl (sS (by exact congrArg (fun n_ : Int => AV.v (.int .i64 n_)) (by first | exact (bestK_on (by simp only [riseC, Bool.and_eq_true, Bool.or_eq_true, Bool.and_eq_false_iff, Bool.or_eq_false_iff, decide_eq_true_eq, decide_eq_false_iff_not]; rw [← hix]; omega)).symm | exact (bestK_off (by simp only [riseC, Bool.and_eq_true, Bool.or_eq_true, Bool.and_eq_false_iff, Bool.or_eq_false_iff, decide_eq_true_eq, decide_eq_false_iff_not]; rw [← hix]; omega)).symm)) (sM rfl (sS rfl (sS rfl sr_none))))))
  have hf9 := (beq_eq_false_iff_ne).1 hg2
  refine (Bool.eq_false_or_eq_true (decide ((l.getD i 0) > ((riseK l k).getD ((((riseK l k).length : Int) - 1).toNat) 0)))).elim (fun hg10 => ?_) (fun hg10 => ?_)
  ·skip
   have hf11 := of_decide_eq_true hg10
   refine (Bool.eq_false_or_eq_true (decide ((bestK l (riseK l k) i) < 0))).elim (fun hg12 => ?_) (fun hg12 => ?_)
   ·skip
    have hf13 := of_decide_eq_true hg12
    refine aD 31 [(42, .b true), (41, .b true), (40, .v undef), (39, .v undef), (38, .v undef), (37, .v undef), (36, .v undef), (35, .v undef), (34, .v undef), (33, .v undef), (32, .v undef), (31, .b (decide ((bestK l (riseK l k) i) < 0))), (30, .b (decide ((bestK l (riseK l k) i) < 0))), (29, .i (bestK l (riseK l k) i)), (28, .b (decide ((l.getD i 0) > ((riseK l k).getD ((((riseK l k).length : Int) - 1).toNat) 0)))), (27, .b (decide ((l.getD i 0) > ((riseK l k).getD ((((riseK l k).length : Int) - 1).toNat) 0)))), (26, .b (decide ((l.getD i 0) > ((riseK l k).getD ((((riseK l k).length : Int) - 1).toNat) 0)))), (25, .i ((riseK l k).getD ((((riseK l k).length : Int) - 1).toNat) 0)), (24, .pt 1 ((((riseK l k).length : Int) - 1).toNat * 1)), (23, .i (((riseK l k).length : Int) - 1)), (22, .i ((riseK l k).length : Int)), (21, .sl 1 0 ((riseK l k).length)), (20, .sl 1 0 ((riseK l k).length)), (19, .i (l.getD i 0)), (18, .rp (([.i (l.getD i 0)] : List AV) ++ ((enc eI l).drop ((i + 1) * 1)))), (17, .i (i : Int)), (16, .q eI l), (15, .b (((riseK l k).length : Int) == 0)), (14, .b (((riseK l k).length : Int) == 0)), (13, .i ((riseK l k).length : Int)), (12, .sl 1 0 ((riseK l k).length))] mixed ?_ ?_
    ·iterate 31 (refine ⟨?_, ?_⟩; rotate_left)
     trivial
     ·exact sMv
     ·exact dW 13 fun st hob hE => aop_len rfl rfl rfl rfl ut48 (len_sl (hE 12 rfl)) (by rw [hob]; rfl)
     ·exact sB (.bool (((riseK l k).length : Int) == 0)) rfl
     ·exact sMv
     ·exact gy0 hg2 sMv
     ·exact gy0 hg2 sMv
     ·exact gy0 hg2 (sIx (0 : Int) ut48 sz3)
     ·exact gy0 hg2 (sLd ag3)
     ·exact gy0 hg2 sMv
     ·exact gy0 hg2 sMv
     ·exact gy0 hg2 (dW 22 fun st hob hE => aop_len rfl rfl rfl rfl ut48 (len_sl (hE 21 rfl)) (by rw [hob]; rfl))
     ·exact gy0 hg2 (sB (.int .i64 (((riseK l k).length : Int) - 1)) (subI om))
     ·exact gy0 hg2 (dW 24 fun st hob hE => aop_ixOI rfl rfl rfl ut48 sz3 (hE 20 rfl) (hE 23 rfl) om oo (by rw [hob]; rfl))
     ·exact gy0 hg2 (dW 25 fun st hob hE => aop_ldO (f := eI) (l := riseK l k) 0 rfl rfl rfl ag3 (hE 24 rfl) (by rw [hob]; rfl) rfl (fun _ => rfl) oo rfl (by rw [hob]; rfl))
     ·exact gy0 hg2 (sB (.bool (decide ((l.getD i 0) > ((riseK l k).getD ((((riseK l k).length : Int) - 1).toNat) 0)))) rfl)
     ·exact dW 27 fun st hob hE => aop_pick (b := (((riseK l k).length : Int) == 0)) (av := .b (decide ((l.getD i 0) > ((riseK l k).getD ((((riseK l k).length : Int) - 1).toNat) 0)))) rfl rfl rfl (hE 15 rfl) (by rw [hg2]; exact hE 26 rfl) (by rw [hob]; rfl)
     ·exact sMv
     ·exact gy1 hg10 sMv
     ·exact gy1 hg10 (sB (.bool (decide ((bestK l (riseK l k) i) < 0))) rfl)
     ·exact gy1 hg10 sMv
     ·exact gn0 hg12
     ·exact gn0 hg12
     ·exact gn0 hg12
     ·exact gn0 hg12
     ·exact gn0 hg12
     ·exact gn0 hg12
     ·exact gn0 hg12
     ·exact gn0 hg12
     ·exact gn0 hg12
     ·exact gy1 hg10 (sPk (decide ((bestK l (riseK l k) i) < 0)) (.b true) hg12)
     exact dW 42 fun st hob hE => aop_pick (b := (decide ((l.getD i 0) > ((riseK l k).getD ((((riseK l k).length : Int) - 1).toNat) 0)))) (av := .b true) rfl rfl rfl (hE 28 rfl) (by rw [hg10]; exact hE 41 rfl) (by rw [hob]; rfl)
    refine op0 ?_
    refine awp_cond true rfl rfl (fun _ => ?_) (fun h => by cases h)
    refine regR ?_
    refine mG (.i (i : Int)) ?_
    refine mG (.i (i : Int)) ?_
    refine op0 ?_
    refine regR ?_
    refine mG (.i (i : Int)) ?_
    refine oG (qB (.int .i64 ((i + 1 : Nat) : Int)) (addN om) ?_)
    refine mG (.i ((i + 1 : Nat) : Int)) ?_
    refine op0 ?_
    show _ ∧ _
    refine ⟨by omega, trivial, ?_⟩
    exact iI 1 1 rfl (he := (sS rfl (sS (by exact congrArg (fun n_ : Int => AV.v (.int .i64 n_)) (by first | exact (bestK_on (by simp only [riseC, Bool.and_eq_true, Bool.or_eq_true, Bool.and_eq_false_iff, Bool.or_eq_false_iff, decide_eq_true_eq, decide_eq_false_iff_not]; rw [← hix]; omega)).symm | exact (bestK_off (by simp only [riseC, Bool.and_eq_true, Bool.or_eq_true, Bool.and_eq_false_iff, Bool.or_eq_false_iff, decide_eq_true_eq, decide_eq_false_iff_not]; rw [← hix]; omega)).symm)) (sM rfl (sS rfl (sS rfl sr_none))))))
   have hf14 := of_decide_eq_false hg12
   refine aD 31 [(42, .b (decide ((l.getD i 0) < (l.getD (bestK l (riseK l k) i).toNat 0)))), (41, .b (decide ((l.getD i 0) < (l.getD (bestK l (riseK l k) i).toNat 0)))), (40, .b (decide ((l.getD i 0) < (l.getD (bestK l (riseK l k) i).toNat 0)))), (39, .i (l.getD (bestK l (riseK l k) i).toNat 0)), (38, .rp (([.i (l.getD (bestK l (riseK l k) i).toNat 0)] : List AV) ++ ((enc eI l).drop (((bestK l (riseK l k) i).toNat + 1) * 1)))), (37, .i (bestK l (riseK l k) i)), (36, .q eI l), (35, .i (l.getD i 0)), (34, .rp (([.i (l.getD i 0)] : List AV) ++ ((enc eI l).drop ((i + 1) * 1)))), (33, .i (i : Int)), (32, .q eI l), (31, .b (decide ((bestK l (riseK l k) i) < 0))), (30, .b (decide ((bestK l (riseK l k) i) < 0))), (29, .i (bestK l (riseK l k) i)), (28, .b (decide ((l.getD i 0) > ((riseK l k).getD ((((riseK l k).length : Int) - 1).toNat) 0)))), (27, .b (decide ((l.getD i 0) > ((riseK l k).getD ((((riseK l k).length : Int) - 1).toNat) 0)))), (26, .b (decide ((l.getD i 0) > ((riseK l k).getD ((((riseK l k).length : Int) - 1).toNat) 0)))), (25, .i ((riseK l k).getD ((((riseK l k).length : Int) - 1).toNat) 0)), (24, .pt 1 ((((riseK l k).length : Int) - 1).toNat * 1)), (23, .i (((riseK l k).length : Int) - 1)), (22, .i ((riseK l k).length : Int)), (21, .sl 1 0 ((riseK l k).length)), (20, .sl 1 0 ((riseK l k).length)), (19, .i (l.getD i 0)), (18, .rp (([.i (l.getD i 0)] : List AV) ++ ((enc eI l).drop ((i + 1) * 1)))), (17, .i (i : Int)), (16, .q eI l), (15, .b (((riseK l k).length : Int) == 0)), (14, .b (((riseK l k).length : Int) == 0)), (13, .i ((riseK l k).length : Int)), (12, .sl 1 0 ((riseK l k).length))] mixed ?_ ?_
   ·iterate 31 (refine ⟨?_, ?_⟩; rotate_left)
    trivial
    ·exact sMv
    ·exact dW 13 fun st hob hE => aop_len rfl rfl rfl rfl ut48 (len_sl (hE 12 rfl)) (by rw [hob]; rfl)
    ·exact sB (.bool (((riseK l k).length : Int) == 0)) rfl
    ·exact sMv
    ·exact gy0 hg2 sMv
    ·exact gy0 hg2 sMv
    ·exact gy0 hg2 (sIx (0 : Int) ut48 sz3)
    ·exact gy0 hg2 (sLd ag3)
    ·exact gy0 hg2 sMv
    ·exact gy0 hg2 sMv
    ·exact gy0 hg2 (dW 22 fun st hob hE => aop_len rfl rfl rfl rfl ut48 (len_sl (hE 21 rfl)) (by rw [hob]; rfl))
    ·exact gy0 hg2 (sB (.int .i64 (((riseK l k).length : Int) - 1)) (subI om))
    ·exact gy0 hg2 (dW 24 fun st hob hE => aop_ixOI rfl rfl rfl ut48 sz3 (hE 20 rfl) (hE 23 rfl) om oo (by rw [hob]; rfl))
    ·exact gy0 hg2 (dW 25 fun st hob hE => aop_ldO (f := eI) (l := riseK l k) 0 rfl rfl rfl ag3 (hE 24 rfl) (by rw [hob]; rfl) rfl (fun _ => rfl) oo rfl (by rw [hob]; rfl))
    ·exact gy0 hg2 (sB (.bool (decide ((l.getD i 0) > ((riseK l k).getD ((((riseK l k).length : Int) - 1).toNat) 0)))) rfl)
    ·exact dW 27 fun st hob hE => aop_pick (b := (((riseK l k).length : Int) == 0)) (av := .b (decide ((l.getD i 0) > ((riseK l k).getD ((((riseK l k).length : Int) - 1).toNat) 0)))) rfl rfl rfl (hE 15 rfl) (by rw [hg2]; exact hE 26 rfl) (by rw [hob]; rfl)
    ·exact sMv
    ·exact gy1 hg10 sMv
    ·exact gy1 hg10 (sB (.bool (decide ((bestK l (riseK l k) i) < 0))) rfl)
    ·exact gy1 hg10 sMv
    ·exact gy0 hg12 sMv
    ·exact gy0 hg12 sMv
    ·exact gy0 hg12 (sIx (0 : Int) ut48 sz3)
    ·exact gy0 hg12 (sLd ag3)
    ·exact gy0 hg12 sMv
    ·exact gy0 hg12 sMv
    ·exact gy0 hg12 (dW 38 fun st hob hE => aop_ixI 0 rfl rfl rfl ut48 sz3 (hE 36 rfl) (hE 37 rfl) (fun _ => rfl) rfl om oo (by rw [hob]; rfl))
    ·exact gy0 hg12 (sLd ag3)
    ·exact gy0 hg12 (sB (.bool (decide ((l.getD i 0) < (l.getD (bestK l (riseK l k) i).toNat 0)))) rfl)
    ·exact gy1 hg10 (dW 41 fun st hob hE => aop_pick (b := (decide ((bestK l (riseK l k) i) < 0))) (av := .b (decide ((l.getD i 0) < (l.getD (bestK l (riseK l k) i).toNat 0)))) rfl rfl rfl (hE 31 rfl) (by rw [hg12]; exact hE 40 rfl) (by rw [hob]; rfl))
    exact dW 42 fun st hob hE => aop_pick (b := (decide ((l.getD i 0) > ((riseK l k).getD ((((riseK l k).length : Int) - 1).toNat) 0)))) (av := .b (decide ((l.getD i 0) < (l.getD (bestK l (riseK l k) i).toNat 0)))) rfl rfl rfl (hE 28 rfl) (by rw [hg10]; exact hE 41 rfl) (by rw [hob]; rfl)
   refine op0 ?_
   refine awp_cond (decide ((l.getD i 0) < (l.getD (bestK l (riseK l k) i).toNat 0))) rfl rfl (fun hc1 => ?_) (fun hc1 => ?_)
   ·skip
    have hf15 := of_decide_eq_true hc1
    refine regR ?_
    refine mG (.i (i : Int)) ?_
    refine mG (.i (i : Int)) ?_
    refine op0 ?_
    refine regR ?_
    refine mG (.i (i : Int)) ?_
    refine oG (qB (.int .i64 ((i + 1 : Nat) : Int)) (addN om) ?_)
    refine mG (.i ((i + 1 : Nat) : Int)) ?_
    refine op0 ?_
    show _ ∧ _
    refine ⟨by omega, trivial, ?_⟩
    exact iI 1 1 rfl (he := (sS rfl (sS (by exact congrArg (fun n_ : Int => AV.v (.int .i64 n_)) (by first | exact (bestK_on (by simp only [riseC, Bool.and_eq_true, Bool.or_eq_true, Bool.and_eq_false_iff, Bool.or_eq_false_iff, decide_eq_true_eq, decide_eq_false_iff_not]; rw [← hix]; omega)).symm | exact (bestK_off (by simp only [riseC, Bool.and_eq_true, Bool.or_eq_true, Bool.and_eq_false_iff, Bool.or_eq_false_iff, decide_eq_true_eq, decide_eq_false_iff_not]; rw [← hix]; omega)).symm)) (sM rfl (sS rfl (sS rfl sr_none))))))
   have hf16 := of_decide_eq_false hc1
   refine awp_skip ?_
   refine regR ?_
   refine mG (.i (i : Int)) ?_
   refine oG (qB (.int .i64 ((i + 1 : Nat) : Int)) (addN om) ?_)
   refine mG (.i ((i + 1 : Nat) : Int)) ?_
   refine op0 ?_
   show _ ∧ _
   refine ⟨by omega, trivial, ?_⟩
   exact iI 1 1 rfl (he := (sS rfl (sS (by exact congrArg (fun n_ : Int => AV.v (.int .i64 n_)) (by first | exact (bestK_on (by simp only [riseC, Bool.and_eq_true, Bool.or_eq_true, Bool.and_eq_false_iff, Bool.or_eq_false_iff, decide_eq_true_eq, decide_eq_false_iff_not]; rw [← hix]; omega)).symm | exact (bestK_off (by simp only [riseC, Bool.and_eq_true, Bool.or_eq_true, Bool.and_eq_false_iff, Bool.or_eq_false_iff, decide_eq_true_eq, decide_eq_false_iff_not]; rw [← hix]; omega)).symm)) (sM rfl (sS rfl (sS rfl sr_none))))))
  have hf17 := of_decide_eq_false hg10
  refine aD 31 [(42, .b false), (41, .v undef), (40, .v undef), (39, .v undef), (38, .v undef), (37, .v undef), (36, .v undef), (35, .v undef), (34, .v undef), (33, .v undef), (32, .v undef), (31, .v undef), (30, .v undef), (29, .v undef), (28, .b (decide ((l.getD i 0) > ((riseK l k).getD ((((riseK l k).length : Int) - 1).toNat) 0)))), (27, .b (decide ((l.getD i 0) > ((riseK l k).getD ((((riseK l k).length : Int) - 1).toNat) 0)))), (26, .b (decide ((l.getD i 0) > ((riseK l k).getD ((((riseK l k).length : Int) - 1).toNat) 0)))), (25, .i ((riseK l k).getD ((((riseK l k).length : Int) - 1).toNat) 0)), (24, .pt 1 ((((riseK l k).length : Int) - 1).toNat * 1)), (23, .i (((riseK l k).length : Int) - 1)), (22, .i ((riseK l k).length : Int)), (21, .sl 1 0 ((riseK l k).length)), (20, .sl 1 0 ((riseK l k).length)), (19, .i (l.getD i 0)), (18, .rp (([.i (l.getD i 0)] : List AV) ++ ((enc eI l).drop ((i + 1) * 1)))), (17, .i (i : Int)), (16, .q eI l), (15, .b (((riseK l k).length : Int) == 0)), (14, .b (((riseK l k).length : Int) == 0)), (13, .i ((riseK l k).length : Int)), (12, .sl 1 0 ((riseK l k).length))] mixed ?_ ?_
  ·iterate 31 (refine ⟨?_, ?_⟩; rotate_left)
   trivial
   ·exact sMv
   ·exact dW 13 fun st hob hE => aop_len rfl rfl rfl rfl ut48 (len_sl (hE 12 rfl)) (by rw [hob]; rfl)
   ·exact sB (.bool (((riseK l k).length : Int) == 0)) rfl
   ·exact sMv
   ·exact gy0 hg2 sMv
   ·exact gy0 hg2 sMv
   ·exact gy0 hg2 (sIx (0 : Int) ut48 sz3)
   ·exact gy0 hg2 (sLd ag3)
   ·exact gy0 hg2 sMv
   ·exact gy0 hg2 sMv
   ·exact gy0 hg2 (dW 22 fun st hob hE => aop_len rfl rfl rfl rfl ut48 (len_sl (hE 21 rfl)) (by rw [hob]; rfl))
   ·exact gy0 hg2 (sB (.int .i64 (((riseK l k).length : Int) - 1)) (subI om))
   ·exact gy0 hg2 (dW 24 fun st hob hE => aop_ixOI rfl rfl rfl ut48 sz3 (hE 20 rfl) (hE 23 rfl) om oo (by rw [hob]; rfl))
   ·exact gy0 hg2 (dW 25 fun st hob hE => aop_ldO (f := eI) (l := riseK l k) 0 rfl rfl rfl ag3 (hE 24 rfl) (by rw [hob]; rfl) rfl (fun _ => rfl) oo rfl (by rw [hob]; rfl))
   ·exact gy0 hg2 (sB (.bool (decide ((l.getD i 0) > ((riseK l k).getD ((((riseK l k).length : Int) - 1).toNat) 0)))) rfl)
   ·exact dW 27 fun st hob hE => aop_pick (b := (((riseK l k).length : Int) == 0)) (av := .b (decide ((l.getD i 0) > ((riseK l k).getD ((((riseK l k).length : Int) - 1).toNat) 0)))) rfl rfl rfl (hE 15 rfl) (by rw [hg2]; exact hE 26 rfl) (by rw [hob]; rfl)
   ·exact sMv
   ·exact gn1 hg10
   ·exact gn1 hg10
   ·exact gn1 hg10
   ·exact ⟨31, undef, rfl, blt_lt rfl, rfl, (fun h => by cases h), (fun _ => ⟨32, rfl, blt_lt rfl, .inr rfl⟩)⟩
   ·exact ⟨31, undef, rfl, blt_lt rfl, rfl, (fun h => by cases h), (fun _ => ⟨33, rfl, blt_lt rfl, .inr rfl⟩)⟩
   ·exact ⟨31, undef, rfl, blt_lt rfl, rfl, (fun h => by cases h), (fun _ => ⟨34, rfl, blt_lt rfl, .inr rfl⟩)⟩
   ·exact ⟨31, undef, rfl, blt_lt rfl, rfl, (fun h => by cases h), (fun _ => ⟨35, rfl, blt_lt rfl, .inr rfl⟩)⟩
   ·exact ⟨31, undef, rfl, blt_lt rfl, rfl, (fun h => by cases h), (fun _ => ⟨36, rfl, blt_lt rfl, .inr rfl⟩)⟩
   ·exact ⟨31, undef, rfl, blt_lt rfl, rfl, (fun h => by cases h), (fun _ => ⟨37, rfl, blt_lt rfl, .inr rfl⟩)⟩
   ·exact ⟨31, undef, rfl, blt_lt rfl, rfl, (fun h => by cases h), (fun _ => ⟨38, rfl, blt_lt rfl, .inr rfl⟩)⟩
   ·exact ⟨31, undef, rfl, blt_lt rfl, rfl, (fun h => by cases h), (fun _ => ⟨39, rfl, blt_lt rfl, .inr rfl⟩)⟩
   ·exact ⟨31, undef, rfl, blt_lt rfl, rfl, (fun h => by cases h), (fun _ => ⟨40, rfl, blt_lt rfl, .inr rfl⟩)⟩
   ·exact gn1 hg10
   exact sPk (decide ((l.getD i 0) > ((riseK l k).getD ((((riseK l k).length : Int) - 1).toNat) 0))) (.b false) hg10
  refine op0 ?_
  refine awp_cond false rfl rfl (fun h => by cases h) (fun _ => ?_)
  refine awp_skip ?_
  refine regR ?_
  refine mG (.i (i : Int)) ?_
  refine oG (qB (.int .i64 ((i + 1 : Nat) : Int)) (addN om) ?_)
  refine mG (.i ((i + 1 : Nat) : Int)) ?_
  refine op0 ?_
  show _ ∧ _
  refine ⟨by omega, trivial, ?_⟩
  exact iI 1 1 rfl (he := (sS rfl (sS (by exact congrArg (fun n_ : Int => AV.v (.int .i64 n_)) (by first | exact (bestK_on (by simp only [riseC, Bool.and_eq_true, Bool.or_eq_true, Bool.and_eq_false_iff, Bool.or_eq_false_iff, decide_eq_true_eq, decide_eq_false_iff_not]; rw [← hix]; omega)).symm | exact (bestK_off (by simp only [riseC, Bool.and_eq_true, Bool.or_eq_true, Bool.and_eq_false_iff, Bool.or_eq_false_iff, decide_eq_true_eq, decide_eq_false_iff_not]; rw [← hix]; omega)).symm)) (sM rfl (sS rfl (sS rfl sr_none))))))
 have hf18 := of_decide_eq_false hc0
 have hie : i = l.length := by omega
 refine awp_exit ?_
 refine awp_seq ?_
 refine seqR ?_
 refine mG (.i (bestK l (riseK l k) i)) ?_
 refine bG ((.bool (decide ((bestK l (riseK l k) i) < 0)))) ?_
 refine op0 ?_
 refine awp_cond (decide ((bestK l (riseK l k) i) < 0)) rfl rfl (fun hc2 => ?_) (fun hc2 => ?_)
 ·skip
  have hf19 := of_decide_eq_true hc2
  have hb2 : bestK l (riseK l k) l.length < 0 := by rw [← hie]; exact of_decide_eq_true hc2
  refine seqR ?_
  refine mG (.sl 1 0 ((riseK l k).length)) ?_
  refine mG (.sl 1 0 ((riseK l k).length)) ?_
  refine rU (upd (upd (upd (upd (upd none_ 0 (.q eI l)) 2 (.sl 1 0 ((riseK l k).length))) 3 (.sl 1 0 ((riseK l k).length))) 4 (.i (bestK l (riseK l k) i))) 5 (.i (i : Int))) (Z40 l k) ?_
  refine awp_imp _ (imp_frozen rfl (fun _ h => h) (lee_lend 2 (.q eI (riseK l k)) (lend_s (id := 1) (n := (riseK l k).length) (o := ⟨(enc eI (riseK l k)), 3, 1⟩) rfl (enc_len (fun _ => rfl) (by first | rfl | (simp; done)))) lee_lend0)) ?_
  refine awp_ret ?_
  exact fret (av := .ro ((riseK l k).length) (enc eI (riseK l k))) rfl rfl (by rw [riseK_end hk1 hb2])
 have hf20 := of_decide_eq_false hc2
 have hb_ : ¬ bestK l (riseK l k) l.length < 0 := by rw [← hie]; exact of_decide_eq_false hc2
 refine awp_skip ?_
 refine regR ?_
 refine mG (.sl 1 0 ((riseK l k).length)) ?_
 refine mG (.q eI l) ?_
 refine mG (.i (bestK l (riseK l k) i)) ?_
 refine oG (aop_ixI 0 rfl rfl rfl ut48 sz3 rfl rfl (fun _ => rfl) rfl om oo ?_)
 refine oG (qL (.i (l.getD (bestK l (riseK l k) i).toNat 0)) ag3 ?_)
 refine oG (aop_lit rfl rfl rfl ut48 iz3 (by decide) (by decide) rfl rfl ?_)
 refine oG (aop_app1 (f := eI) (l := riseK l k) 52 (l.getD (bestK l (riseK l k) i).toNat 0 : Int) rfl rfl rfl rfl ut48 in3 rfl (by decide) rfl rfl rfl rfl rfl rfl (fun _ => rfl) rfl rfl oo oo rfl ?_)
 refine mG (.sl 52 0 (((riseK l k) ++ [(l.getD (bestK l (riseK l k) i).toNat 0 : Int)]).length)) ?_
 refine op0 ?_
 show _ ∧ _
 have hs_ := riseK_on hb_
 rw [← hie] at hs_
 refine ⟨by omega, (riseK_len hk1 hb_), ?_⟩
 exact iI 52 1 (o := ⟨(enc eI ((riseK l k) ++ [(l.getD (bestK l (riseK l k) i).toNat 0 : Int)])), 3, 1⟩) rfl (he := (sM (by exact congrArg (AV.sl 1 0) (congrArg List.length hs_.symm)) (sS rfl (sS rfl sr_none)))) (hoo := (by exact congrArg (fun l_ => LObj.mk (enc eI l_) 3 1) hs_))
abbrev Z44 (s e p : Int) : Nat → OSt := (updO (updO noOb 51 (.live ⟨[.i s, .i e], 114, 1⟩)) 52 (.live ⟨[.i p, .one], 114, 1⟩))
abbrev Z43 (a : List Pnt) (c : List Sec) (s e : Int) : AV := (.rp (([.i ((a.getD (pointI a (nodeA c s e)).toNat dP).node), .i ((a.getD (pointI a (nodeA c s e)).toNat dP).stem), .i ((a.getD (pointI a (nodeA c s e)).toNat dP).left), .i ((a.getD (pointI a (nodeA c s e)).toNat dP).right)] : List AV) ++ ((enc ePnt a).drop (((pointI a (nodeA c s e)).toNat + 1) * 4))))
abbrev Z42 (c : List Sec) (a : List Pnt) : AV := (.rp [.one, .q eSec c, .one, .q ePnt a, .one, .one, .one, .one, .one, .one])
abbrev Z45 (c : List Sec) (a : List Pnt) : Nat → AV := (upd (upd none_ 0 (Z42 c a)) 4 (.pt 51 0))
theorem g_need (c : List Sec) (a : List Pnt) (s e p : Int) (hs : c.length ≤ 65536) (hp : a.length ≤ 65536) : Fn Try.prog 82 [.rp [.one, .ro c.length (enc eSec c), .one, .ro a.length (enc ePnt a), .one, .one, .one, .one, .one, .one], .agg [.v (.int .i64 s), .v (.int .i64 e)], .agg [.v (.int .i64 p), .one]] (.ro ((needL c a s e p).length) (enc eN (needL c a s e p))) := by
 refine fnE_of_body (N := 51) Try.func82 rfl rfl (resOf1 rfl) (by simp) (fun w0 X hL_ => ?_)
 refine seqR ?_
 refine oG (qW 51 ?_)
 refine oG (qW 52 ?_)
 refine mG vN ?_
 refine op0 ?_
 refine seqR ?_
 refine mG (Z42 c a) ?_
 refine oG (qLB [.i s, .i e] ag114 sz114 ?_)
 refine oG (qC (g_node c s e oo) bd85 ?_)
 refine mG (.tup [.i (nodeA c s e), .b (!noNode c s e)]) ?_
 refine oG (qE ?_)
 refine oG (qE ?_)
 refine mG (.i (nodeA c s e)) ?_
 refine mG (.b (!noNode c s e)) ?_
 refine rU (upd (upd (upd (Z45 c a) 5 (.pt 52 0)) 6 vN) 7 (.i (nodeA c s e))) (Z44 s e p) ?_
 refine seqR ?_
 refine mG (Z42 c a) ?_
 refine mG (.i (nodeA c s e)) ?_
 refine oG (qC (g_Point a (nodeA c s e) oo) bd86 ?_)
 refine mG (.i (pointI a (nodeA c s e))) ?_
 refine rU (upd (upd (upd (Z45 c a) 5 (.pt 52 0)) 6 vN) 9 (.i (pointI a (nodeA c s e)))) (Z44 s e p) ?_
 refine awp_seq ?_
 refine seqR ?_
 refine mG (.i (pointI a (nodeA c s e))) ?_
 refine bG ((.bool (decide ((pointI a (nodeA c s e)) < 0)))) ?_
 refine op0 ?_
 refine awp_cond (decide ((pointI a (nodeA c s e)) < 0)) rfl rfl (fun hc0 => ?_) (fun hc0 => ?_)
 ·skip
  have hf1 := of_decide_eq_true hc0
  have hi : pointI a (nodeA c s e) < 0 := by omega
  refine seqR ?_
  refine mG vN ?_
  refine op0 ?_
  refine awp_imp _ (imp_frozen rfl (fun _ h => h) (lee_lend 6 (.ro 0 []) .nil lee_lend0)) ?_
  refine awp_ret ?_
  exact fret (av := .ro 0 []) rfl rfl (by rw [need_no hi]; rfl)
 have hf2 := of_decide_eq_false hc0
 have hi : ¬ pointI a (nodeA c s e) < 0 := by omega
 have hr_ := pointI_range a (nodeA c s e)
 refine awp_skip ?_
 refine seqR ?_
 refine fG (.pt 52 0) ft114_0 sz3 ?_
 refine oG (qL (.i p) ag3 ?_)
 refine mG (.i p) ?_
 refine rU (upd (upd (upd (Z45 c a) 6 vN) 9 (.i (pointI a (nodeA c s e)))) 10 (.i p)) (Z44 s e p) ?_
 refine awp_seq ?_
 refine seqR ?_
 refine mG (Z42 c a) ?_
 refine oG (aop_nilCheck rfl rfl rfl rfl rfl ?_)
 refine oG (qF (Z42 c a) (Z42 c a) ft121_0 sz39 ?_)
 refine oG (qF (Z42 c a) (.rp [.q ePnt a, .one, .one, .one, .one, .one, .one]) ft39_3 sz37 ?_)
 refine oG (qL (.q ePnt a) ag37 ?_)
 refine mG (.i (pointI a (nodeA c s e))) ?_
 refine oG (aop_ixI dP rfl rfl rfl ut37 sz100 rfl rfl (fun _ => rfl) rfl om oo ?_)
 refine oG (qF (Z43 a c s e) (.rp (([.i ((a.getD (pointI a (nodeA c s e)).toNat dP).stem), .i ((a.getD (pointI a (nodeA c s e)).toNat dP).left), .i ((a.getD (pointI a (nodeA c s e)).toNat dP).right)] : List AV) ++ ((enc ePnt a).drop (((pointI a (nodeA c s e)).toNat + 1) * 4)))) ft100_1 sz3 ?_)
 refine oG (qL (.i ((a.getD (pointI a (nodeA c s e)).toNat dP).stem)) ag3 ?_)
 refine mG (.i p) ?_
 refine bG ((.bool (((a.getD (pointI a (nodeA c s e)).toNat dP).stem) == p))) ?_
 refine rU (upd (upd (upd (upd (Z45 c a) 6 vN) 9 (.i (pointI a (nodeA c s e)))) 10 (.i p)) 34 (.b (((a.getD (pointI a (nodeA c s e)).toNat dP).stem) == p))) (Z44 s e p) ?_
 refine cutG ⟨(upd (upd (upd (upd none_ 0 (Z42 c a)) 6 vN) 9 (.i (pointI a (nodeA c s e)))) 10 (.i (if (a.getD (pointI a (nodeA c s e)).toNat dP).stem = p then s else p))), noOb⟩ (fun s h => h) ?_ ?_
 ·skip
  refine awp_cond (((a.getD (pointI a (nodeA c s e)).toNat dP).stem) == p) rfl rfl (fun hc1 => ?_) (fun hc1 => ?_)
  ·skip
   have hf3 := (beq_iff_eq).1 hc1
   refine regR ?_
   refine fG (.pt 51 0) ft114_0 sz3 ?_
   refine oG (qL (.i s) ag3 ?_)
   refine mG (.i s) ?_
   refine op0 ?_
   show Imp _ _ _
   exact iN (he := (sS (by exact congrArg (fun n_ : Int => AV.v (.int .i64 n_)) (by first | exact (if_pos (by simpa using hc1)).symm | exact (if_neg (by simpa using hc1)).symm)) (sS rfl (sS rfl (sS rfl sr_none)))))
  have hf4 := (beq_eq_false_iff_ne).1 hc1
  refine awp_skip ?_
  show Imp _ _ _
  exact iN (he := (sS (by exact congrArg (fun n_ : Int => AV.v (.int .i64 n_)) (by first | exact (if_pos (by simpa using hc1)).symm | exact (if_neg (by simpa using hc1)).symm)) (sS rfl (sS rfl (sS rfl sr_none)))))
 refine seqR ?_
 refine mG (.i (pointI a (nodeA c s e))) ?_
 refine mG (Z42 c a) ?_
 refine oG (aop_nilCheck rfl rfl rfl rfl rfl ?_)
 refine oG (qF (Z42 c a) (Z42 c a) ft121_0 sz39 ?_)
 refine oG (qF (Z42 c a) (.rp [.q ePnt a, .one, .one, .one, .one, .one, .one]) ft39_3 sz37 ?_)
 refine oG (qL (.q ePnt a) ag37 ?_)
 refine mG (.i (pointI a (nodeA c s e))) ?_
 refine oG (aop_ixI dP rfl rfl rfl ut37 sz100 rfl rfl (fun _ => rfl) rfl om oo ?_)
 refine oG (qF (Z43 a c s e) (.rp (([.i ((a.getD (pointI a (nodeA c s e)).toNat dP).right)] : List AV) ++ ((enc ePnt a).drop (((pointI a (nodeA c s e)).toNat + 1) * 4)))) ft100_3 sz3 ?_)
 refine oG (qL (.i ((a.getD (pointI a (nodeA c s e)).toNat dP).right)) ag3 ?_)
 refine mG (.i (if (a.getD (pointI a (nodeA c s e)).toNat dP).stem = p then s else p)) ?_
 refine bG ((.bool (((a.getD (pointI a (nodeA c s e)).toNat dP).right) == (if (a.getD (pointI a (nodeA c s e)).toNat dP).stem = p then s else p)))) ?_
 refine oG (qD pl140 ?_)
 refine oG (aop_lit rfl rfl rfl ut131 iz140 (by decide) (by decide) rfl rfl ?_)
 refine mG (.ro 1 [.i (pointI a (nodeA c s e)), .b (((a.getD (pointI a (nodeA c s e)).toNat dP).right) == (if (a.getD (pointI a (nodeA c s e)).toNat dP).stem = p then s else p))]) ?_
 refine rU (upd none_ 6 (.ro 1 [.i (pointI a (nodeA c s e)), .b (((a.getD (pointI a (nodeA c s e)).toNat dP).right) == (if (a.getD (pointI a (nodeA c s e)).toNat dP).stem = p then s else p))])) noOb ?_
 refine awp_ret ?_
 exact fret (av := .ro 1 [.v (.int .i64 (pointI a (nodeA c s e))), .v (.bool (((a.getD (pointI a (nodeA c s e)).toNat dP).right) == (if (a.getD (pointI a (nodeA c s e)).toNat dP).stem = p then s else p)))]) rfl rfl (by rw [need_yes hi rfl rfl]; rfl)
theorem g_way1 (x g : Int)  : Fn Try.prog 81 [.agg [.v (.int .i64 x), .one], .rp [.v (.int .i64 g)]] (.v (.bool (decide (x = g)))) := by
 refine fnE_of_body (N := 8) Try.func81 rfl rfl (resOf1 rfl) (by simp) (fun w0 X hL_ => ?_)
 refine seqR ?_
 refine oG (qW 51 ?_)
 refine mG (.b false) ?_
 refine op0 ?_
 refine seqR ?_
 refine fG (.pt 51 0) ft114_0 sz3 ?_
 refine oG (qL (.i x) ag3 ?_)
 refine oG (qL (.i g) ag3 ?_)
 refine bG ((.bool (x == g))) ?_
 refine mG (.b (x == g)) ?_
 refine rU (upd none_ 3 (.b (x == g))) (updO noOb 51 (.live ⟨[.i x, .one], 114, 1⟩)) ?_
 refine awp_ret ?_
 exact fret (av := .v (.bool (x == g))) rfl rfl (by rfl)
abbrev Z46 (l : List En) (s : Int) : Nat → AV := (upd (upd (upd none_ 0 (.q eEn l)) 1 (.fn 81 [.rp [.i s]])) 4 (.i 0))
theorem ixE_w (l : List En) (s : Int) (hl : l.length ≤ 4294967296)  : Fn Try.prog 80 [.ro l.length (enc eEn l), .fn 81 [.rp [.v (.int .i64 s)]]] (.v (.int .i64 (idxB (fun x : En => decide (x.sec = s)) l))) := by
 refine fnE_of_body (N := 19) Try.func80 rfl rfl (resOf1 rfl) (by simp) (fun w0 X hL_ => ?_)
 refine seqR ?_
 refine mG (.i 0) ?_
 refine op0 ?_
 refine awp_seq ?_
 refine seqR ?_
 refine mG (.q eEn l) ?_
 refine oG (qN ut115 ?_)
 refine mG (.i 0) ?_
 refine rU (upd (upd (Z46 l s) 7 (.i (l.length : Int))) 8 (.i 0)) noOb ?_
 refine awp_block ?_
 refine awp_countI (fun k => ⟨(upd (upd (Z46 l s) 7 (.i (l.length : Int))) 8 (.i (k : Int))), noOb⟩) (fun k => (l.take k).any (fun x : En => decide (x.sec = s)) = false) (l.length) ?_ (by simp) (fun k hk_k hinv => ?_)
 ·skip
  exact iN
 refine seqR ?_
 refine bG ((.bool (decide ((k : Int) < (l.length : Int))))) ?_
 refine op0 ?_
 refine awp_seq ?_
 refine awp_cond (decide ((k : Int) < (l.length : Int))) rfl rfl (fun hc0 => ?_) (fun hc0 => ?_)
 ·skip
  have hf1 := of_decide_eq_true hc0
  refine awp_skip ?_
  refine awp_seq ?_
  refine awp_block ?_
  refine seqR ?_
  refine mG (.i (k : Int)) ?_
  refine mG (.i (k : Int)) ?_
  refine op0 ?_
  refine seqR ?_
  refine mG (.fn 81 [.rp [.i s]]) ?_
  refine mG (.q eEn l) ?_
  refine mG (.i (k : Int)) ?_
  refine oG (qX dE ut115 sz114 ?_)
  refine oG (qLB [.i ((l.getD k dE).sec), .i ((l.getD k dE).en)] ag114 sz114 ?_)
  refine oG (qC (g_way1 ((l.getD k dE).sec) s) bd81 ?_)
  refine rU (upd (upd (upd (upd (Z46 l s) 5 (.i (k : Int))) 7 (.i (l.length : Int))) 8 (.i (k : Int))) 16 (.b (decide (((l.getD k dE).sec) = s)))) noOb ?_
  refine awp_cond (decide (((l.getD k dE).sec) = s)) rfl rfl (fun hc1 => ?_) (fun hc1 => ?_)
  ·skip
   refine seqR ?_
   refine mG (.i (k : Int)) ?_
   refine mG (.i (k : Int)) ?_
   refine op0 ?_
   refine awp_ret ?_
   exact fret (av := .v (.int .i64 (k : Int))) rfl rfl (by rw [idxB_stop (f := fun x : En => decide (x.sec = s)) dE om hinv hc1] <;> rfl)
  refine awp_skip ?_
  refine regR ?_
  refine oG (qB (.int .i64 ((k + 1 : Nat) : Int)) (addN om) ?_)
  refine mG (.i ((k + 1 : Nat) : Int)) ?_
  refine op0 ?_
  show _ ∧ _
  refine ⟨by omega, (any_step dE om hinv hc1), ?_⟩
  exact iN
 have hf2 := of_decide_eq_false hc0
 refine awp_exit ?_
 refine seqR ?_
 refine mG (.i (-1)) ?_
 refine op0 ?_
 refine awp_ret ?_
 exact fret (av := .v (.int .i64 (-1))) rfl rfl (by rw [idxB_end (f := fun x : En => decide (x.sec = s)) om hinv] <;> rfl)
abbrev Z4h (a : List Sec) (c : List Pnt) (d : List Int) (s e : Int) (k : Nat) : List AV := [.i ((wyK a c d ⟨s, e, []⟩ k).s), .i ((wyK a c d ⟨s, e, []⟩ k).e)]
abbrev Z4g (a : List Sec) (c : List Pnt) (d : List Int) (s e : Int) (k : Nat) : List AV := [.i (((aroundL a c ((wyK a c d ⟨s, e, []⟩ k).s) ((wyK a c d ⟨s, e, []⟩ k).e)).getD (wyI a c (wyK a c d ⟨s, e, []⟩ k).s (wyK a c d ⟨s, e, []⟩ k).e (d.getD k 0)).toNat dE).en)]
abbrev Z4f (d : List Int) (k : Nat) (a : List Sec) (c : List Pnt) (s e : Int) : List AV := [.i (d.getD k 0), .i (1 - (((aroundL a c ((wyK a c d ⟨s, e, []⟩ k).s) ((wyK a c d ⟨s, e, []⟩ k).e)).getD (wyI a c (wyK a c d ⟨s, e, []⟩ k).s (wyK a c d ⟨s, e, []⟩ k).e (d.getD k 0)).toNat dE).en))]
abbrev Z4d (a : List Sec) (c : List Pnt) (d : List Int) (s e : Int) (k : Nat) : List AV := (enc eEn (aroundL a c ((wyK a c d ⟨s, e, []⟩ k).s) ((wyK a c d ⟨s, e, []⟩ k).e)))
abbrev Z4c (a : List Sec) (c : List Pnt) : List AV := [.one, .q eSec a, .one, .q ePnt c, .one, .one, .one, .one, .one, .one]
abbrev Z4b (a : List Sec) (c : List Pnt) (d : List Int) (s e : Int) (k : Nat) : Nat → OSt := (updO (updO noOb 1 (.live ⟨(enc eN ((wyK a c d ⟨s, e, []⟩ k).ns)), 140, 2⟩)) 2 (.live ⟨(Z4h a c d s e k), 114, 1⟩))
abbrev Z4a (a : List Sec) (c : List Pnt) (d : List Int) (s e : Int) (k : Nat) : AV := (.q eEn (aroundL a c ((wyK a c d ⟨s, e, []⟩ k).s) ((wyK a c d ⟨s, e, []⟩ k).e)))
abbrev Z49 (a : List Sec) (c : List Pnt) (d : List Int) (s e : Int) (k : Nat) : Nat → AV := (upd (upd (upd (upd (upd none_ 0 (.rp (Z4c a c))) 4 (.pt 2 0)) 6 vN) 7 (.b false)) 8 (.sl 1 0 ((wyK a c d ⟨s, e, []⟩ k).ns.length)))
abbrev Z48 (a : List Sec) (c : List Pnt) (d : List Int) (s e : Int) (k : Nat) : Nat → OSt := (updO (updO (Z4b a c d s e k) 53 (.live ⟨[.i 0], 3, 1⟩)) 53 (.live ⟨[.i (d.getD k 0)], 3, 1⟩))
abbrev Z47 (a : List Sec) (c : List Pnt) (d : List Int) (s e : Int) (k : Nat) : List AV := [.i (((aroundL a c ((wyK a c d ⟨s, e, []⟩ k).s) ((wyK a c d ⟨s, e, []⟩ k).e)).getD (wyI a c (wyK a c d ⟨s, e, []⟩ k).s (wyK a c d ⟨s, e, []⟩ k).e (d.getD k 0)).toNat dE).sec), .i (((aroundL a c ((wyK a c d ⟨s, e, []⟩ k).s) ((wyK a c d ⟨s, e, []⟩ k).e)).getD (wyI a c (wyK a c d ⟨s, e, []⟩ k).s (wyK a c d ⟨s, e, []⟩ k).e (d.getD k 0)).toNat dE).en)]
abbrev Z4e (a : List Sec) (c : List Pnt) (d : List Int) (s e : Int) (k : Nat) : Nat → AV := (upd (upd (upd (upd (upd (upd (Z49 a c d s e k) 10 (.pt 53 0)) 11 (Z4a a c d s e k)) 12 (.i (wyI a c (wyK a c d ⟨s, e, []⟩ k).s (wyK a c d ⟨s, e, []⟩ k).e (d.getD k 0)))) 13 (.q eI d)) 14 (.i (d.length : Int))) 15 (.i (k : Int)))
theorem g_way (a : List Sec) (c : List Pnt) (s e : Int) (d : List Int) (hs : a.length ≤ 65536) (hp : c.length ≤ 65536) (hpl : d.length ≤ 65536) : Fn Try.prog 73 [.rp [.one, .ro a.length (enc eSec a), .one, .ro c.length (enc ePnt c), .one, .one, .one, .one, .one, .one], .agg [.v (.int .i64 s), .v (.int .i64 e)], .ro d.length (enc eI d)] (.tup [.ro ((wyL a c s e d).length) (enc eN (wyL a c s e d)), .v (.bool (wyB a c s e d))]) := by
 refine fnE_of_body (N := 46) Try.func73 rfl rfl (resOf2 rfl) (by simp) (fun w0 X hL_ => ?_)
 refine seqR ?_
 refine oG (qW 51 ?_)
 refine mG vN ?_
 refine mG (.b false) ?_
 refine op0 ?_
 refine seqR ?_
 refine mG vN ?_
 refine rU (upd (upd (upd (upd (upd (upd none_ 0 (.rp (Z4c a c))) 2 (.q eI d)) 4 (.pt 51 0)) 6 vN) 7 (.b false)) 8 vN) (updO noOb 51 (.live ⟨[.i s, .i e], 114, 1⟩)) ?_
 refine awp_seq ?_
 refine seqR ?_
 refine mG (.q eI d) ?_
 refine oG (qN ut48 ?_)
 refine mG (.i 0) ?_
 refine op0 ?_
 refine awp_block ?_
 refine awp_countI (fun k => ⟨(upd (upd (upd (Z49 a c d s e k) 13 (.q eI d)) 14 (.i (d.length : Int))) 15 (.i (k : Int))), (Z4b a c d s e k)⟩) (fun k => wyF a c (d.drop k) (wyK a c d ⟨s, e, []⟩ k) = wyO a c s e d) (d.length) ?_ rfl (fun k hk_k hinv => ?_)
 ·skip
  refine (imp_adopt 8 52 140 2 rfl rfl).trans ?_
  exact iL [(52, 1), (51, 2)] [((52, 1), .live _), ((51, 2), .live _)] ⟨row_no (o := ⟨[], 140, 2⟩) rfl rfl, row_no rfl rfl, trivial⟩
 have hwl := wyK_len (secs := a) (pts := c) (path := d) ⟨s, e, []⟩ rfl k
 have hal := aroundL_len a c (wyK a c d ⟨s, e, []⟩ k).s (wyK a c d ⟨s, e, []⟩ k).e
 have hnl := need_len (secs := a) (pts := c) (s := (wyK a c d ⟨s, e, []⟩ k).s) (e := (wyK a c d ⟨s, e, []⟩ k).e) (p := ((aroundL a c (wyK a c d ⟨s, e, []⟩ k).s (wyK a c d ⟨s, e, []⟩ k).e).getD (wyI a c (wyK a c d ⟨s, e, []⟩ k).s (wyK a c d ⟨s, e, []⟩ k).e (d.getD k 0)).toNat dE).sec)
 refine seqR ?_
 refine bG ((.bool (decide ((k : Int) < (d.length : Int))))) ?_
 refine op0 ?_
 refine awp_seq ?_
 refine awp_cond (decide ((k : Int) < (d.length : Int))) rfl rfl (fun hc0 => ?_) (fun hc0 => ?_)
 ·skip
  have hf1 := of_decide_eq_true hc0
  refine awp_skip ?_
  refine awp_seq ?_
  refine awp_block ?_
  refine seqR ?_
  refine oG (qX (0 : Int) ut48 sz3 ?_)
  refine oG (qL (.i (d.getD k 0)) ag3 ?_)
  refine oG (aop_alloc 53 rfl rfl rfl rfl ze3 rfl ?_)
  refine oG (qS sz3 ?_)
  refine rU (upd (upd (upd (upd (Z49 a c d s e k) 10 (.pt 53 0)) 13 (.q eI d)) 14 (.i (d.length : Int))) 15 (.i (k : Int))) (Z48 a c d s e k) ?_
  refine seqR ?_
  refine mG (.rp (Z4c a c)) ?_
  refine oG (qLB (Z4h a c d s e k) ag114 sz114 ?_)
  refine oG (qJ (g_Around a c ((wyK a c d ⟨s, e, []⟩ k).s) ((wyK a c d ⟨s, e, []⟩ k).e) oo oo) bd79 ?_)
  refine mG (Z4a a c d s e k) ?_
  refine rU (upd (upd (upd (upd (upd (Z49 a c d s e k) 10 (.pt 53 0)) 11 (Z4a a c d s e k)) 13 (.q eI d)) 14 (.i (d.length : Int))) 15 (.i (k : Int))) (Z48 a c d s e k) ?_
  refine seqR ?_
  refine mG (Z4a a c d s e k) ?_
  refine oG (aop_makeFunc (caps := [.tmp 10]) rfl rfl rfl rfl ?_)
  refine oG (callL_ (show Fn Try.prog 80 [.q eEn (aroundL a c ((wyK a c d ⟨s, e, []⟩ k).s) ((wyK a c d ⟨s, e, []⟩ k).e)), .fn 81 [.rp [.i (d.getD k 0)]]] (.i (wyI a c (wyK a c d ⟨s, e, []⟩ k).s (wyK a c d ⟨s, e, []⟩ k).e (d.getD k 0))) from (by have h_ := ixE_w (aroundL a c (wyK a c d ⟨s, e, []⟩ k).s (wyK a c d ⟨s, e, []⟩ k).e) (d.getD k 0) om; exact h_)) rfl rfl rfl rfl rfl bd80 (lends_cons (lend_n (av := .q eEn (aroundL a c ((wyK a c d ⟨s, e, []⟩ k).s) ((wyK a c d ⟨s, e, []⟩ k).e)))) (lends_cons (lend_fn (lends_cons (lend_pt rfl lS) lends_nil)) lends_nil)) ?_)
  refine mG (.i (wyI a c (wyK a c d ⟨s, e, []⟩ k).s (wyK a c d ⟨s, e, []⟩ k).e (d.getD k 0))) ?_
  refine rU (Z4e a c d s e k) (Z48 a c d s e k) ?_
  refine awp_seq ?_
  refine seqR ?_
  refine mG (.i (wyI a c (wyK a c d ⟨s, e, []⟩ k).s (wyK a c d ⟨s, e, []⟩ k).e (d.getD k 0))) ?_
  refine bG ((.bool (decide ((wyI a c (wyK a c d ⟨s, e, []⟩ k).s (wyK a c d ⟨s, e, []⟩ k).e (d.getD k 0)) < 0)))) ?_
  refine op0 ?_
  refine awp_cond (decide ((wyI a c (wyK a c d ⟨s, e, []⟩ k).s (wyK a c d ⟨s, e, []⟩ k).e (d.getD k 0)) < 0)) rfl rfl (fun hc1 => ?_) (fun hc1 => ?_)
  ·skip
   have hf2 := of_decide_eq_true hc1
   have hO := wy_stop om hinv (show (wyI a c (wyK a c d ⟨s, e, []⟩ k).s (wyK a c d ⟨s, e, []⟩ k).e (d.getD k 0)) < 0 by omega)
   refine seqR ?_
   refine mG vN ?_
   refine mG (.b false) ?_
   refine rU (Z4e a c d s e k) (Z48 a c d s e k) ?_
   refine awp_imp _ (imp_frozen rfl (fun _ h => h) (lee_lend 7 (.b false) (lend_n (av := .b false)) (lee_lend 6 (.ro 0 []) .nil lee_lend0))) ?_
   refine awp_ret ?_
   exact fret (av := .tup [.ro 0 [], .v (.bool false)]) rfl rfl (by rw [(wyL_none hO).1, (wyL_none hO).2]; rfl)
  have hf3 := of_decide_eq_false hc1
  have hns : ¬ (wyI a c (wyK a c d ⟨s, e, []⟩ k).s (wyK a c d ⟨s, e, []⟩ k).e (d.getD k 0)) < 0 := by omega
  have hxo := wyX_ok (secs := a) (pts := c) (p := d.getD k 0) (w := (wyK a c d ⟨s, e, []⟩ k)) hns
  have hx1 : ((aroundL a c (wyK a c d ⟨s, e, []⟩ k).s (wyK a c d ⟨s, e, []⟩ k).e).getD (wyI a c (wyK a c d ⟨s, e, []⟩ k).s (wyK a c d ⟨s, e, []⟩ k).e (d.getD k 0)).toNat dE).en = 0 ∨ ((aroundL a c (wyK a c d ⟨s, e, []⟩ k).s (wyK a c d ⟨s, e, []⟩ k).e).getD (wyI a c (wyK a c d ⟨s, e, []⟩ k).s (wyK a c d ⟨s, e, []⟩ k).e (d.getD k 0)).toNat dE).en = 1 := hxo.1
  have hx3 := hxo.2.2
  refine awp_skip ?_
  refine awp_seq ?_
  refine aD 8 [(34, .q eN (needL a c ((wyK a c d ⟨s, e, []⟩ k).s) ((wyK a c d ⟨s, e, []⟩ k).e) (((aroundL a c ((wyK a c d ⟨s, e, []⟩ k).s) ((wyK a c d ⟨s, e, []⟩ k).e)).getD (wyI a c (wyK a c d ⟨s, e, []⟩ k).s (wyK a c d ⟨s, e, []⟩ k).e (d.getD k 0)).toNat dE).sec))), (33, .agg (Z47 a c d s e k)), (32, .rp (((Z47 a c d s e k) : List AV) ++ ((Z4d a c d s e k).drop (((wyI a c (wyK a c d ⟨s, e, []⟩ k).s (wyK a c d ⟨s, e, []⟩ k).e (d.getD k 0)).toNat + 1) * 2)))), (31, .i (wyI a c (wyK a c d ⟨s, e, []⟩ k).s (wyK a c d ⟨s, e, []⟩ k).e (d.getD k 0))), (30, .q eEn (aroundL a c ((wyK a c d ⟨s, e, []⟩ k).s) ((wyK a c d ⟨s, e, []⟩ k).e))), (29, .agg (Z4h a c d s e k)), (28, .rp (Z4c a c)), (27, .sl 1 0 ((wyK a c d ⟨s, e, []⟩ k).ns.length))] mixed ?_ ?_
  ·refine ⟨?_, ?_, ?_, ?_, ?_, ?_, ?_, ?_, trivial⟩
   ·exact sMv
   ·exact sMv
   ·exact sLB (Z4h a c d s e k) ag114 sz114
   ·exact sMv
   ·exact sMv
   ·exact dW 32 fun st hob hE => aop_ixI dE rfl rfl rfl ut115 sz114 (hE 30 rfl) (hE 31 rfl) (fun _ => rfl) rfl om oo (by rw [hob]; rfl)
   ·exact dW 33 fun st hob hE => aop_ldB (cells' := (Z47 a c d s e k)) rfl rfl rfl ag114 sz114 (hE 32 rfl) rfl rfl rfl (by rw [hob]; rfl)
   exact sC (g_need a c ((wyK a c d ⟨s, e, []⟩ k).s) ((wyK a c d ⟨s, e, []⟩ k).e) (((aroundL a c ((wyK a c d ⟨s, e, []⟩ k).s) ((wyK a c d ⟨s, e, []⟩ k).e)).getD (wyI a c (wyK a c d ⟨s, e, []⟩ k).s (wyK a c d ⟨s, e, []⟩ k).e (d.getD k 0)).toNat dE).sec) oo oo) bd82
  refine oG (aop_appE (f := eN) (l := (wyK a c d ⟨s, e, []⟩ k).ns) (l2 := needL a c ((wyK a c d ⟨s, e, []⟩ k).s) ((wyK a c d ⟨s, e, []⟩ k).e) (((aroundL a c ((wyK a c d ⟨s, e, []⟩ k).s) ((wyK a c d ⟨s, e, []⟩ k).e)).getD (wyI a c (wyK a c d ⟨s, e, []⟩ k).s (wyK a c d ⟨s, e, []⟩ k).e (d.getD k 0)).toNat dE).sec)) 54 rfl rfl rfl rfl ut131 in140 rfl (by decide) rfl rfl rfl rfl rfl rfl (fun _ => rfl) rfl rfl rfl oo oo rfl ?_)
  refine mG (.sl 54 0 ((((wyK a c d ⟨s, e, []⟩ k).ns) ++ (needL a c ((wyK a c d ⟨s, e, []⟩ k).s) ((wyK a c d ⟨s, e, []⟩ k).e) (((aroundL a c ((wyK a c d ⟨s, e, []⟩ k).s) ((wyK a c d ⟨s, e, []⟩ k).e)).getD (wyI a c (wyK a c d ⟨s, e, []⟩ k).s (wyK a c d ⟨s, e, []⟩ k).e (d.getD k 0)).toNat dE).sec))).length)) ?_
  refine op0 ?_
  refine rT (upd (upd (upd (upd (upd (upd (upd (upd (upd (upd (upd none_ 0 (.rp (Z4c a c))) 4 (.pt 2 0)) 6 vN) 7 (.b false)) 8 (.sl 54 0 ((((wyK a c d ⟨s, e, []⟩ k).ns) ++ (needL a c ((wyK a c d ⟨s, e, []⟩ k).s) ((wyK a c d ⟨s, e, []⟩ k).e) (((aroundL a c ((wyK a c d ⟨s, e, []⟩ k).s) ((wyK a c d ⟨s, e, []⟩ k).e)).getD (wyI a c (wyK a c d ⟨s, e, []⟩ k).s (wyK a c d ⟨s, e, []⟩ k).e (d.getD k 0)).toNat dE).sec))).length))) 10 (.pt 53 0)) 11 (Z4a a c d s e k)) 12 (.i (wyI a c (wyK a c d ⟨s, e, []⟩ k).s (wyK a c d ⟨s, e, []⟩ k).e (d.getD k 0)))) 13 (.q eI d)) 14 (.i (d.length : Int))) 15 (.i (k : Int))) (updO (updO (Z48 a c d s e k) 1 .dead) 54 (.live ⟨(enc eN (((wyK a c d ⟨s, e, []⟩ k).ns) ++ (needL a c ((wyK a c d ⟨s, e, []⟩ k).s) ((wyK a c d ⟨s, e, []⟩ k).e) (((aroundL a c ((wyK a c d ⟨s, e, []⟩ k).s) ((wyK a c d ⟨s, e, []⟩ k).e)).getD (wyI a c (wyK a c d ⟨s, e, []⟩ k).s (wyK a c d ⟨s, e, []⟩ k).e (d.getD k 0)).toNat dE).sec)))), 140, 2⟩)) ?_
  refine aD 8 [(43, .agg (Z4f d k a c s e)), (42, .i (1 - (((aroundL a c ((wyK a c d ⟨s, e, []⟩ k).s) ((wyK a c d ⟨s, e, []⟩ k).e)).getD (wyI a c (wyK a c d ⟨s, e, []⟩ k).s (wyK a c d ⟨s, e, []⟩ k).e (d.getD k 0)).toNat dE).en))), (41, .i (((aroundL a c ((wyK a c d ⟨s, e, []⟩ k).s) ((wyK a c d ⟨s, e, []⟩ k).e)).getD (wyI a c (wyK a c d ⟨s, e, []⟩ k).s (wyK a c d ⟨s, e, []⟩ k).e (d.getD k 0)).toNat dE).en)), (40, .rp (((Z4g a c d s e k) : List AV) ++ ((Z4d a c d s e k).drop (((wyI a c (wyK a c d ⟨s, e, []⟩ k).s (wyK a c d ⟨s, e, []⟩ k).e (d.getD k 0)).toNat + 1) * 2)))), (39, .rp (((Z47 a c d s e k) : List AV) ++ ((Z4d a c d s e k).drop (((wyI a c (wyK a c d ⟨s, e, []⟩ k).s (wyK a c d ⟨s, e, []⟩ k).e (d.getD k 0)).toNat + 1) * 2)))), (38, .i (wyI a c (wyK a c d ⟨s, e, []⟩ k).s (wyK a c d ⟨s, e, []⟩ k).e (d.getD k 0))), (37, .q eEn (aroundL a c ((wyK a c d ⟨s, e, []⟩ k).s) ((wyK a c d ⟨s, e, []⟩ k).e))), (36, .i (d.getD k 0))] mixed ?_ ?_
  ·refine ⟨?_, ?_, ?_, ?_, ?_, ?_, ?_, ?_, trivial⟩
   ·exact sL ag3
   ·exact sMv
   ·exact sMv
   ·exact dW 39 fun st hob hE => aop_ixI dE rfl rfl rfl ut115 sz114 (hE 37 rfl) (hE 38 rfl) (fun _ => rfl) rfl om oo (by rw [hob]; rfl)
   ·exact sF (.rp (((Z47 a c d s e k) : List AV) ++ ((Z4d a c d s e k).drop (((wyI a c (wyK a c d ⟨s, e, []⟩ k).s (wyK a c d ⟨s, e, []⟩ k).e (d.getD k 0)).toNat + 1) * 2)))) (.rp (((Z4g a c d s e k) : List AV) ++ ((Z4d a c d s e k).drop (((wyI a c (wyK a c d ⟨s, e, []⟩ k).s (wyK a c d ⟨s, e, []⟩ k).e (d.getD k 0)).toNat + 1) * 2)))) ft114_1 sz3
   ·exact (sLd ag3)
   ·exact sB (.int .i64 (1 - (((aroundL a c ((wyK a c d ⟨s, e, []⟩ k).s) ((wyK a c d ⟨s, e, []⟩ k).e)).getD (wyI a c (wyK a c d ⟨s, e, []⟩ k).s (wyK a c d ⟨s, e, []⟩ k).e (d.getD k 0)).toNat dE).en))) (subI om)
   exact dW 43 fun st hob hE => aop_build rfl rfl rfl pl114 (by simp only [partsA, List.map, evA, hE 36 rfl, hE 42 rfl]; rfl) (by rw [hob]; rfl)
  refine oG (qS sz114 ?_)
  refine op0 ?_
  refine regR ?_
  refine oG (qB (.int .i64 ((k + 1 : Nat) : Int)) (addN om) ?_)
  refine mG (.i ((k + 1 : Nat) : Int)) ?_
  refine op0 ?_
  show _ ∧ _
  refine ⟨by omega, (wy_step om hinv hns), ?_⟩
  exact iL [(54, 1), (2, 2)] [((54, 1), .live _), ((2, 2), .live _)] ⟨row_no rfl rfl, row_no (o := ⟨(Z4f d k a c s e), 114, 1⟩) rfl rfl, trivial⟩
 have hf4 := of_decide_eq_false hc0
 have hO := wy_end om hinv
 refine awp_exit ?_
 refine seqR ?_
 refine mG (.sl 1 0 ((wyK a c d ⟨s, e, []⟩ k).ns.length)) ?_
 refine mG (.sl 1 0 ((wyK a c d ⟨s, e, []⟩ k).ns.length)) ?_
 refine mG (.b true) ?_
 refine rU (upd (upd none_ 6 (.sl 1 0 ((wyK a c d ⟨s, e, []⟩ k).ns.length))) 7 (.b true)) (Z4b a c d s e k) ?_
 refine awp_imp _ (imp_frozen rfl (fun _ h => h) (lee_lend 7 (.b true) (lend_n (av := .b true)) (lee_lend 6 (.ro ((wyK a c d ⟨s, e, []⟩ k).ns.length) (enc eN ((wyK a c d ⟨s, e, []⟩ k).ns))) (lend_s (id := 1) (n := (wyK a c d ⟨s, e, []⟩ k).ns.length) (o := ⟨(enc eN ((wyK a c d ⟨s, e, []⟩ k).ns)), 140, 2⟩) rfl (enc_len (fun _ => rfl) (by first | rfl | (simp; done)))) lee_lend0))) ?_
 refine awp_ret ?_
 exact fret (av := .tup [.ro ((wyK a c d ⟨s, e, []⟩ k).ns.length) (enc eN ((wyK a c d ⟨s, e, []⟩ k).ns)), .v (.bool true)]) rfl rfl (by rw [(wyL_some hO).1, (wyL_some hO).2])
end Go.Lo
