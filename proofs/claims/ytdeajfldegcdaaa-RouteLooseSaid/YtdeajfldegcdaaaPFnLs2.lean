/- Walks of Go functions in the logic of values: what the law reaches. -/
import Derived.Test.YtdeajfldegcdaaaPFnLs1
set_option linter.unusedVariables false
set_option linter.unusedSimpArgs false
set_option maxRecDepth 10000
set_option maxHeartbeats 16000000
namespace Go.Lo
open Go.Proofs
abbrev Z2c (c d e g j m r jn : Int) (rs : List (List Int)) : List AV := [.v (.int .u8 c), .v (.int .u8 d), .v (.int .u8 e), .v (.int .u16 g), .v (.int .u16 j), .v (.int .u8 m), .v (.int .u8 r), .v (.int .u8 jn), .q eUL rs]
abbrev Z2b (c d jn : Int) (rs : List (List Int)) (k : Nat) (e g j m r : Int) : LObj := ⟨[.one, .q eSec (mkSecs c d), .q eIL (mkParts c jn), .q ePnt (mkPts c), .sl 55 0 (((routesK (mkSecs c d) (mkPts c) rs k) ++ [(walkL (mkSecs c d) (mkPts c) (((rs.getD k []).getD 0 0) % ((mkSecs c d).length : Int)) (((rs.getD k []).getD 0 0) / 128) ((rs.getD k []).drop 2) (2 + (((rs.getD k []).getD 1 0) % 5)) : (List Int))]).length), .i (1 + e % (2 * (10 * (1 + d % 20)))), .i (1 + g % 1000), .i (1 + j % 1000), .i (1 + m), .i (r % 4)], 33, 1⟩
abbrev Z2a (k : Nat) : Nat → AV := (upd (upd (upd (upd none_ 1 (.pt 2 0)) 2 (.pt 3 0)) 3 (.pt 1 0)) 4 (.i (k : Int)))
abbrev Z29 (c d : Int) (rs : List (List Int)) (k : Nat) : AV := (.q eI (walkL (mkSecs c d) (mkPts c) (((rs.getD k []).getD 0 0) % ((mkSecs c d).length : Int)) (((rs.getD k []).getD 0 0) / 128) ((rs.getD k []).drop 2) (2 + (((rs.getD k []).getD 1 0) % 5))))
abbrev Z28 (c d jn : Int) (rs : List (List Int)) (k : Nat) (e g j m r : Int) : List AV := [.one, .q eSec (mkSecs c d), .q eIL (mkParts c jn), .q ePnt (mkPts c), .sl 4 0 ((routesK (mkSecs c d) (mkPts c) rs k).length), .i (1 + e % (2 * (10 * (1 + d % 20)))), .i (1 + g % 1000), .i (1 + j % 1000), .i (1 + m), .i (r % 4)]
abbrev Z27 (c d jn : Int) (rs : List (List Int)) (k : Nat) (e g j m r : Int) : Nat → OSt := (updO (updO (updO (updO noOb 1 (.live ⟨(Z28 c d jn rs k e g j m r), 33, 1⟩)) 2 (.live ⟨(Z2c c d e g j m r jn rs), 25, 1⟩)) 3 (.live ⟨[vN, vN, vN, vN, vN, .i 0, .i 0, .i 0, .i 0, .i 0], 33, 1⟩)) 4 (.live ⟨(enc eIL (routesK (mkSecs c d) (mkPts c) rs k)), 42, 1⟩))
theorem r05_Full (c d e g j m r jn : Int) (rs : List (List Int)) (hf : 0 ≤ c ∧ c ≤ 255) (hl : 0 ≤ d ∧ d ≤ 255) (hs : 0 ≤ e ∧ e ≤ 255) (hm : 0 ≤ g ∧ g ≤ 65535) (hw : 0 ≤ j ∧ j ≤ 65535) (hc : 0 ≤ m ∧ m ≤ 255) (hy : 0 ≤ r ∧ r ≤ 255) (hj : 0 ≤ jn ∧ jn ≤ 255) (hn : rs.length ≤ 65536) (hx : ∀ x, x ∈ rs → x.length ≤ 65536 ∧ ∀ y, y ∈ x → 0 ≤ y ∧ y ≤ 255) : Fn Try.prog 8 [.agg [.v (.int .u8 c), .v (.int .u8 d), .v (.int .u8 e), .v (.int .u16 g), .v (.int .u16 j), .v (.int .u8 m), .v (.int .u8 r), .v (.int .u8 jn), .ro rs.length (enc eUL rs)]] (.agg [.one, .ro ((mkSecs c d).length) (enc eSec (mkSecs c d)), .ro ((mkParts c jn).length) (enc eIL (mkParts c jn)), .ro ((mkPts c).length) (enc ePnt (mkPts c)), .ro ((fullRoutes c d rs).length) (enc eIL (fullRoutes c d rs)), .v (.int .i64 (1 + e % (2 * (10 * (1 + d % 20))))), .v (.int .i64 (1 + g % 1000)), .v (.int .i64 (1 + j % 1000)), .v (.int .i64 (1 + m)), .v (.int .i64 (r % 4))]) := by
 have hel := mkEnds_len c
 have hsl := mkSecs_len c d
 have hpl := mkPts_len c
 refine fnC_of_body (N := 63) Try.func8 rfl rfl (by simp) (fun w0 X hL_ => ?_)
 refine seqR ?_
 refine oG (qW 51 ?_)
 refine oG (aop_alloc 52 rfl rfl rfl rfl ze33 rfl ?_)
 refine op0 ?_
 refine seqR ?_
 refine oG (qLB (Z2c c d e g j m r jn rs) ag25 sz25 ?_)
 refine oG (qC (r04_Make c d e g j m r jn oo oo oo oo oo oo oo oo) bd19 ?_)
 refine oG (aop_alloc 53 rfl rfl rfl rfl ze33 rfl ?_)
 refine oG (qS sz33 ?_)
 refine rU (upd (upd (upd none_ 1 (.pt 51 0)) 2 (.pt 52 0)) 3 (.pt 53 0)) (updO (updO (updO (updO noOb 51 (.live ⟨(Z2c c d e g j m r jn rs), 25, 1⟩)) 52 (.live ⟨[vN, vN, vN, vN, vN, .i 0, .i 0, .i 0, .i 0, .i 0], 33, 1⟩)) 53 (.live ⟨[vN, vN, vN, vN, vN, .i 0, .i 0, .i 0, .i 0, .i 0], 33, 1⟩)) 53 (.live ⟨[.one, .q eSec (mkSecs c d), .q eIL (mkParts c jn), .q ePnt (mkPts c), vN, .i (1 + e % (2 * (10 * (1 + d % 20)))), .i (1 + g % 1000), .i (1 + j % 1000), .i (1 + m), .i (r % 4)], 33, 1⟩)) ?_
 refine awp_seq ?_
 refine seqR ?_
 refine mG (.i 0) ?_
 refine op0 ?_
 refine awp_block ?_
 refine awp_countI (fun k => ⟨(Z2a k), (Z27 c d jn rs k e g j m r)⟩) (fun k => True) (rs.length) ?_ trivial (fun k hk_k hinv => ?_)
 ·skip
  refine (imp_adoptC 53 4 54 42 1 rfl rfl rfl rfl).trans ?_
  exact iL [(53, 1), (51, 2), (52, 3), (54, 4)] [((53, 1), .live _), ((51, 2), .live _), ((52, 3), .live _), ((54, 4), .live _)] ⟨row_map (o := ⟨[.one, .q eSec (mkSecs c d), .q eIL (mkParts c jn), .q ePnt (mkPts c), .sl 54 0 0, .i (1 + e % (2 * (10 * (1 + d % 20)))), .i (1 + g % 1000), .i (1 + j % 1000), .i (1 + m), .i (r % 4)], 33, 1⟩) rfl (om_ (lm_cons (am_no (a := .one)) (lm_cons (am_no (a := .q eSec (mkSecs c d))) (lm_cons (am_no (a := .q eIL (mkParts c jn))) (lm_cons (am_no (a := .q ePnt (mkPts c))) (lm_cons rfl (lm_cons (am_no (a := .i (1 + e % (2 * (10 * (1 + d % 20)))))) (lm_cons (am_no (a := .i (1 + g % 1000))) (lm_cons (am_no (a := .i (1 + j % 1000))) (lm_cons (am_no (a := .i (1 + m))) (lm_cons (am_no (a := .i (r % 4))) lm_nil))))))))))) (oks_cons (ok_no (a := .one)) (oks_cons (ok_no (a := .q eSec (mkSecs c d))) (oks_cons (ok_no (a := .q eIL (mkParts c jn))) (oks_cons (ok_no (a := .q ePnt (mkPts c))) (oks_cons (.sl _ _ _ (by simp)) (oks_cons (ok_no (a := .i (1 + e % (2 * (10 * (1 + d % 20)))))) (oks_cons (ok_no (a := .i (1 + g % 1000))) (oks_cons (ok_no (a := .i (1 + j % 1000))) (oks_cons (ok_no (a := .i (1 + m))) (oks_cons (ok_no (a := .i (r % 4))) oks_nil)))))))))), row_no rfl rfl, row_no rfl rfl, row_no (o := ⟨[], 42, 1⟩) rfl rfl, trivial⟩
 have hrk := routesK_len (mkSecs c d) (mkPts c) rs k
 refine awp_seq ?_
 refine seqR ?_
 refine mG (.i (k : Int)) ?_
 refine fG (.pt 2 8) ft25_8 sz23 ?_
 refine oG (qL (.q eUL rs) ag23 ?_)
 refine oG (qN ut23 ?_)
 refine bG ((.bool (decide ((k : Int) < (rs.length : Int))))) ?_
 refine mG (.b (decide ((k : Int) < (rs.length : Int)))) ?_
 refine aops_grp 5 19 (.b ((decide ((k : Int) < (rs.length : Int))) && (decide (((routesK (mkSecs c d) (mkPts c) rs k).length : Int) < 16)))) ?_ ?_
 ·refine (Bool.eq_false_or_eq_true (decide ((k : Int) < (rs.length : Int)))).elim (fun hg1 => ?_) (fun hg1 => ?_)
  ·skip
   have hf2 := of_decide_eq_true hg1
   refine oY hg1 (qF (.pt 1 0) (.pt 1 4) ft33_4 sz30 ?_)
   refine oY hg1 (qL (.sl 4 0 ((routesK (mkSecs c d) (mkPts c) rs k).length)) ag30 ?_)
   refine oY hg1 (aop_len rfl rfl rfl rfl ut30 (len_sl rfl) ?_)
   refine oY hg1 (qB (.bool (decide (((routesK (mkSecs c d) (mkPts c) rs k).length : Int) < 16))) rfl ?_)
   refine oG (qP (decide ((k : Int) < (rs.length : Int))) (.b (decide (((routesK (mkSecs c d) (mkPts c) rs k).length : Int) < 16))) hg1 ?_)
   refine op0 ?_
   exact imp_env (lee_both 19 _ _ (by rw [hg1] <;> rfl) lO)
  have hf3 := of_decide_eq_false hg1
  refine nG hg1 ?_
  refine nG hg1 ?_
  refine nG hg1 ?_
  refine nG hg1 ?_
  refine oG (qP (decide ((k : Int) < (rs.length : Int))) (.b false) hg1 ?_)
  refine op0 ?_
  exact imp_env (lee_both 19 _ _ (by rw [hg1] <;> rfl) lO)
 refine op0 ?_
 refine rT (upd (Z2a k) 19 (.b ((decide ((k : Int) < (rs.length : Int))) && (decide (((routesK (mkSecs c d) (mkPts c) rs k).length : Int) < 16))))) (Z27 c d jn rs k e g j m r) ?_
 refine awp_cond ((decide ((k : Int) < (rs.length : Int))) && (decide (((routesK (mkSecs c d) (mkPts c) rs k).length : Int) < 16))) rfl rfl (fun hc0 => ?_) (fun hc0 => ?_)
 ·skip
  obtain ⟨hf4a, hf4b⟩ := and_t hc0
  have hf5 := of_decide_eq_true hf4a
  have hf6 := of_decide_eq_true hf4b
  have hkr : k < rs.length := by simp at hc0; omega
  have hr16 : (routesK (mkSecs c d) (mkPts c) rs k).length < 16 := by simp at hc0; omega
  have hxk := hx _ (getD_mem [] hkr)
  refine awp_skip ?_
  refine awp_seq ?_
  refine awp_block ?_
  refine seqR ?_
  refine fG (.pt 2 8) ft25_8 sz23 ?_
  refine oG (qL (.q eUL rs) ag23 ?_)
  refine mG (.i (k : Int)) ?_
  refine oG (qX [] ut23 sz37 ?_)
  refine oG (qL (.q eU8 (rs.getD k [])) ag37 ?_)
  refine mG (.q eU8 (rs.getD k [])) ?_
  refine rU (upd (Z2a k) 5 (.q eU8 (rs.getD k []))) (Z27 c d jn rs k e g j m r) ?_
  refine awp_seq ?_
  refine seqR ?_
  refine mG (.q eU8 (rs.getD k [])) ?_
  refine oG (qN ut37 ?_)
  refine bG ((.bool (decide (((rs.getD k []).length : Int) < 2)))) ?_
  refine op0 ?_
  refine awp_cond (decide (((rs.getD k []).length : Int) < 2)) rfl rfl (fun hc1 => ?_) (fun hc1 => ?_)
  ·skip
   have hf7 := of_decide_eq_true hc1
   refine awp_exit ?_
   refine regR ?_
   refine mG (.i (k : Int)) ?_
   refine oG (qB (.int .i64 ((k + 1 : Nat) : Int)) (addN om) ?_)
   refine mG (.i ((k + 1 : Nat) : Int)) ?_
   refine op0 ?_
   show _ ∧ _
   have hs_ := routesK_skip (secs := (mkSecs c d)) (pts := (mkPts c)) (rs := rs) (k := k) (.inl (by simp at hc1; omega))
   refine ⟨by omega, trivial, ?_⟩
   exact iL [(1, 1), (2, 2), (3, 3), (4, 4)] [((1, 1), .live _), ((2, 2), .live _), ((3, 3), .live _), ((4, 4), .live _)] ⟨row_map (o := ⟨(Z28 c d jn rs k e g j m r), 33, 1⟩) rfl (by (try simp only [Z2c, Z2b, Z28]); rw [hs_]; exact (om_ (lm_cons (am_no (a := .one)) (lm_cons (am_no (a := .q eSec (mkSecs c d))) (lm_cons (am_no (a := .q eIL (mkParts c jn))) (lm_cons (am_no (a := .q ePnt (mkPts c))) (lm_cons rfl (lm_cons (am_no (a := .i (1 + e % (2 * (10 * (1 + d % 20)))))) (lm_cons (am_no (a := .i (1 + g % 1000))) (lm_cons (am_no (a := .i (1 + j % 1000))) (lm_cons (am_no (a := .i (1 + m))) (lm_cons (am_no (a := .i (r % 4))) lm_nil)))))))))))) (oks_cons (ok_no (a := .one)) (oks_cons (ok_no (a := .q eSec (mkSecs c d))) (oks_cons (ok_no (a := .q eIL (mkParts c jn))) (oks_cons (ok_no (a := .q ePnt (mkPts c))) (oks_cons (.sl _ _ _ (by simp)) (oks_cons (ok_no (a := .i (1 + e % (2 * (10 * (1 + d % 20)))))) (oks_cons (ok_no (a := .i (1 + g % 1000))) (oks_cons (ok_no (a := .i (1 + j % 1000))) (oks_cons (ok_no (a := .i (1 + m))) (oks_cons (ok_no (a := .i (r % 4))) oks_nil)))))))))), row_no rfl rfl, row_no rfl rfl, row_no rfl (by exact congrArg (fun l_ => LObj.mk (enc eIL l_) 42 1) hs_), trivial⟩
  have hf8 := of_decide_eq_false hc1
  have hx2 : ¬ (rs.getD k []).length < 2 := by simp at hc1; omega
  have hx0 := hxk.2 _ (getD_mem (l := (rs.getD k [])) (k := 0) 0 om)
  have hx1 := hxk.2 _ (getD_mem (l := (rs.getD k [])) (k := 1) 0 om)
  have hxd : ∀ y, y ∈ (rs.getD k []).drop 2 → 0 ≤ y ∧ y ≤ 255 := fun y hy => hxk.2 y (List.mem_of_mem_drop hy)
  have hmd := modB (a := (rs.getD k []).getD 0 0) (b := ((mkSecs c d).length : Int)) om
  refine awp_skip ?_
  refine awp_seq ?_
  refine aD 23 [(52, .q eI (walkL (mkSecs c d) (mkPts c) (((rs.getD k []).getD 0 0) % ((mkSecs c d).length : Int)) (((rs.getD k []).getD 0 0) / 128) ((rs.getD k []).drop 2) (2 + (((rs.getD k []).getD 1 0) % 5)))), (51, .i (2 + (((rs.getD k []).getD 1 0) % 5))), (50, .i (((rs.getD k []).getD 1 0) % 5)), (49, .v (.int .u8 (((rs.getD k []).getD 1 0) % 5))), (48, .v (.int .u8 ((rs.getD k []).getD 1 0))), (47, .rp (([.v (.int .u8 ((rs.getD k []).getD 1 0))] : List AV) ++ ((enc eU8 (rs.getD k [])).drop ((1 + 1) * 1)))), (46, .q eU8 (rs.getD k [])), (45, .q eU8 ((rs.getD k []).drop 2)), (44, .q eU8 (rs.getD k [])), (43, .i (((rs.getD k []).getD 0 0) / 128)), (42, .v (.int .u8 (((rs.getD k []).getD 0 0) / 128))), (41, .v (.int .u8 ((rs.getD k []).getD 0 0))), (40, .rp (([.v (.int .u8 ((rs.getD k []).getD 0 0))] : List AV) ++ ((enc eU8 (rs.getD k [])).drop ((0 + 1) * 1)))), (39, .q eU8 (rs.getD k [])), (38, .i (((rs.getD k []).getD 0 0) % ((mkSecs c d).length : Int))), (37, .i ((mkSecs c d).length : Int)), (36, .q eSec (mkSecs c d)), (35, .pt 1 1), (34, .i ((rs.getD k []).getD 0 0)), (33, .v (.int .u8 ((rs.getD k []).getD 0 0))), (32, .rp (([.v (.int .u8 ((rs.getD k []).getD 0 0))] : List AV) ++ ((enc eU8 (rs.getD k [])).drop ((0 + 1) * 1)))), (31, .q eU8 (rs.getD k [])), (30, .agg (Z28 c d jn rs k e g j m r))] mixed ?_ ?_
  ·iterate 23 (refine ⟨?_, ?_⟩; rotate_left)
   trivial
   ·exact sLB (Z28 c d jn rs k e g j m r) ag33 sz33
   ·exact sMv
   ·exact dW 32 fun st hob hE => aop_ixE (k := 0) 0 rfl rfl rfl ut37 sz5 (hE 31 rfl) rfl (fun _ => rfl) rfl oo (by rw [hob]; rfl)
   ·exact (sLd ag5)
   ·exact dW 34 fun st hob hE => aop_conv' rfl rfl rfl ut5 ut3 (hE 33 rfl) (IntWalk.i64_in _ om) (by rw [hob]; rfl)
   ·exact sF (.pt 1 0) (.pt 1 1) ft33_1 sz29
   ·exact sL ag29
   ·exact dW 37 fun st hob hE => aop_len rfl rfl rfl rfl ut29 (len_ro (hE 36 rfl)) (by rw [hob]; rfl)
   ·exact dW 38 fun st hob hE => aop_binI (u := (.int .i64 (((rs.getD k []).getD 0 0) % ((mkSecs c d).length : Int)))) rfl rfl rfl (hE 34 rfl) (hE 37 rfl) (by show _ ≠ _; omega) (remI om) (by rw [hob]; rfl)
   ·exact sMv
   ·exact dW 40 fun st hob hE => aop_ixE (k := 0) 0 rfl rfl rfl ut37 sz5 (hE 39 rfl) rfl (fun _ => rfl) rfl oo (by rw [hob]; rfl)
   ·exact (sLd ag5)
   ·exact dW 42 fun st hob hE => aop_binI (u := (.int .u8 (((rs.getD k []).getD 0 0) / 128))) rfl rfl rfl (hE 41 rfl) rfl (by show _ ≠ _; decide) (quoU8 om) (by rw [hob]; rfl)
   ·exact dW 43 fun st hob hE => aop_conv' rfl rfl rfl ut5 ut3 (hE 42 rfl) (IntWalk.i64_in _ om) (by rw [hob]; rfl)
   ·exact sMv
   ·exact dW 45 fun st hob hE => aop_sliceRoN (l := 2) (hgh := ((rs.getD k []).length)) (cells' := enc eU8 ((rs.getD k []).drop 2)) (((rs.getD k []).drop 2)).length rfl rfl rfl ut37 sz5 (hE 44 rfl) ⟨_, rfl⟩ rfl oo oo (sliceE1 (f := eU8) (fun _ => rfl) _ _ _ rfl) oz (by rw [hob]; rfl)
   ·exact sMv
   ·exact dW 47 fun st hob hE => aop_ixE (k := 1) 0 rfl rfl rfl ut37 sz5 (hE 46 rfl) rfl (fun _ => rfl) rfl oo (by rw [hob]; rfl)
   ·exact (sLd ag5)
   ·exact dW 49 fun st hob hE => aop_binI (u := (.int .u8 (((rs.getD k []).getD 1 0) % 5))) rfl rfl rfl (hE 48 rfl) rfl (by show _ ≠ _; decide) (remI om) (by rw [hob]; rfl)
   ·exact dW 50 fun st hob hE => aop_conv' rfl rfl rfl ut5 ut3 (hE 49 rfl) (IntWalk.i64_in _ om) (by rw [hob]; rfl)
   ·exact sB (.int .i64 (2 + (((rs.getD k []).getD 1 0) % 5))) (addI om)
   exact sC (r05_Walk (mkSecs c d) (mkPts c) _ _ ((rs.getD k []).drop 2) (2 + (rs.getD k []).getD 1 0 % 5) om om (by rw [List.length_drop]; omega) om hxd) bd20
  refine mG (Z29 c d rs k) ?_
  refine op0 ?_
  refine rT (upd (upd (Z2a k) 5 (.q eU8 (rs.getD k []))) 6 (Z29 c d rs k)) (Z27 c d jn rs k e g j m r) ?_
  refine seqR ?_
  refine mG (Z29 c d rs k) ?_
  refine oG (qN ut42 ?_)
  refine bG ((.bool (decide (((walkL (mkSecs c d) (mkPts c) (((rs.getD k []).getD 0 0) % ((mkSecs c d).length : Int)) (((rs.getD k []).getD 0 0) / 128) ((rs.getD k []).drop 2) (2 + (((rs.getD k []).getD 1 0) % 5))).length : Int) ≥ 2)))) ?_
  refine op0 ?_
  refine awp_cond (decide (((walkL (mkSecs c d) (mkPts c) (((rs.getD k []).getD 0 0) % ((mkSecs c d).length : Int)) (((rs.getD k []).getD 0 0) / 128) ((rs.getD k []).drop 2) (2 + (((rs.getD k []).getD 1 0) % 5))).length : Int) ≥ 2)) rfl rfl (fun hc2 => ?_) (fun hc2 => ?_)
  ·skip
   have hf9 := of_decide_eq_true hc2
   have hwl := walkL_len (mkSecs c d) (mkPts c) ((rs.getD k []).getD 0 0 % ((mkSecs c d).length : Int)) ((rs.getD k []).getD 0 0 / 128) ((rs.getD k []).drop 2) (2 + (rs.getD k []).getD 1 0 % 5)
   refine regR ?_
   refine fG (.pt 1 4) ft33_4 sz30 ?_
   refine oG (qL (.sl 4 0 ((routesK (mkSecs c d) (mkPts c) rs k).length)) ag30 ?_)
   refine mG (Z29 c d rs k) ?_
   refine oG (aop_lit rfl rfl rfl ut30 iz42 (by decide) (by decide) rfl rfl ?_)
   refine oG (aop_app1 (f := eIL) (l := routesK (mkSecs c d) (mkPts c) rs k) 55 (walkL (mkSecs c d) (mkPts c) (((rs.getD k []).getD 0 0) % ((mkSecs c d).length : Int)) (((rs.getD k []).getD 0 0) / 128) ((rs.getD k []).drop 2) (2 + (((rs.getD k []).getD 1 0) % 5)) : (List Int)) rfl rfl rfl rfl ut30 in42 rfl (by decide) rfl rfl rfl rfl rfl rfl (fun _ => rfl) rfl rfl oo oo rfl ?_)
   refine fG (.pt 1 4) ft33_4 sz30 ?_
   refine oG (qS sz30 ?_)
   refine op0 ?_
   refine rT (upd (upd (Z2a k) 5 (.q eU8 (rs.getD k []))) 6 (Z29 c d rs k)) (updO (updO (updO (Z27 c d jn rs k e g j m r) 4 .dead) 55 (.live ⟨(enc eIL ((routesK (mkSecs c d) (mkPts c) rs k) ++ [(walkL (mkSecs c d) (mkPts c) (((rs.getD k []).getD 0 0) % ((mkSecs c d).length : Int)) (((rs.getD k []).getD 0 0) / 128) ((rs.getD k []).drop 2) (2 + (((rs.getD k []).getD 1 0) % 5)) : (List Int))])), 42, 1⟩)) 1 (.live (Z2b c d jn rs k e g j m r))) ?_
   refine regR ?_
   refine mG (.i (k : Int)) ?_
   refine oG (qB (.int .i64 ((k + 1 : Nat) : Int)) (addN om) ?_)
   refine mG (.i ((k + 1 : Nat) : Int)) ?_
   refine op0 ?_
   show _ ∧ _
   have hs_ := routesK_add (secs := (mkSecs c d)) (pts := (mkPts c)) (rs := rs) (k := k) hr16 hx2 (by unfold routeOf; simp at hc2; omega)
   refine ⟨by omega, trivial, ?_⟩
   exact iL [(1, 1), (2, 2), (3, 3), (55, 4)] [((1, 1), .live _), ((2, 2), .live _), ((3, 3), .live _), ((55, 4), .live _)] ⟨row_map (o := (Z2b c d jn rs k e g j m r)) rfl (by (try simp only [Z2c, Z2b, Z28]); rw [hs_]; exact (om_ (lm_cons (am_no (a := .one)) (lm_cons (am_no (a := .q eSec (mkSecs c d))) (lm_cons (am_no (a := .q eIL (mkParts c jn))) (lm_cons (am_no (a := .q ePnt (mkPts c))) (lm_cons rfl (lm_cons (am_no (a := .i (1 + e % (2 * (10 * (1 + d % 20)))))) (lm_cons (am_no (a := .i (1 + g % 1000))) (lm_cons (am_no (a := .i (1 + j % 1000))) (lm_cons (am_no (a := .i (1 + m))) (lm_cons (am_no (a := .i (r % 4))) lm_nil)))))))))))) (oks_cons (ok_no (a := .one)) (oks_cons (ok_no (a := .q eSec (mkSecs c d))) (oks_cons (ok_no (a := .q eIL (mkParts c jn))) (oks_cons (ok_no (a := .q ePnt (mkPts c))) (oks_cons (.sl _ _ _ (by simp)) (oks_cons (ok_no (a := .i (1 + e % (2 * (10 * (1 + d % 20)))))) (oks_cons (ok_no (a := .i (1 + g % 1000))) (oks_cons (ok_no (a := .i (1 + j % 1000))) (oks_cons (ok_no (a := .i (1 + m))) (oks_cons (ok_no (a := .i (r % 4))) oks_nil)))))))))), row_no rfl rfl, row_no rfl rfl, row_no rfl (by exact congrArg (fun l_ => LObj.mk (enc eIL l_) 42 1) hs_), trivial⟩
  have hf10 := of_decide_eq_false hc2
  refine awp_skip ?_
  refine regR ?_
  refine mG (.i (k : Int)) ?_
  refine oG (qB (.int .i64 ((k + 1 : Nat) : Int)) (addN om) ?_)
  refine mG (.i ((k + 1 : Nat) : Int)) ?_
  refine op0 ?_
  show _ ∧ _
  have hs_ := routesK_skip (secs := (mkSecs c d)) (pts := (mkPts c)) (rs := rs) (k := k) (.inr (by unfold routeOf; simp at hc2; omega))
  refine ⟨by omega, trivial, ?_⟩
  exact iL [(1, 1), (2, 2), (3, 3), (4, 4)] [((1, 1), .live _), ((2, 2), .live _), ((3, 3), .live _), ((4, 4), .live _)] ⟨row_map (o := ⟨(Z28 c d jn rs k e g j m r), 33, 1⟩) rfl (by (try simp only [Z2c, Z2b, Z28]); rw [hs_]; exact (om_ (lm_cons (am_no (a := .one)) (lm_cons (am_no (a := .q eSec (mkSecs c d))) (lm_cons (am_no (a := .q eIL (mkParts c jn))) (lm_cons (am_no (a := .q ePnt (mkPts c))) (lm_cons rfl (lm_cons (am_no (a := .i (1 + e % (2 * (10 * (1 + d % 20)))))) (lm_cons (am_no (a := .i (1 + g % 1000))) (lm_cons (am_no (a := .i (1 + j % 1000))) (lm_cons (am_no (a := .i (1 + m))) (lm_cons (am_no (a := .i (r % 4))) lm_nil)))))))))))) (oks_cons (ok_no (a := .one)) (oks_cons (ok_no (a := .q eSec (mkSecs c d))) (oks_cons (ok_no (a := .q eIL (mkParts c jn))) (oks_cons (ok_no (a := .q ePnt (mkPts c))) (oks_cons (.sl _ _ _ (by simp)) (oks_cons (ok_no (a := .i (1 + e % (2 * (10 * (1 + d % 20)))))) (oks_cons (ok_no (a := .i (1 + g % 1000))) (oks_cons (ok_no (a := .i (1 + j % 1000))) (oks_cons (ok_no (a := .i (1 + m))) (oks_cons (ok_no (a := .i (r % 4))) oks_nil)))))))))), row_no rfl rfl, row_no rfl rfl, row_no rfl (by exact congrArg (fun l_ => LObj.mk (enc eIL l_) 42 1) hs_), trivial⟩
 have hex : (routesK (mkSecs c d) (mkPts c) rs k).length ≥ 16 ∨ rs.length ≤ k := (Nat.lt_or_ge k rs.length).elim (fun h => .inl (by simp [h] at hc0; omega)) .inr
 refine awp_exit ?_
 refine seqR ?_
 refine oG (qLB (Z28 c d jn rs k e g j m r) ag33 sz33 ?_)
 refine oG (qS sz33 ?_)
 refine op0 ?_
 refine awp_imp _ ((frz_ [3] [(3, ⟨[.one, .q eSec (mkSecs c d), .q eIL (mkParts c jn), .q ePnt (mkPts c), .q eIL (routesK (mkSecs c d) (mkPts c) rs k), .i (1 + e % (2 * (10 * (1 + d % 20)))), .i (1 + g % 1000), .i (1 + j % 1000), .i (1 + m), .i (r % 4)], 33, 1⟩)] rfl (fun _ h => h) ⟨keep_cells (cs := (Z28 c d jn rs k e g j m r)) (by simp) rfl rfl (frzs_cons (.inl rfl) (frzs_cons (.inl rfl) (frzs_cons (.inl rfl) (frzs_cons (.inl rfl) (frzs_cons (.inr (lend_s (id := 4) (n := (routesK (mkSecs c d) (mkPts c) rs k).length) (o := ⟨(enc eIL (routesK (mkSecs c d) (mkPts c) rs k)), 42, 1⟩) rfl (enc_len (fun _ => rfl) (by first | rfl | (simp; done))))) fzA))))), trivial⟩ (fz_same 2 (.pt 3 0) rfl fz_none))) ?_
 refine awp_ret ?_
 exact fretC (p := 2) rfl rfl ag33 sz33 rfl rfl (Nat.le_of_ble_eq_true rfl) rfl (by rw [← fullRoutes_end (k := k) om hex]; rfl)
theorem ag101 : aggT Try.prog 101 = some false := by kernel_rfl
theorem ag98 : aggT Try.prog 98 = some true := by kernel_rfl
theorem bd41 : bodied Try.prog 41 = true := by kernel_rfl
theorem bd69 : bodied Try.prog 69 = true := by kernel_rfl
theorem bd78 : bodied Try.prog 78 = true := by kernel_rfl
theorem bd79 : bodied Try.prog 79 = true := by kernel_rfl
theorem bd80 : bodied Try.prog 80 = true := by kernel_rfl
theorem bd81 : bodied Try.prog 81 = true := by kernel_rfl
theorem bd82 : bodied Try.prog 82 = true := by kernel_rfl
theorem bd83 : bodied Try.prog 83 = true := by kernel_rfl
theorem bd84 : bodied Try.prog 84 = true := by kernel_rfl
theorem bd85 : bodied Try.prog 85 = true := by kernel_rfl
theorem bd86 : bodied Try.prog 86 = true := by kernel_rfl
theorem bd87 : bodied Try.prog 87 = true := by kernel_rfl
theorem bd88 : bodied Try.prog 88 = true := by kernel_rfl
theorem ft104_0 : fieldT Try.prog 104 0 = some (33, 0) := by kernel_rfl
theorem iz101 : (Try.prog.info? 101).map (fun i => (i.zero, i.size)) = some (some (.slice none 0 0), 1) := by kernel_rfl
theorem sz101 : (Try.prog.info? 101).map (·.size) = some 1 := by kernel_rfl
theorem ut152 : Try.prog.underlying 152 = some (.slice 101) := by kernel_rfl
theorem ut61 : Try.prog.underlying 61 = some (.pointer 104) := by kernel_rfl
theorem ze98 : (Try.prog.info? 98).bind (·.zero) = some (.agg #[(.int .i64 0), (.int .i64 0), (.int .i64 0)]) := by kernel_rfl
abbrev Z2g (c : List Sec) : AV := (.rp [.q eSec c, .one, .one, .one, .one, .one, .one, .one, .one])
abbrev Z2f : LObj := ⟨[.i 0, .i 0, .i 0], 98, 1⟩
abbrev Z2e (c : List Sec) (s : Int) : List AV := [.i ((c.getD s.toNat dS).len), .i ((c.getD s.toNat dS).a), .i ((c.getD s.toNat dS).b)]
abbrev Z2d (c : List Sec) : AV := (.rp [.one, .q eSec c, .one, .one, .one, .one, .one, .one, .one, .one])
theorem g_section (c : List Sec) (s : Int) (hs : c.length ≤ 65536) : Fn Try.prog 85 [.rp [.one, .ro c.length (enc eSec c), .one, .one, .one, .one, .one, .one, .one, .one], .v (.int .i64 s)] (.tup [.agg [.v (.int .i64 ((secV c s).len)), .v (.int .i64 ((secV c s).a)), .v (.int .i64 ((secV c s).b))], .v (.bool (!noSec c s))]) := by
 refine fnC_of_body (N := 31) Try.func85 rfl rfl (by simp) (fun w0 X hL_ => ?_)
 refine seqR ?_
 refine oG (aop_alloc 51 rfl rfl rfl rfl ze98 rfl ?_)
 refine mG (.b false) ?_
 refine op0 ?_
 refine awp_seq ?_
 refine seqR ?_
 refine mG (Z2d c) ?_
 refine oG (aop_ptNil rfl rfl rfl ut61 rfl rfl rfl (.inl ⟨rfl, rfl⟩) ?_)
 refine mG (.b false) ?_
 refine opY rfl rfl rfl rfl (aop_move (av := .i s) (.inl rfl) rfl rfl rfl ?_)
 refine opY rfl rfl rfl rfl (aop_binI (u := (.bool (decide (s < 0)))) rfl rfl rfl rfl rfl trivial rfl ?_)
 refine oG (aop_pick (b := false) (av := .b (decide (s < 0))) rfl rfl rfl rfl rfl ?_)
 refine mG (.b (decide (s < 0))) ?_
 refine aops_grp 9 21 (.b ((decide (s < 0)) || (decide (s ≥ (c.length : Int))))) ?_ ?_
 ·refine (Bool.eq_false_or_eq_true (decide (s < 0))).elim (fun hg1 => ?_) (fun hg1 => ?_)
  ·skip
   have hf2 := of_decide_eq_true hg1
   refine nG hg1 ?_
   refine nG hg1 ?_
   refine nG hg1 ?_
   refine nG hg1 ?_
   refine nG hg1 ?_
   refine nG hg1 ?_
   refine nG hg1 ?_
   refine nG hg1 ?_
   refine oG (qP (decide (s < 0)) (.b true) hg1 ?_)
   refine op0 ?_
   exact imp_env (lee_both 21 _ _ (by rw [hg1] <;> rfl) lO)
  have hf3 := of_decide_eq_false hg1
  refine oY hg1 (qM (.i s) ?_)
  refine oY hg1 (qM (Z2d c) ?_)
  refine oY hg1 (aop_nilCheck rfl rfl rfl rfl rfl ?_)
  refine oY hg1 (qF (Z2d c) (Z2d c) ft104_0 sz33 ?_)
  refine oY hg1 (qF (Z2d c) (Z2g c) ft33_1 sz29 ?_)
  refine oY hg1 (qL (.q eSec c) ag29 ?_)
  refine oY hg1 (qN ut29 ?_)
  refine oY hg1 (qB (.bool (decide (s ≥ (c.length : Int)))) rfl ?_)
  refine oG (qP (decide (s < 0)) (.b (decide (s ≥ (c.length : Int)))) hg1 ?_)
  refine op0 ?_
  exact imp_env (lee_both 21 _ _ (by rw [hg1] <;> rfl) lO)
 refine op0 ?_
 refine rT (upd (upd (upd (upd (upd none_ 0 (Z2d c)) 1 (.i s)) 4 (.pt 51 0)) 5 (.b false)) 21 (.b ((decide (s < 0)) || (decide (s ≥ (c.length : Int)))))) (updO noOb 51 (.live Z2f)) ?_
 refine awp_cond ((decide (s < 0)) || (decide (s ≥ (c.length : Int)))) rfl rfl (fun hc0 => ?_) (fun hc0 => ?_)
 ·skip
  have hn : noSec c s = true := hc0
  refine seqR ?_
  refine oG (qD pl98 ?_)
  refine oG (qS sz98 ?_)
  refine mG (.b false) ?_
  refine op0 ?_
  refine awp_imp _ ((frz_ [51] [(51, Z2f)] rfl (fun _ h => h) ⟨keep_cells (cs := [.i 0, .i 0, .i 0]) (by simp) rfl rfl fzA, trivial⟩ (fz_same 5 (.b false) rfl (fz_same 4 (.pt 51 0) rfl fz_none)))) ?_
  refine awp_ret ?_
  exact fretC2 (p := 4) (q := 5) rfl rfl ag98 sz98 rfl rfl (Nat.le_of_ble_eq_true rfl) rfl rfl rfl (by rw [secV_no hn, hn]; rfl)
 obtain ⟨hf4a, hf4b⟩ := or_f hc0
 have hf5 := of_decide_eq_false hf4a
 have hf6 := of_decide_eq_false hf4b
 have hn : noSec c s = false := hc0
 have hb := noSec_false hn
 refine awp_skip ?_
 refine seqR ?_
 refine mG (Z2d c) ?_
 refine oG (aop_nilCheck rfl rfl rfl rfl rfl ?_)
 refine oG (qF (Z2d c) (Z2d c) ft104_0 sz33 ?_)
 refine oG (qF (Z2d c) (Z2g c) ft33_1 sz29 ?_)
 refine oG (qL (.q eSec c) ag29 ?_)
 refine mG (.i s) ?_
 refine oG (aop_ixI dS rfl rfl rfl ut29 sz98 rfl rfl (fun _ => rfl) rfl om oo ?_)
 refine oG (qLB (Z2e c s) ag98 sz98 ?_)
 refine oG (qS sz98 ?_)
 refine mG (.b true) ?_
 refine rU (upd (upd none_ 4 (.pt 51 0)) 5 (.b true)) (updO (updO noOb 51 (.live Z2f)) 51 (.live ⟨(Z2e c s), 98, 1⟩)) ?_
 refine awp_imp _ ((frz_ [51] [(51, ⟨(Z2e c s), 98, 1⟩)] rfl (fun _ h => h) ⟨keep_cells (cs := (Z2e c s)) (by simp) rfl rfl fzA, trivial⟩ (fz_same 5 (.b true) rfl (fz_same 4 (.pt 51 0) rfl fz_none)))) ?_
 refine awp_ret ?_
 exact fretC2 (p := 4) (q := 5) rfl rfl ag98 sz98 rfl rfl (Nat.le_of_ble_eq_true rfl) rfl rfl rfl (by rw [secV_yes hn, hn]; rfl)
abbrev Z2h (s e : Int) (c : List Sec) : Nat → OSt := (updO (updO (updO noOb 51 (.live ⟨[.i s, .i e], 100, 1⟩)) 52 (.live ⟨[.i 0, .i 0, .i 0], 98, 1⟩)) 52 (.live ⟨[.i ((secV c s).len), .i ((secV c s).a), .i ((secV c s).b)], 98, 1⟩))
theorem g_node (c : List Sec) (s e : Int) (hs : c.length ≤ 65536) : Fn Try.prog 78 [.rp [.one, .ro c.length (enc eSec c), .one, .one, .one, .one, .one, .one, .one, .one], .agg [.v (.int .i64 s), .v (.int .i64 e)]] (.tup [.v (.int .i64 (nodeA c s e)), .v (.bool (!noNode c s e))]) := by
 refine fnE_of_body (N := 33) Try.func78 rfl rfl (resOf2 rfl) (by simp) (fun w0 X hL_ => ?_)
 refine seqR ?_
 refine oG (qW 51 ?_)
 refine mG (.i 0) ?_
 refine mG (.b false) ?_
 refine op0 ?_
 refine seqR ?_
 refine mG (.rp [.one, .q eSec c, .one, .one, .one, .one, .one, .one, .one, .one]) ?_
 refine fG (.pt 51 0) ft100_0 sz3 ?_
 refine oG (qL (.i s) ag3 ?_)
 refine oG (qJ (g_section c s oo) bd85 ?_)
 refine mG (.tup [.agg [.i ((secV c s).len), .i ((secV c s).a), .i ((secV c s).b)], .b (!noSec c s)]) ?_
 refine oG (qE ?_)
 refine oG (qE ?_)
 refine oG (aop_alloc 52 rfl rfl rfl rfl ze98 rfl ?_)
 refine oG (qS sz98 ?_)
 refine mG (.b (!noSec c s)) ?_
 refine rU (upd (upd (upd (upd (upd none_ 3 (.pt 51 0)) 4 (.i 0)) 5 (.b false)) 6 (.pt 52 0)) 7 (.b (!noSec c s))) (Z2h s e c) ?_
 refine awp_seq ?_
 refine awp_block ?_
 refine seqR ?_
 refine mG (.b (!noSec c s)) ?_
 refine mG (.b (!noSec c s)) ?_
 refine aops_grp 4 21 (.b ((!noSec c s) && (e == 0))) ?_ ?_
 ·refine (Bool.eq_false_or_eq_true (!noSec c s)).elim (fun hg1 => ?_) (fun hg1 => ?_)
  ·skip
   refine oY hg1 (qF (.pt 51 0) (.pt 51 1) ft100_1 sz3 ?_)
   refine oY hg1 (qL (.i e) ag3 ?_)
   refine oY hg1 (qB (.bool (e == 0)) rfl ?_)
   refine oG (qP (!noSec c s) (.b (e == 0)) hg1 ?_)
   refine op0 ?_
   exact imp_env (lee_both 21 _ _ (by rw [hg1] <;> rfl) lO)
  refine nG hg1 ?_
  refine nG hg1 ?_
  refine nG hg1 ?_
  refine oG (qP (!noSec c s) (.b false) hg1 ?_)
  refine op0 ?_
  exact imp_env (lee_both 21 _ _ (by rw [hg1] <;> rfl) lO)
 refine mG (.b ((!noSec c s) && (e == 0))) ?_
 refine op0 ?_
 refine awp_cond ((!noSec c s) && (e == 0)) rfl rfl (fun hc0 => ?_) (fun hc0 => ?_)
 ·skip
  obtain ⟨hf2a, hf2b⟩ := and_t hc0
  have hf3 := (beq_iff_eq).1 hf2b
  have hq : noSec c s = false ∧ e = 0 := by simpa using hc0
  have hn := node_0 hq.1 hq.2
  refine seqR ?_
  refine fG (.pt 52 1) ft98_1 sz3 ?_
  refine oG (qL (.i ((secV c s).a)) ag3 ?_)
  refine mG (.i ((secV c s).a)) ?_
  refine mG (.b true) ?_
  refine rU (upd (upd none_ 4 (.i ((secV c s).a))) 5 (.b true)) (Z2h s e c) ?_
  refine awp_ret ?_
  exact fret (av := .tup [.v (.int .i64 ((secV c s).a)), .v (.bool true)]) rfl rfl (by rw [hn.1, hn.2]; rfl)
 have hq : ¬ (noSec c s = false ∧ e = 0) := by simpa using hc0
 refine seqR ?_
 refine mG (.b (!noSec c s)) ?_
 refine mG (.b (!noSec c s)) ?_
 refine aops_grp 4 30 (.b ((!noSec c s) && (e == 1))) ?_ ?_
 ·refine (Bool.eq_false_or_eq_true (!noSec c s)).elim (fun hg4 => ?_) (fun hg4 => ?_)
  ·skip
   refine oY hg4 (qF (.pt 51 0) (.pt 51 1) ft100_1 sz3 ?_)
   refine oY hg4 (qL (.i e) ag3 ?_)
   refine oY hg4 (qB (.bool (e == 1)) rfl ?_)
   refine oG (qP (!noSec c s) (.b (e == 1)) hg4 ?_)
   refine op0 ?_
   exact imp_env (lee_both 30 _ _ (by rw [hg4] <;> rfl) lO)
  refine nG hg4 ?_
  refine nG hg4 ?_
  refine nG hg4 ?_
  refine oG (qP (!noSec c s) (.b false) hg4 ?_)
  refine op0 ?_
  exact imp_env (lee_both 30 _ _ (by rw [hg4] <;> rfl) lO)
 refine mG (.b ((!noSec c s) && (e == 1))) ?_
 refine op0 ?_
 refine rT (upd (upd (upd (upd none_ 4 (.i 0)) 5 (.b false)) 6 (.pt 52 0)) 24 (.b ((!noSec c s) && (e == 1)))) (Z2h s e c) ?_
 refine awp_cond ((!noSec c s) && (e == 1)) rfl rfl (fun hc1 => ?_) (fun hc1 => ?_)
 ·skip
  obtain ⟨hf5a, hf5b⟩ := and_t hc1
  have hf6 := (beq_iff_eq).1 hf5b
  have hq1 : noSec c s = false ∧ e = 1 := by simpa using hc1
  have hn := node_1 hq1.1 hq1.2
  refine seqR ?_
  refine fG (.pt 52 2) ft98_2 sz3 ?_
  refine oG (qL (.i ((secV c s).b)) ag3 ?_)
  refine mG (.i ((secV c s).b)) ?_
  refine mG (.b true) ?_
  refine rU (upd (upd none_ 4 (.i ((secV c s).b))) 5 (.b true)) (Z2h s e c) ?_
  refine awp_ret ?_
  exact fret (av := .tup [.v (.int .i64 ((secV c s).b)), .v (.bool true)]) rfl rfl (by rw [hn.1, hn.2]; rfl)
 have hq1 : ¬ (noSec c s = false ∧ e = 1) := by simpa using hc1
 have hn := node_no (secs := c) (s := s) (e := e) (by cases h : noSec c s with | true => exact .inl rfl | false => exact .inr ⟨fun x => hq ⟨h, x⟩, fun x => hq1 ⟨h, x⟩⟩)
 refine awp_skip ?_
 refine seqR ?_
 refine mG (.i 0) ?_
 refine mG (.b false) ?_
 refine op0 ?_
 refine awp_ret ?_
 exact fret (av := .tup [.v (.int .i64 0), .v (.bool false)]) rfl rfl (by rw [hn.1, hn.2]; rfl)
theorem g_Point1 (x n : Int)  : Fn Try.prog 87 [.agg [.v (.int .i64 x), .one, .one, .one], .rp [.v (.int .i64 n)]] (.v (.bool (decide (x = n)))) := by
 refine fnE_of_body (N := 8) Try.func87 rfl rfl (resOf1 rfl) (by simp) (fun w0 X hL_ => ?_)
 refine seqR ?_
 refine oG (qW 51 ?_)
 refine mG (.b false) ?_
 refine op0 ?_
 refine seqR ?_
 refine fG (.pt 51 0) ft96_0 sz3 ?_
 refine oG (qL (.i x) ag3 ?_)
 refine oG (qL (.i n) ag3 ?_)
 refine bG ((.bool (x == n))) ?_
 refine mG (.b (x == n)) ?_
 refine rU (upd none_ 3 (.b (x == n))) (updO noOb 51 (.live ⟨[.i x, .one, .one, .one], 96, 1⟩)) ?_
 refine awp_ret ?_
 exact fret (av := .v (.bool (x == n))) rfl rfl (by rfl)
abbrev Z2i (a : List Pnt) (n : Int) : Nat → AV := (upd (upd (upd none_ 0 (.q ePnt a)) 1 (.fn 87 [.rp [.i n]])) 4 (.i 0))
theorem ixPt (a : List Pnt) (n : Int) (hp : a.length ≤ 65536) : Fn Try.prog 86 [.ro a.length (enc ePnt a), .fn 87 [.rp [.v (.int .i64 n)]]] (.v (.int .i64 (pointI a n))) := by
 refine fnE_of_body (N := 19) Try.func86 rfl rfl (resOf1 rfl) (by simp) (fun w0 X hL_ => ?_)
 refine seqR ?_
 refine mG (.i 0) ?_
 refine op0 ?_
 refine awp_seq ?_
 refine seqR ?_
 refine mG (.q ePnt a) ?_
 refine oG (qN ut31 ?_)
 refine mG (.i 0) ?_
 refine rU (upd (upd (Z2i a n) 7 (.i (a.length : Int))) 8 (.i 0)) noOb ?_
 refine awp_block ?_
 refine awp_countI (fun k => ⟨(upd (upd (Z2i a n) 7 (.i (a.length : Int))) 8 (.i (k : Int))), noOb⟩) (fun k => (a.take k).any (fun p => decide (p.node = n)) = false) (a.length) ?_ (by simp) (fun k hk_k hinv => ?_)
 ·skip
  exact iN
 refine seqR ?_
 refine bG ((.bool (decide ((k : Int) < (a.length : Int))))) ?_
 refine op0 ?_
 refine awp_seq ?_
 refine awp_cond (decide ((k : Int) < (a.length : Int))) rfl rfl (fun hc0 => ?_) (fun hc0 => ?_)
 ·skip
  have hf1 := of_decide_eq_true hc0
  refine awp_skip ?_
  refine awp_seq ?_
  refine awp_block ?_
  refine seqR ?_
  refine mG (.i (k : Int)) ?_
  refine mG (.i (k : Int)) ?_
  refine op0 ?_
  refine seqR ?_
  refine mG (.fn 87 [.rp [.i n]]) ?_
  refine mG (.q ePnt a) ?_
  refine mG (.i (k : Int)) ?_
  refine oG (qX dP ut31 sz96 ?_)
  refine oG (qLB [.i ((a.getD k dP).node), .i ((a.getD k dP).stem), .i ((a.getD k dP).left), .i ((a.getD k dP).right)] ag96 sz96 ?_)
  refine oG (qC (g_Point1 ((a.getD k dP).node) n) bd87 ?_)
  refine rU (upd (upd (upd (upd (Z2i a n) 5 (.i (k : Int))) 7 (.i (a.length : Int))) 8 (.i (k : Int))) 16 (.b (decide (((a.getD k dP).node) = n)))) noOb ?_
  refine awp_cond (decide (((a.getD k dP).node) = n)) rfl rfl (fun hc1 => ?_) (fun hc1 => ?_)
  ·skip
   refine seqR ?_
   refine mG (.i (k : Int)) ?_
   refine mG (.i (k : Int)) ?_
   refine op0 ?_
   refine awp_ret ?_
   exact fret (av := .v (.int .i64 (k : Int))) rfl rfl (by unfold pointI; rw [idxB_stop dP om hinv hc1] <;> rfl)
  refine awp_skip ?_
  refine regR ?_
  refine oG (qB (.int .i64 ((k + 1 : Nat) : Int)) (addN om) ?_)
  refine mG (.i ((k + 1 : Nat) : Int)) ?_
  refine op0 ?_
  show _ ∧ _
  refine ⟨by omega, (any_step dP om hinv hc1), ?_⟩
  exact iN
 have hf2 := of_decide_eq_false hc0
 refine awp_exit ?_
 refine seqR ?_
 refine mG (.i (-1)) ?_
 refine op0 ?_
 refine awp_ret ?_
 exact fret (av := .v (.int .i64 (-1))) rfl rfl (by unfold pointI; rw [idxB_end om hinv] <;> rfl)
theorem g_Point (a : List Pnt) (n : Int) (hp : a.length ≤ 65536) : Fn Try.prog 79 [.rp [.one, .one, .one, .ro a.length (enc ePnt a), .one, .one, .one, .one, .one, .one], .v (.int .i64 n)] (.v (.int .i64 (pointI a n))) := by
 refine fnE_of_body (N := 14) Try.func79 rfl rfl (resOf1 rfl) (by simp) (fun w0 X hL_ => ?_)
 refine seqR ?_
 refine oG (qW 51 ?_)
 refine mG (.i 0) ?_
 refine op0 ?_
 refine awp_seq ?_
 refine seqR ?_
 refine mG (.rp [.one, .one, .one, .q ePnt a, .one, .one, .one, .one, .one, .one]) ?_
 refine oG (aop_ptNil rfl rfl rfl ut61 rfl rfl rfl (.inl ⟨rfl, rfl⟩) ?_)
 refine rU (upd (upd (upd (upd none_ 0 (.rp [.one, .one, .one, .q ePnt a, .one, .one, .one, .one, .one, .one])) 3 (.pt 51 0)) 4 (.i 0)) 6 (.b false)) (updO noOb 51 (.live ⟨[.i n], 3, 1⟩)) ?_
 refine awp_cond false rfl rfl (fun h => by cases h) (fun _ => ?_)
 refine awp_skip ?_
 refine seqR ?_
 refine mG (.rp [.one, .one, .one, .q ePnt a, .one, .one, .one, .one, .one, .one]) ?_
 refine oG (aop_nilCheck rfl rfl rfl rfl rfl ?_)
 refine oG (qF (.rp [.one, .one, .one, .q ePnt a, .one, .one, .one, .one, .one, .one]) (.rp [.one, .one, .one, .q ePnt a, .one, .one, .one, .one, .one, .one]) ft104_0 sz33 ?_)
 refine oG (qF (.rp [.one, .one, .one, .q ePnt a, .one, .one, .one, .one, .one, .one]) (.rp [.q ePnt a, .one, .one, .one, .one, .one, .one]) ft33_3 sz31 ?_)
 refine oG (qL (.q ePnt a) ag31 ?_)
 refine oG (aop_makeFunc (caps := [.tmp 3]) rfl rfl rfl rfl ?_)
 refine oG (callL_ (ixPt a n hp) rfl rfl rfl rfl rfl bd86 (lends_cons (lend_n (av := .q ePnt a)) (lends_cons (lend_fn (lends_cons (lend_pt rfl lS) lends_nil)) lends_nil)) ?_)
 refine mG (.i (pointI a n)) ?_
 refine rU (upd none_ 4 (.i (pointI a n))) (updO noOb 51 (.live ⟨[.i n], 3, 1⟩)) ?_
 refine awp_ret ?_
 exact fret (av := .v (.int .i64 (pointI a n))) rfl rfl rfl
abbrev Z2r (c : List Sec) (n : Int) (k j : Nat) : Nat → OSt := (updO noOb 1 (.live ⟨(enc eEn (endsJ c n k j)), 100, 2⟩))
abbrev Z2q (c : List Sec) (k : Nat) : List AV := [.i ((secV c (k : Int)).len), .i ((secV c (k : Int)).a), .i ((secV c (k : Int)).b)]
abbrev Z2p (c : List Sec) : AV := (.rp [.one, .q eSec c, .one, .one, .one, .one, .one, .one, .one, .one])
abbrev Z2o (k j : Nat) : En := (⟨(k : Int), (j : Int)⟩ : En)
abbrev Z2l (c : List Sec) (k : Nat) : List AV := [.i ((secV c (k : Int)).a), .i ((secV c (k : Int)).b)]
abbrev Z2k (c : List Sec) (n : Int) (k : Nat) : Nat → OSt := (updO (updO (updO noOb 1 (.live ⟨(enc eEn (endsK c n k)), 100, 2⟩)) 52 (.live ⟨[.i 0, .i 0, .i 0], 98, 1⟩)) 52 (.live ⟨(Z2q c k), 98, 1⟩))
abbrev Z2j (c : List Sec) (n : Int) : Nat → AV := (upd (upd none_ 0 (Z2p c)) 1 (.i n))
abbrev Z2n (c : List Sec) (n : Int) (k j : Nat) : Nat → AV := (upd (upd (upd (upd (Z2j c n) 4 vN) 5 (.sl 1 0 ((endsJ c n k j).length))) 6 (.i (k : Int))) 8 (.b (!noSec c (k : Int))))
abbrev Z2m (c : List Sec) (n : Int) (k : Nat) : Nat → AV := (upd (upd (upd (Z2j c n) 4 vN) 5 (.sl 1 0 ((endsK c n k).length))) 6 (.i (k : Int)))
theorem g_Ends (c : List Sec) (n : Int) (hs : c.length ≤ 65536) : FnO Try.prog 81 [.rp [.one, .ro c.length (enc eSec c), .one, .one, .one, .one, .one, .one, .one, .one], .v (.int .i64 n)] (.sl 0 0 ((endsL c n).length)) [⟨(enc eEn (endsL c n)), 100, 2⟩] := by
 refine fnE_of_body (N := 41) Try.func81 rfl rfl (resOf1 rfl) (by simp) (fun w0 X hL_ => ?_)
 refine seqR ?_
 refine mG vN ?_
 refine op0 ?_
 refine seqR ?_
 refine mG vN ?_
 refine op0 ?_
 refine seqR ?_
 refine mG (.i 0) ?_
 refine op0 ?_
 refine awp_block ?_
 refine awp_countI (fun k => ⟨(Z2m c n k), (updO noOb 1 (.live ⟨(enc eEn (endsK c n k)), 100, 2⟩))⟩) (fun k => k ≤ c.length) (c.length + 1) ?_ (Nat.zero_le _) (fun k hk_k hinv => ?_)
 ·skip
  refine (imp_adopt 5 51 100 2 rfl rfl).trans ?_
  exact iI 51 1 (o := ⟨[], 100, 2⟩) rfl
 have hle := endsK_len c n k
 refine awp_seq ?_
 refine awp_block ?_
 refine seqR ?_
 refine mG (Z2p c) ?_
 refine mG (.i (k : Int)) ?_
 refine oG (qJ (g_section c (k : Int) oo) bd85 ?_)
 refine mG (.tup [.agg (Z2q c k), .b (!noSec c (k : Int))]) ?_
 refine oG (qE ?_)
 refine oG (qE ?_)
 refine oG (aop_alloc 52 rfl rfl rfl rfl ze98 rfl ?_)
 refine oG (qS sz98 ?_)
 refine mG (.b (!noSec c (k : Int))) ?_
 refine rU (upd (upd (Z2m c n k) 7 (.pt 52 0)) 8 (.b (!noSec c (k : Int)))) (Z2k c n k) ?_
 refine awp_seq ?_
 refine seqR ?_
 refine mG (.b (!noSec c (k : Int))) ?_
 refine oG (aop_not rfl rfl rfl rfl ?_)
 refine op0 ?_
 refine awp_cond (!(!noSec c (k : Int))) rfl rfl (fun hc0 => ?_) (fun hc0 => ?_)
 ·skip
  have hf1 := not_t hc0
  have hkn : k = c.length := by rw [noSec_nat] at hc0; simp at hc0; omega
  refine seqR ?_
  refine mG (.sl 1 0 ((endsK c n k).length)) ?_
  refine mG (.sl 1 0 ((endsK c n k).length)) ?_
  refine rU (upd (upd (upd (upd (upd (Z2j c n) 4 (.sl 1 0 ((endsK c n k).length))) 5 (.sl 1 0 ((endsK c n k).length))) 6 (.i (k : Int))) 7 (.pt 52 0)) 8 (.b (!noSec c (k : Int)))) (Z2k c n k) ?_
  refine awp_ret ?_
  exact fretO 1 rfl rfl rfl (by rw [hkn]; rfl) (by rw [hkn]; rfl)
 have hf2 := not_f hc0
 have hkl : k < c.length := by rw [noSec_nat] at hc0; simp at hc0; omega
 have hsv := secV_nat (secs := c) hkl
 refine awp_skip ?_
 refine seqR ?_
 refine fG (.pt 52 1) ft98_1 sz3 ?_
 refine oG (qL (.i ((secV c (k : Int)).a)) ag3 ?_)
 refine fG (.pt 52 2) ft98_2 sz3 ?_
 refine oG (qL (.i ((secV c (k : Int)).b)) ag3 ?_)
 refine oG (qD pl94 ?_)
 refine mG (.i 0) ?_
 refine rU (upd (upd (upd (upd (Z2m c n k) 7 (.pt 52 0)) 8 (.b (!noSec c (k : Int)))) 26 (.agg (Z2l c k))) 27 (.i 0)) (Z2k c n k) ?_
 refine awp_block ?_
 refine awp_countI (fun j => ⟨(upd (upd (Z2n c n k j) 26 (.agg (Z2l c k))) 27 (.i (j : Int))), (Z2r c n k j)⟩) (fun j => j ≤ 2) (2) ?_ (by decide) (fun j hk_j hinv => ?_)
 ·skip
  have hz := endsJ_zero c n k
  exact iI 1 1 rfl (he := (sS rfl (sS rfl (sS rfl (sS rfl (sM (by exact congrArg (AV.sl 1 0) (congrArg List.length hz.symm)) (sS rfl (sS rfl (sS rfl sr_none))))))))) (hoo := (by exact congrArg (fun l_ => LObj.mk (enc eEn l_) 100 2) hz))
 have hlj := endsJ_len c n k j
 refine seqR ?_
 refine bG ((.bool (decide ((j : Int) < 2)))) ?_
 refine op0 ?_
 refine awp_seq ?_
 refine awp_cond (decide ((j : Int) < 2)) rfl rfl (fun hc1 => ?_) (fun hc1 => ?_)
 ·skip
  have hf3 := of_decide_eq_true hc1
  have hj2 : j < 2 := by omega
  refine awp_skip ?_
  refine awp_seq ?_
  refine awp_block ?_
  refine seqR ?_
  refine mG (.i (j : Int)) ?_
  refine oG (aop_index (cells := (Z2l c k)) (i := (j : Int)) (av := .i (endAt c k j)) rfl rfl rfl ut94 ag3 sz3 rfl rfl om om (pair_at hkl hj2) ?_)
  refine mG (.i (j : Int)) ?_
  refine mG (.i (endAt c k j)) ?_
  refine rU (upd (upd (upd (upd (Z2n c n k j) 9 (.i (j : Int))) 10 (.i (endAt c k j))) 26 (.agg (Z2l c k))) 27 (.i (j : Int))) (Z2r c n k j) ?_
  refine seqR ?_
  refine mG (.i (endAt c k j)) ?_
  refine mG (.i n) ?_
  refine bG ((.bool ((endAt c k j) == n))) ?_
  refine op0 ?_
  refine awp_cond ((endAt c k j) == n) rfl rfl (fun hc2 => ?_) (fun hc2 => ?_)
  ·skip
   have hf4 := (beq_iff_eq).1 hc2
   refine regR ?_
   refine mG (.sl 1 0 ((endsJ c n k j).length)) ?_
   refine mG (.i (k : Int)) ?_
   refine mG (.i (j : Int)) ?_
   refine oG (qD pl100 ?_)
   refine oG (aop_lit rfl rfl rfl ut101 iz100 (by decide) (by decide) rfl rfl ?_)
   refine oG (aop_app1 (f := eEn) (l := endsJ c n k j) 53 (Z2o k j) rfl rfl rfl rfl ut101 in100 rfl (by decide) rfl rfl rfl rfl rfl rfl (fun _ => rfl) rfl rfl oo oo rfl ?_)
   refine mG (.sl 53 0 (((endsJ c n k j) ++ [(Z2o k j)]).length)) ?_
   refine op0 ?_
   refine rT (upd (upd (upd (upd (upd (upd (upd (upd (Z2j c n) 4 vN) 5 (.sl 53 0 (((endsJ c n k j) ++ [(Z2o k j)]).length))) 6 (.i (k : Int))) 8 (.b (!noSec c (k : Int)))) 9 (.i (j : Int))) 10 (.i (endAt c k j))) 26 (.agg (Z2l c k))) 27 (.i (j : Int))) (updO (updO (Z2r c n k j) 1 .dead) 53 (.live ⟨(enc eEn ((endsJ c n k j) ++ [(Z2o k j)])), 100, 2⟩)) ?_
   refine regR ?_
   refine oG (qB (.int .i64 ((j + 1 : Nat) : Int)) (addN om) ?_)
   refine mG (.i ((j + 1 : Nat) : Int)) ?_
   refine op0 ?_
   show _ ∧ _
   have hs_ := endsJ_on hj2 (by simpa using hc2)
   refine ⟨by omega, om, ?_⟩
   exact iI 53 1 rfl (he := (sS rfl (sS rfl (sS rfl (sS rfl (sM (by exact congrArg (AV.sl 1 0) (congrArg List.length hs_.symm)) (sS rfl (sS rfl (sS rfl sr_none))))))))) (hoo := (by exact congrArg (fun l_ => LObj.mk (enc eEn l_) 100 2) hs_))
  have hf5 := (beq_eq_false_iff_ne).1 hc2
  refine awp_skip ?_
  refine regR ?_
  refine oG (qB (.int .i64 ((j + 1 : Nat) : Int)) (addN om) ?_)
  refine mG (.i ((j + 1 : Nat) : Int)) ?_
  refine op0 ?_
  show _ ∧ _
  have hs_ := endsJ_off hj2 (by simpa using hc2)
  refine ⟨by omega, om, ?_⟩
  exact iI 1 1 rfl (he := (sS rfl (sS rfl (sS rfl (sS rfl (sM (by exact congrArg (AV.sl 1 0) (congrArg List.length hs_.symm)) (sS rfl (sS rfl (sS rfl sr_none))))))))) (hoo := (by exact congrArg (fun l_ => LObj.mk (enc eEn l_) 100 2) hs_))
 have hf6 := of_decide_eq_false hc1
 refine awp_exit ?_
 refine regR ?_
 refine mG (.i (k : Int)) ?_
 refine oG (qB (.int .i64 ((k + 1 : Nat) : Int)) (addN om) ?_)
 refine mG (.i ((k + 1 : Nat) : Int)) ?_
 refine op0 ?_
 show _ ∧ _
 have hs_ : endsJ c n k j = endsK c n (k + 1) := by rw [show j = 2 by omega]; exact endsJ_two c n k
 refine ⟨by omega, om, ?_⟩
 exact iI 1 1 rfl (he := (sS rfl (sM (by exact congrArg (AV.sl 1 0) (congrArg List.length hs_)) (sS rfl (sS rfl (sS rfl sr_none)))))) (hoo := (by exact congrArg (fun l_ => LObj.mk (enc eEn l_) 100 2) hs_.symm))
abbrev Z2u (a : List Sec) (n : Int) (k : Nat) : List AV := [.i (((endsL a n).getD k dE).sec), .i (((endsL a n).getD k dE).en)]
abbrev Z2t (s : Int) (a : List Sec) (n : Int) (k : Nat) : Nat → AV := (upd (upd (upd (upd (upd (upd none_ 1 (.i s)) 6 vN) 8 (.pt 52 0)) 11 (.sl 1 0 ((endsL a n).length))) 12 (.i ((endsL a n).length : Int))) 13 (.i (k : Int)))
abbrev Z2s (a : List Sec) (n : Int) (k : Nat) : Nat → OSt := (updO (updO (updO noOb 1 (.live ⟨(enc eEn (endsL a n)), 100, 2⟩)) 52 (.live ⟨[.i 0, .i 0], 100, 1⟩)) 52 (.live ⟨(Z2u a n k), 100, 1⟩))
theorem g_at (a : List Sec) (s n : Int) (hs : a.length ≤ 65536) : Fn Try.prog 84 [.rp [.one, .ro a.length (enc eSec a), .one, .one, .one, .one, .one, .one, .one, .one], .v (.int .i64 s), .v (.int .i64 n)] (.ro ((oneE a s n).length) (enc eEn (oneE a s n))) := by
 refine fnE_of_body (N := 24) Try.func84 rfl rfl (resOf1 rfl) (by simp) (fun w0 X hL_ => ?_)
 refine seqR ?_
 refine mG vN ?_
 refine op0 ?_
 refine awp_seq ?_
 refine seqR ?_
 refine mG (.rp [.one, .q eSec a, .one, .one, .one, .one, .one, .one, .one, .one]) ?_
 refine mG (.i n) ?_
 refine oG (callO_ 51 (g_Ends a n oo) rfl rfl rfl rfl rfl bd81 lS (.sl _ _ _ trivial) (news1 news0) (free1 rfl) rfl rfl ?_)
 refine oG (aop_len rfl rfl rfl rfl ut101 (len_sl rfl) ?_)
 refine mG (.i 0) ?_
 refine rU (upd (upd (upd (upd (upd none_ 1 (.i s)) 6 vN) 11 (.sl 51 0 ((endsL a n).length))) 12 (.i ((endsL a n).length : Int))) 13 (.i 0)) (updO noOb 51 (.live ⟨(enc eEn (endsL a n)), 100, 2⟩)) ?_
 refine awp_block ?_
 refine awp_countI (fun k => ⟨(upd (upd (upd (upd (upd none_ 1 (.i s)) 6 vN) 11 (.sl 1 0 ((endsL a n).length))) 12 (.i ((endsL a n).length : Int))) 13 (.i (k : Int))), (updO noOb 1 (.live ⟨(enc eEn (endsL a n)), 100, 2⟩))⟩) (fun k => ((endsL a n).take k).any (fun e => decide (e.sec = s)) = false) ((endsL a n).length) ?_ (by simp) (fun k hk_k hinv => ?_)
 ·skip
  exact iI 51 1 rfl
 refine seqR ?_
 refine bG ((.bool (decide ((k : Int) < ((endsL a n).length : Int))))) ?_
 refine op0 ?_
 refine awp_seq ?_
 refine awp_cond (decide ((k : Int) < ((endsL a n).length : Int))) rfl rfl (fun hc0 => ?_) (fun hc0 => ?_)
 ·skip
  have hf1 := of_decide_eq_true hc0
  have hle := endsL_len a n
  refine awp_skip ?_
  refine awp_seq ?_
  refine awp_block ?_
  refine seqR ?_
  refine oG (aop_ixO (k := k) rfl rfl rfl ut101 sz100 rfl rfl oo ?_)
  refine oG (aop_ldOA (f := eEn) dE rfl rfl rfl ag100 sz100 rfl rfl rfl (fun _ => rfl) oo rfl ?_)
  refine oG (aop_alloc 52 rfl rfl rfl rfl ze100 rfl ?_)
  refine oG (qS sz100 ?_)
  refine rU (Z2t s a n k) (Z2s a n k) ?_
  refine seqR ?_
  refine fG (.pt 52 0) ft100_0 sz3 ?_
  refine oG (qL (.i (((endsL a n).getD k dE).sec)) ag3 ?_)
  refine mG (.i s) ?_
  refine bG ((.bool ((((endsL a n).getD k dE).sec) == s))) ?_
  refine rU (upd (Z2t s a n k) 20 (.b ((((endsL a n).getD k dE).sec) == s))) (Z2s a n k) ?_
  refine awp_cond ((((endsL a n).getD k dE).sec) == s) rfl rfl (fun hc1 => ?_) (fun hc1 => ?_)
  ·skip
   have hf2 := (beq_iff_eq).1 hc1
   refine seqR ?_
   refine oG (qLB (Z2u a n k) ag100 sz100 ?_)
   refine oG (aop_lit rfl rfl rfl ut101 iz100 (by decide) (by decide) rfl rfl ?_)
   refine mG (.ro 1 (Z2u a n k)) ?_
   refine op0 ?_
   refine awp_ret ?_
   exact fret (av := .ro 1 [.v (.int .i64 (((endsL a n).getD k dE).sec)), .v (.int .i64 (((endsL a n).getD k dE).en))]) rfl rfl (by unfold oneE; rw [firstE_stop om hinv (by simpa using hc1)] <;> rfl)
  have hf3 := (beq_eq_false_iff_ne).1 hc1
  refine awp_skip ?_
  refine regR ?_
  refine oG (qB (.int .i64 ((k + 1 : Nat) : Int)) (addN om) ?_)
  refine mG (.i ((k + 1 : Nat) : Int)) ?_
  refine op0 ?_
  show _ ∧ _
  refine ⟨by omega, (any_step dE om hinv (by simpa using hc1)), ?_⟩
  exact iI 1 1 rfl
 have hf4 := of_decide_eq_false hc0
 refine awp_exit ?_
 refine seqR ?_
 refine mG vN ?_
 refine op0 ?_
 refine awp_imp _ (imp_frozen rfl (fun _ h => h) (lee_lend 6 (.ro 0 []) .nil lee_lend0)) ?_
 refine awp_ret ?_
 exact fret (av := .ro 0 []) rfl rfl (by unfold oneE; rw [firstE_none om hinv] <;> rfl)
theorem g_Around1 (x y s e : Int)  : Fn Try.prog 82 [.agg [.v (.int .i64 x), .v (.int .i64 y)], .rp [.v (.int .i64 s), .v (.int .i64 e)]] (.v (.bool (decide (x = s ∧ y = e)))) := by
 refine fnE_of_body (N := 7) Try.func82 rfl rfl (resOf1 rfl) (by simp) (fun w0 X hL_ => ?_)
 refine seqR ?_
 refine oG (qW 51 ?_)
 refine mG (.b false) ?_
 refine op0 ?_
 refine seqR ?_
 refine oG (qLB [.i x, .i y] ag100 sz100 ?_)
 refine oG (qLB [.i s, .i e] ag100 sz100 ?_)
 refine oG (aop_eqS2 (r := (decide (x = s ∧ y = e))) rfl rfl rfl rfl rfl es100 ut3 ut3 ag3 ag3 (.inl ⟨rfl, rfl⟩) ?_)
 refine mG (.b (decide (x = s ∧ y = e))) ?_
 refine rU (upd none_ 3 (.b (decide (x = s ∧ y = e)))) (updO noOb 51 (.live ⟨[.i x, .i y], 100, 1⟩)) ?_
 refine awp_ret ?_
 exact fret (av := .v (.bool (decide (x = s ∧ y = e)))) rfl rfl rfl
abbrev Z2v (l : List En) (s e : Int) : Nat → AV := (upd (upd (upd none_ 0 (.q eEn l)) 1 (.fn 82 [.rp [.i s, .i e]])) 4 (.i 0))
theorem ixE_o (l : List En) (s e : Int) (hl : l.length ≤ 4294967296)  : Fn Try.prog 69 [.ro l.length (enc eEn l), .fn 82 [.rp [.v (.int .i64 s), .v (.int .i64 e)]]] (.v (.int .i64 (idxB (fun x : En => decide (x.sec = s ∧ x.en = e)) l))) := by
 refine fnE_of_body (N := 19) Try.func69 rfl rfl (resOf1 rfl) (by simp) (fun w0 X hL_ => ?_)
 refine seqR ?_
 refine mG (.i 0) ?_
 refine op0 ?_
 refine awp_seq ?_
 refine seqR ?_
 refine mG (.q eEn l) ?_
 refine oG (qN ut101 ?_)
 refine mG (.i 0) ?_
 refine rU (upd (upd (Z2v l s e) 7 (.i (l.length : Int))) 8 (.i 0)) noOb ?_
 refine awp_block ?_
 refine awp_countI (fun k => ⟨(upd (upd (Z2v l s e) 7 (.i (l.length : Int))) 8 (.i (k : Int))), noOb⟩) (fun k => (l.take k).any (fun x : En => decide (x.sec = s ∧ x.en = e)) = false) (l.length) ?_ (by simp) (fun k hk_k hinv => ?_)
 ·skip
  exact iN
 refine seqR ?_
 refine bG ((.bool (decide ((k : Int) < (l.length : Int))))) ?_
 refine op0 ?_
 refine awp_seq ?_
 refine awp_cond (decide ((k : Int) < (l.length : Int))) rfl rfl (fun hc0 => ?_) (fun hc0 => ?_)
 ·skip
  have hf1 := of_decide_eq_true hc0
  refine awp_skip ?_
  refine awp_seq ?_
  refine awp_block ?_
  refine seqR ?_
  refine mG (.i (k : Int)) ?_
  refine mG (.i (k : Int)) ?_
  refine op0 ?_
  refine seqR ?_
  refine mG (.fn 82 [.rp [.i s, .i e]]) ?_
  refine mG (.q eEn l) ?_
  refine mG (.i (k : Int)) ?_
  refine oG (qX dE ut101 sz100 ?_)
  refine oG (qLB [.i ((l.getD k dE).sec), .i ((l.getD k dE).en)] ag100 sz100 ?_)
  refine oG (qJ (g_Around1 ((l.getD k dE).sec) ((l.getD k dE).en) s e) bd82 ?_)
  refine rU (upd (upd (upd (upd (Z2v l s e) 5 (.i (k : Int))) 7 (.i (l.length : Int))) 8 (.i (k : Int))) 16 (.b (decide (((l.getD k dE).sec) = s ∧ ((l.getD k dE).en) = e)))) noOb ?_
  refine awp_cond (decide (((l.getD k dE).sec) = s ∧ ((l.getD k dE).en) = e)) rfl rfl (fun hc1 => ?_) (fun hc1 => ?_)
  ·skip
   refine seqR ?_
   refine mG (.i (k : Int)) ?_
   refine mG (.i (k : Int)) ?_
   refine op0 ?_
   refine awp_ret ?_
   exact fret (av := .v (.int .i64 (k : Int))) rfl rfl (by rw [idxB_stop (f := fun x : En => decide (x.sec = s ∧ x.en = e)) dE om hinv hc1] <;> rfl)
  refine awp_skip ?_
  refine regR ?_
  refine oG (qB (.int .i64 ((k + 1 : Nat) : Int)) (addN om) ?_)
  refine mG (.i ((k + 1 : Nat) : Int)) ?_
  refine op0 ?_
  show _ ∧ _
  refine ⟨by omega, (any_step dE om hinv hc1), ?_⟩
  exact iN
 have hf2 := of_decide_eq_false hc0
 refine awp_exit ?_
 refine seqR ?_
 refine mG (.i (-1)) ?_
 refine op0 ?_
 refine awp_ret ?_
 exact fret (av := .v (.int .i64 (-1))) rfl rfl (by rw [idxB_end (f := fun x : En => decide (x.sec = s ∧ x.en = e)) om hinv] <;> rfl)
abbrev Z2y : LObj := ⟨[.i 0, .i 0], 100, 1⟩
abbrev Z2x (l : List En) : Nat → OSt := (updO noOb 0 (.live ⟨(enc eEn l), 100, 2⟩))
abbrev Z2w (l : List En) (s e : Int) : Nat → AV := (upd (upd (upd none_ 0 (.sl 0 0 l.length)) 1 (.fn 82 [.rp [.i s, .i e]])) 4 vN)
theorem delE (l : List En) (s e : Int) (hl : l.length ≤ 4294967296)  : FnGO Try.prog 80 [⟨(enc eEn l), 100, 2⟩] [.sl 0 0 l.length, .fn 82 [.rp [.v (.int .i64 s), .v (.int .i64 e)]]] (.sl 0 0 ((restG (fun x : En => decide (x.sec = s ∧ x.en = e)) l).length)) [.live ⟨(enc eEn (restG (fun x : En => decide (x.sec = s ∧ x.en = e)) l ++ List.replicate (l.length - (restG (fun x : En => decide (x.sec = s ∧ x.en = e)) l).length) dE)), 100, 2⟩] := by
 refine fnG_of_body (N := 42) 1 rfl Try.func80 rfl rfl (resOf1 rfl) (by simp) (fun w0 G C hL_ hLG_ => ?_)
 refine seqR ?_
 refine mG vN ?_
 refine op0 ?_
 refine seqR ?_
 refine mG (.sl 0 0 l.length) ?_
 refine mG (.fn 82 [.rp [.i s, .i e]]) ?_
 refine oG (callL_ (ixE_o l s e oo) rfl rfl rfl rfl rfl bd69 (lends_cons (lend_s (id := 0) (n := l.length) (o := ⟨(enc eEn l), 100, 2⟩) rfl (enc_len (fun _ => rfl) (by first | rfl | (simp; done)))) lS) ?_)
 refine mG (.i (idxB (fun x : En => decide (x.sec = s ∧ x.en = e)) l)) ?_
 refine rU (upd (Z2w l s e) 5 (.i (idxB (fun x : En => decide (x.sec = s ∧ x.en = e)) l))) (Z2x l) ?_
 refine awp_seq ?_
 refine seqR ?_
 refine mG (.i (idxB (fun x : En => decide (x.sec = s ∧ x.en = e)) l)) ?_
 refine bG ((.bool ((idxB (fun x : En => decide (x.sec = s ∧ x.en = e)) l) == (-1)))) ?_
 refine op0 ?_
 refine awp_cond ((idxB (fun x : En => decide (x.sec = s ∧ x.en = e)) l) == (-1)) rfl rfl (fun hc0 => ?_) (fun hc0 => ?_)
 ·skip
  have hf1 := (beq_iff_eq).1 hc0
  have hm0 := restG_none (fun x : En => decide (x.sec = s ∧ x.en = e)) (any_none (fun x : En => decide (x.sec = s ∧ x.en = e)) dE hf1)
  refine seqR ?_
  refine mG (.sl 0 0 l.length) ?_
  refine mG (.sl 0 0 l.length) ?_
  refine rU (upd (upd (upd (upd none_ 0 (.sl 0 0 l.length)) 1 (.fn 82 [.rp [.i s, .i e]])) 4 (.sl 0 0 l.length)) 5 (.i (idxB (fun x : En => decide (x.sec = s ∧ x.en = e)) l))) (Z2x l) ?_
  refine awp_imp ⟨(upd none_ 4 (.sl 0 0 ((restG (fun x : En => decide (x.sec = s ∧ x.en = e)) l).length))), (updO noOb 0 (.live ⟨(enc eEn (restG (fun x : En => decide (x.sec = s ∧ x.en = e)) l ++ List.replicate (l.length - (restG (fun x : En => decide (x.sec = s ∧ x.en = e)) l).length) dE)), 100, 2⟩))⟩ ?_ ?_
  ·skip
   exact iL [(0, 0)] [((0, 0), .live _)] ⟨row_no rfl (by exact congrArg (fun l_ => LObj.mk (enc eEn l_) 100 2) (by rw [hm0]; simp)), trivial⟩ (he := (sM (by exact congrArg (AV.sl 0 0) (by rw [hm0])) sr_none))
  refine awp_ret ?_
  exact fretG rfl rfl rfl rfl
 have hf2 := (beq_eq_false_iff_ne).1 hc0
 obtain ⟨i0, hi, hlt, hpre, hdel⟩ := idxB_found dE (show ¬ idxB (fun x : En => decide (x.sec = s ∧ x.en = e)) l = -1 from fun e => hf2 e)
 refine awp_skip ?_
 refine awp_seq ?_
 refine seqR ?_
 refine mG (.i (idxB (fun x : En => decide (x.sec = s ∧ x.en = e)) l)) ?_
 refine oG (qB (.int .i64 ((idxB (fun x : En => decide (x.sec = s ∧ x.en = e)) l) + 1)) (addI om) ?_)
 refine mG (.i ((idxB (fun x : En => decide (x.sec = s ∧ x.en = e)) l) + 1)) ?_
 refine rU (upd (upd (Z2w l s e) 5 (.i (idxB (fun x : En => decide (x.sec = s ∧ x.en = e)) l))) 6 (.i ((idxB (fun x : En => decide (x.sec = s ∧ x.en = e)) l) + 1))) (Z2x l) ?_
 refine awp_block ?_
 refine awp_countI (fun k => ⟨(upd (upd (Z2w l s e) 5 (.i (((delG (fun x : En => decide (x.sec = s ∧ x.en = e)) l (i0 + 1 + k)).2 : Nat) : Int))) 6 (.i ((i0 + 1 + k : Nat) : Int))), (updO noOb 0 (.live ⟨(enc eEn ((delG (fun x : En => decide (x.sec = s ∧ x.en = e)) l (i0 + 1 + k)).1)), 100, 2⟩))⟩) (fun k => True) ((l.length - (i0 + 1))) ?_ trivial (fun k hk_k hinv => ?_)
 ·skip
  have hf0 := delG_first (fun x : En => decide (x.sec = s ∧ x.en = e)) dE hlt hpre hdel
  exact iL [(0, 0)] [((0, 0), .live _)] ⟨row_no rfl (by exact congrArg (fun l_ => LObj.mk (enc eEn l_) 100 2) (show (delG (fun x : En => decide (x.sec = s ∧ x.en = e)) l (i0 + 1 + 0)).1 = l by rw [show i0 + 1 + 0 = i0 + 1 from rfl, hf0])), trivial⟩ (he := (sS (by exact congrArg (fun n_ : Int => AV.v (.int .i64 n_)) (show idxB (fun x : En => decide (x.sec = s ∧ x.en = e)) l + 1 = ((i0 + 1 + 0 : Nat) : Int) by omega)) (sS (by exact congrArg (fun n_ : Int => AV.v (.int .i64 n_)) (show idxB (fun x : En => decide (x.sec = s ∧ x.en = e)) l = (((delG (fun x : En => decide (x.sec = s ∧ x.en = e)) l (i0 + 1 + 0)).2 : Nat) : Int) by rw [show i0 + 1 + 0 = i0 + 1 from rfl, hf0]; exact hi)) (sS rfl (sS rfl (sM rfl sr_none))))))
 obtain ⟨hv1, hv2, hv3, hv4, hv5⟩ := delG_inv (fun x : En => decide (x.sec = s ∧ x.en = e)) l (i0 + 1 + k) om
 have hv6 := delG_lt (fun x : En => decide (x.sec = s ∧ x.en = e)) dE hlt hpre hdel k om
 refine awp_seq ?_
 refine seqR ?_
 refine mG (.i ((i0 + 1 + k : Nat) : Int)) ?_
 refine mG (.sl 0 0 l.length) ?_
 refine oG (aop_len rfl rfl rfl rfl ut101 (len_sl rfl) ?_)
 refine bG ((.bool (decide (((i0 + 1 + k : Nat) : Int) < (l.length : Int))))) ?_
 refine rU (upd (upd (upd (Z2w l s e) 5 (.i (((delG (fun x : En => decide (x.sec = s ∧ x.en = e)) l (i0 + 1 + k)).2 : Nat) : Int))) 6 (.i ((i0 + 1 + k : Nat) : Int))) 19 (.b (decide (((i0 + 1 + k : Nat) : Int) < (l.length : Int))))) (updO noOb 0 (.live ⟨(enc eEn ((delG (fun x : En => decide (x.sec = s ∧ x.en = e)) l (i0 + 1 + k)).1)), 100, 2⟩)) ?_
 refine awp_cond (decide (((i0 + 1 + k : Nat) : Int) < (l.length : Int))) rfl rfl (fun hc1 => ?_) (fun hc1 => ?_)
 ·skip
  have hf3 := of_decide_eq_true hc1
  refine awp_skip ?_
  refine awp_seq ?_
  refine awp_block ?_
  refine seqR ?_
  refine mG (.sl 0 0 l.length) ?_
  refine mG (.i ((i0 + 1 + k : Nat) : Int)) ?_
  refine oG (aop_ixO (k := i0 + 1 + k) rfl rfl rfl ut101 sz100 rfl rfl oo ?_)
  refine oG (aop_ldOA (f := eEn) dE rfl rfl rfl ag100 sz100 rfl rfl rfl (fun _ => rfl) oo rfl ?_)
  refine oG (aop_alloc 51 rfl rfl rfl rfl ze100 rfl ?_)
  refine oG (qS sz100 ?_)
  refine rU (upd (upd (upd (Z2w l s e) 5 (.i (((delG (fun x : En => decide (x.sec = s ∧ x.en = e)) l (i0 + 1 + k)).2 : Nat) : Int))) 6 (.i ((i0 + 1 + k : Nat) : Int))) 7 (.pt 51 0)) (updO (updO (updO noOb 0 (.live ⟨(enc eEn ((delG (fun x : En => decide (x.sec = s ∧ x.en = e)) l (i0 + 1 + k)).1)), 100, 2⟩)) 51 (.live Z2y)) 51 (.live ⟨[.i ((((delG (fun x : En => decide (x.sec = s ∧ x.en = e)) l (i0 + 1 + k)).1).getD (i0 + 1 + k) dE).sec), .i ((((delG (fun x : En => decide (x.sec = s ∧ x.en = e)) l (i0 + 1 + k)).1).getD (i0 + 1 + k) dE).en)], 100, 1⟩)) ?_
  refine seqR ?_
  refine mG (.fn 82 [.rp [.i s, .i e]]) ?_
  refine oG (qLB [.i ((((delG (fun x : En => decide (x.sec = s ∧ x.en = e)) l (i0 + 1 + k)).1).getD (i0 + 1 + k) dE).sec), .i ((((delG (fun x : En => decide (x.sec = s ∧ x.en = e)) l (i0 + 1 + k)).1).getD (i0 + 1 + k) dE).en)] ag100 sz100 ?_)
  refine oG (qJ (g_Around1 ((((delG (fun x : En => decide (x.sec = s ∧ x.en = e)) l (i0 + 1 + k)).1).getD (i0 + 1 + k) dE).sec) ((((delG (fun x : En => decide (x.sec = s ∧ x.en = e)) l (i0 + 1 + k)).1).getD (i0 + 1 + k) dE).en) s e) bd82 ?_)
  refine oG (aop_not rfl rfl rfl rfl ?_)
  refine rU (upd (upd (upd (upd (Z2w l s e) 5 (.i (((delG (fun x : En => decide (x.sec = s ∧ x.en = e)) l (i0 + 1 + k)).2 : Nat) : Int))) 6 (.i ((i0 + 1 + k : Nat) : Int))) 7 (.pt 51 0)) 29 (.b (!(decide (((((delG (fun x : En => decide (x.sec = s ∧ x.en = e)) l (i0 + 1 + k)).1).getD (i0 + 1 + k) dE).sec) = s ∧ ((((delG (fun x : En => decide (x.sec = s ∧ x.en = e)) l (i0 + 1 + k)).1).getD (i0 + 1 + k) dE).en) = e))))) (updO (updO (updO noOb 0 (.live ⟨(enc eEn ((delG (fun x : En => decide (x.sec = s ∧ x.en = e)) l (i0 + 1 + k)).1)), 100, 2⟩)) 51 (.live Z2y)) 51 (.live ⟨[.i ((((delG (fun x : En => decide (x.sec = s ∧ x.en = e)) l (i0 + 1 + k)).1).getD (i0 + 1 + k) dE).sec), .i ((((delG (fun x : En => decide (x.sec = s ∧ x.en = e)) l (i0 + 1 + k)).1).getD (i0 + 1 + k) dE).en)], 100, 1⟩)) ?_
  refine awp_cond (!(decide (((((delG (fun x : En => decide (x.sec = s ∧ x.en = e)) l (i0 + 1 + k)).1).getD (i0 + 1 + k) dE).sec) = s ∧ ((((delG (fun x : En => decide (x.sec = s ∧ x.en = e)) l (i0 + 1 + k)).1).getD (i0 + 1 + k) dE).en) = e))) rfl rfl (fun hc2 => ?_) (fun hc2 => ?_)
  ·skip
   have hf4 := not_t hc2
   refine seqR ?_
   refine mG (.sl 0 0 l.length) ?_
   refine mG (.i (((delG (fun x : En => decide (x.sec = s ∧ x.en = e)) l (i0 + 1 + k)).2 : Nat) : Int)) ?_
   refine oG (qLB [.i ((((delG (fun x : En => decide (x.sec = s ∧ x.en = e)) l (i0 + 1 + k)).1).getD (i0 + 1 + k) dE).sec), .i ((((delG (fun x : En => decide (x.sec = s ∧ x.en = e)) l (i0 + 1 + k)).1).getD (i0 + 1 + k) dE).en)] ag100 sz100 ?_)
   refine oG (aop_ixO (k := (delG (fun x : En => decide (x.sec = s ∧ x.en = e)) l (i0 + 1 + k)).2) rfl rfl rfl ut101 sz100 rfl rfl oo ?_)
   refine oG (aop_storeE (f := eEn) (l := (delG (fun x : En => decide (x.sec = s ∧ x.en = e)) l (i0 + 1 + k)).1) (l' := ((delG (fun x : En => decide (x.sec = s ∧ x.en = e)) l (i0 + 1 + k)).1).set ((delG (fun x : En => decide (x.sec = s ∧ x.en = e)) l (i0 + 1 + k)).2) (⟨(((delG (fun x : En => decide (x.sec = s ∧ x.en = e)) l (i0 + 1 + k)).1).getD (i0 + 1 + k) dE).sec, (((delG (fun x : En => decide (x.sec = s ∧ x.en = e)) l (i0 + 1 + k)).1).getD (i0 + 1 + k) dE).en⟩ : En)) (⟨(((delG (fun x : En => decide (x.sec = s ∧ x.en = e)) l (i0 + 1 + k)).1).getD (i0 + 1 + k) dE).sec, (((delG (fun x : En => decide (x.sec = s ∧ x.en = e)) l (i0 + 1 + k)).1).getD (i0 + 1 + k) dE).en⟩ : En) rfl rfl rfl sz100 rfl rfl rfl rfl rfl (fun _ => rfl) oo rfl rfl ?_)
   refine rU (upd (upd (upd (Z2w l s e) 5 (.i (((delG (fun x : En => decide (x.sec = s ∧ x.en = e)) l (i0 + 1 + k)).2 : Nat) : Int))) 6 (.i ((i0 + 1 + k : Nat) : Int))) 7 (.pt 51 0)) (updO (updO (updO (updO noOb 0 (.live ⟨(enc eEn ((delG (fun x : En => decide (x.sec = s ∧ x.en = e)) l (i0 + 1 + k)).1)), 100, 2⟩)) 51 (.live Z2y)) 51 (.live ⟨[.i ((((delG (fun x : En => decide (x.sec = s ∧ x.en = e)) l (i0 + 1 + k)).1).getD (i0 + 1 + k) dE).sec), .i ((((delG (fun x : En => decide (x.sec = s ∧ x.en = e)) l (i0 + 1 + k)).1).getD (i0 + 1 + k) dE).en)], 100, 1⟩)) 0 (.live ⟨(enc eEn (((delG (fun x : En => decide (x.sec = s ∧ x.en = e)) l (i0 + 1 + k)).1).set ((delG (fun x : En => decide (x.sec = s ∧ x.en = e)) l (i0 + 1 + k)).2) (⟨(((delG (fun x : En => decide (x.sec = s ∧ x.en = e)) l (i0 + 1 + k)).1).getD (i0 + 1 + k) dE).sec, (((delG (fun x : En => decide (x.sec = s ∧ x.en = e)) l (i0 + 1 + k)).1).getD (i0 + 1 + k) dE).en⟩ : En))), 100, 2⟩)) ?_
   refine regR ?_
   refine mG (.i (((delG (fun x : En => decide (x.sec = s ∧ x.en = e)) l (i0 + 1 + k)).2 : Nat) : Int)) ?_
   refine oG (qB (.int .i64 (((delG (fun x : En => decide (x.sec = s ∧ x.en = e)) l (i0 + 1 + k)).2 + 1 : Nat) : Int)) (addN om) ?_)
   refine mG (.i (((delG (fun x : En => decide (x.sec = s ∧ x.en = e)) l (i0 + 1 + k)).2 + 1 : Nat) : Int)) ?_
   refine op0 ?_
   refine regR ?_
   refine mG (.i ((i0 + 1 + k : Nat) : Int)) ?_
   refine oG (qB (.int .i64 ((i0 + 1 + k + 1 : Nat) : Int)) (addN om) ?_)
   refine mG (.i ((i0 + 1 + k + 1 : Nat) : Int)) ?_
   refine op0 ?_
   show _ ∧ _
   have hs := delG_keep (fun x : En => decide (x.sec = s ∧ x.en = e)) dE (l := l) (j := i0 + 1 + k) om ((Bool.not_eq_true' _).mp hc2)
   refine ⟨by omega, trivial, ?_⟩
   exact iL [(0, 0)] [((0, 0), .live _)] ⟨row_no rfl (by exact congrArg (fun l_ => LObj.mk (enc eEn l_) 100 2) (congrArg Prod.fst hs)), trivial⟩ (he := (sS rfl (sS (by exact congrArg (fun n_ : Int => AV.v (.int .i64 n_)) (congrArg (fun q : List En × Nat => ((q.2 : Nat) : Int)) hs.symm)) (sS rfl (sS rfl (sM rfl sr_none))))))
  have hf5 := not_f hc2
  refine awp_skip ?_
  refine regR ?_
  refine mG (.i ((i0 + 1 + k : Nat) : Int)) ?_
  refine oG (qB (.int .i64 ((i0 + 1 + k + 1 : Nat) : Int)) (addN om) ?_)
  refine mG (.i ((i0 + 1 + k + 1 : Nat) : Int)) ?_
  refine op0 ?_
  show _ ∧ _
  have hs := delG_drop (fun x : En => decide (x.sec = s ∧ x.en = e)) dE (l := l) (j := i0 + 1 + k) om ((Bool.not_eq_false' _).mp hc2)
  refine ⟨by omega, trivial, ?_⟩
  exact iL [(0, 0)] [((0, 0), .live _)] ⟨row_no rfl (by exact congrArg (fun l_ => LObj.mk (enc eEn l_) 100 2) (congrArg Prod.fst hs)), trivial⟩ (he := (sS rfl (sS (by exact congrArg (fun n_ : Int => AV.v (.int .i64 n_)) (congrArg (fun q : List En × Nat => ((q.2 : Nat) : Int)) hs.symm)) (sS rfl (sS rfl (sM rfl sr_none))))))
 have hf6 := of_decide_eq_false hc1
 refine awp_exit ?_
 refine seqR ?_
 refine mG (.sl 0 0 l.length) ?_
 refine mG (.i (((delG (fun x : En => decide (x.sec = s ∧ x.en = e)) l (i0 + 1 + k)).2 : Nat) : Int)) ?_
 refine oG (aop_sliceFrom (l := (delG (fun x : En => decide (x.sec = s ∧ x.en = e)) l (i0 + 1 + k)).2) (ob := ⟨(enc eEn ((delG (fun x : En => decide (x.sec = s ∧ x.en = e)) l (i0 + 1 + k)).1)), 100, 2⟩) rfl rfl rfl ut101 sz100 rfl rfl rfl ⟨_, rfl⟩ oo ?_)
 refine oG (aop_clear (n := l.length - ((delG (fun x : En => decide (x.sec = s ∧ x.en = e)) l (i0 + 1 + k)).2)) (ob := ⟨(enc eEn ((delG (fun x : En => decide (x.sec = s ∧ x.en = e)) l (i0 + 1 + k)).1)), 100, 2⟩) rfl rfl rfl rfl ut101 (run_zero_ ze100) rfl rfl rfl oo (clear_fit (fun _ => rfl) om) (clear_rowG (e := eEn) (v := dE) (s := 2) (i := (delG (fun x : En => decide (x.sec = s ∧ x.en = e)) l (i0 + 1 + k)).2) (n := l.length - (delG (fun x : En => decide (x.sec = s ∧ x.en = e)) l (i0 + 1 + k)).2) (fun _ => rfl) (zeros_enc (z := #[.int .i64 0, .int .i64 0]) rfl (by decide)) om) ?_)
 refine rU (upd (upd (upd none_ 0 (.sl 0 0 l.length)) 4 vN) 5 (.i (((delG (fun x : En => decide (x.sec = s ∧ x.en = e)) l (i0 + 1 + k)).2 : Nat) : Int))) (updO (updO noOb 0 (.live ⟨(enc eEn ((delG (fun x : En => decide (x.sec = s ∧ x.en = e)) l (i0 + 1 + k)).1)), 100, 2⟩)) 0 (.live ⟨(enc eEn ((delG (fun x : En => decide (x.sec = s ∧ x.en = e)) l (i0 + 1 + k)).1.take (delG (fun x : En => decide (x.sec = s ∧ x.en = e)) l (i0 + 1 + k)).2 ++ List.replicate (l.length - (delG (fun x : En => decide (x.sec = s ∧ x.en = e)) l (i0 + 1 + k)).2) dE)), 100, 2⟩)) ?_
 refine seqR ?_
 refine mG (.sl 0 0 l.length) ?_
 refine mG (.i (((delG (fun x : En => decide (x.sec = s ∧ x.en = e)) l (i0 + 1 + k)).2 : Nat) : Int)) ?_
 refine oG (aop_sliceOwn (hgh := (delG (fun x : En => decide (x.sec = s ∧ x.en = e)) l (i0 + 1 + k)).2) rfl rfl rfl ut101 sz100 rfl ⟨_, rfl⟩ oo ?_)
 refine mG (.sl 0 0 ((delG (fun x : En => decide (x.sec = s ∧ x.en = e)) l (i0 + 1 + k)).2)) ?_
 refine rU (upd none_ 4 (.sl 0 0 ((delG (fun x : En => decide (x.sec = s ∧ x.en = e)) l (i0 + 1 + k)).2))) (updO (updO noOb 0 (.live ⟨(enc eEn ((delG (fun x : En => decide (x.sec = s ∧ x.en = e)) l (i0 + 1 + k)).1)), 100, 2⟩)) 0 (.live ⟨(enc eEn ((delG (fun x : En => decide (x.sec = s ∧ x.en = e)) l (i0 + 1 + k)).1.take (delG (fun x : En => decide (x.sec = s ∧ x.en = e)) l (i0 + 1 + k)).2 ++ List.replicate (l.length - (delG (fun x : En => decide (x.sec = s ∧ x.en = e)) l (i0 + 1 + k)).2) dE)), 100, 2⟩)) ?_
 have hjk : i0 + 1 + k = l.length := by omega
 rw [hjk, List.take_of_length_le (Nat.le_refl _)] at hv4 hv5
 refine awp_imp ⟨(upd none_ 4 (.sl 0 0 ((restG (fun x : En => decide (x.sec = s ∧ x.en = e)) l).length))), (updO noOb 0 (.live ⟨(enc eEn (restG (fun x : En => decide (x.sec = s ∧ x.en = e)) l ++ List.replicate (l.length - (restG (fun x : En => decide (x.sec = s ∧ x.en = e)) l).length) dE)), 100, 2⟩))⟩ ?_ ?_
 ·skip
  exact iL [(0, 0)] [((0, 0), .live _)] ⟨row_no rfl (by exact congrArg (fun l_ => LObj.mk (enc eEn l_) 100 2) (by rw [hjk, hv4, hv5])), trivial⟩ (he := (sM (by exact congrArg (AV.sl 0 0) (by rw [hjk, hv5])) sr_none))
 refine awp_ret ?_
 exact fretG rfl rfl rfl rfl
theorem growE (n : Nat) (hn : n ≤ 4294967296) : FnO Try.prog 88 [vN, .v (.int .i64 (n : Int))] (.sl 0 0 0) [⟨[], 100, 2⟩] := by
 refine fnE_of_body (N := 27) Try.func88 rfl rfl (resOf1 rfl) (by simp) (fun w0 X hL_ => ?_)
 refine seqR ?_
 refine mG vN ?_
 refine op0 ?_
 refine awp_seq ?_
 refine seqR ?_
 refine mG (.i (n : Int)) ?_
 refine bG ((.bool (decide ((n : Int) < 0)))) ?_
 refine op0 ?_
 refine awp_cond (decide ((n : Int) < 0)) rfl rfl (fun hc0 => ?_) (fun hc0 => ?_)
 ·skip
  have hf1 := of_decide_eq_true hc0
  exfalso; omega
 have hf2 := of_decide_eq_false hc0
 refine awp_skip ?_
 refine awp_seq ?_
 refine seqR ?_
 refine mG (.i (n : Int)) ?_
 refine mG vN ?_
 refine oG (aop_capNil rfl rfl rfl rfl ut101 rfl ?_)
 refine mG vN ?_
 refine oG (aop_len rfl rfl rfl rfl ut101 (len_nil rfl) ?_)
 refine bG ((.int .i64 0)) ?_
 refine oG (qB (.int .i64 (n : Int)) (subZ om) ?_)
 refine mG (.i (n : Int)) ?_
 refine rU (upd (upd (upd none_ 0 vN) 1 (.i (n : Int))) 4 vN) noOb ?_
 refine seqR ?_
 refine mG (.i (n : Int)) ?_
 refine bG ((.bool (decide ((n : Int) > 0)))) ?_
 refine op0 ?_
 refine awp_cond (decide ((n : Int) > 0)) rfl rfl (fun hc1 => ?_) (fun hc1 => ?_)
 ·skip
  have hf3 := of_decide_eq_true hc1
  refine regR ?_
  refine mG vN ?_
  refine mG vN ?_
  refine oG (aop_capNil rfl rfl rfl rfl ut101 rfl ?_)
  refine oG (aop_sliceNil rfl rfl rfl ut101 sz100 rfl rfl ⟨_, rfl⟩ ?_)
  refine mG (.i (n : Int)) ?_
  refine oG (aop_appZ (n := n) 51 rfl rfl rfl rfl ut101 ut3 in100 rfl (by decide) rfl rfl om om om rfl ?_)
  refine mG vN ?_
  refine oG (aop_len rfl rfl rfl rfl ut101 (len_nil rfl) ?_)
  refine oG (aop_sliceOwn (hgh := 0) rfl rfl rfl ut101 sz100 rfl ⟨_, rfl⟩ oo ?_)
  refine mG (.sl 51 0 0) ?_
  refine op0 ?_
  refine rT (upd (upd none_ 0 (.sl 51 0 0)) 4 vN) (updO noOb 51 (.live ⟨[], 100, 2⟩)) ?_
  refine seqR ?_
  refine mG (.sl 51 0 0) ?_
  refine mG (.sl 51 0 0) ?_
  refine op0 ?_
  refine awp_ret ?_
  exact fretO 51 rfl rfl rfl rfl rfl
 have hf4 := of_decide_eq_false hc1
 refine awp_skip ?_
 refine seqR ?_
 refine mG vN ?_
 refine mG vN ?_
 refine rU (upd none_ 4 vN) noOb ?_
 refine awp_imp _ (imp_adopt 4 52 100 2 rfl rfl) ?_
 refine awp_ret ?_
 exact fretO 52 rfl rfl rfl rfl rfl
abbrev Z30 (ls : List (List En)) (j : Nat) : Nat → OSt := (updO noOb 1 (.live ⟨(enc eEn (catK ls j)), 100, 2⟩))
abbrev Z2z (ls : List (List En)) : Nat → AV := (upd (upd none_ 0 (.q eEL ls)) 2 vN)
theorem concE (ls : List (List En)) (hl : ls.length ≤ 16) (hx : ∀ x, x ∈ ls → x.length ≤ 65536) : Fn Try.prog 83 [.ro ls.length (enc eEL ls)] (.ro ls.flatten.length (enc eEn ls.flatten)) := by
 refine fnE_of_body (N := 36) Try.func83 rfl rfl (resOf1 rfl) (by simp) (fun w0 X hL_ => ?_)
 refine seqR ?_
 refine mG vN ?_
 refine op0 ?_
 refine seqR ?_
 refine mG (.i 0) ?_
 refine op0 ?_
 refine awp_seq ?_
 refine seqR ?_
 refine mG (.q eEL ls) ?_
 refine oG (qN ut152 ?_)
 refine mG (.i 0) ?_
 refine rU (upd (upd (upd (upd (Z2z ls) 3 (.i 0)) 9 (.q eEL ls)) 10 (.i (ls.length : Int))) 11 (.i 0)) noOb ?_
 refine awp_block ?_
 refine awp_countI (fun k => ⟨(upd (upd (upd (upd (Z2z ls) 3 (.i ((catK ls k).length : Int))) 9 (.q eEL ls)) 10 (.i (ls.length : Int))) 11 (.i (k : Int))), noOb⟩) (fun k => True) (ls.length) ?_ trivial (fun k hk_k hinv => ?_)
 ·skip
  exact iN
 have hcl := catK_len hx k
 refine seqR ?_
 refine bG ((.bool (decide ((k : Int) < (ls.length : Int))))) ?_
 refine op0 ?_
 refine awp_seq ?_
 refine awp_cond (decide ((k : Int) < (ls.length : Int))) rfl rfl (fun hc0 => ?_) (fun hc0 => ?_)
 ·skip
  have hf1 := of_decide_eq_true hc0
  have hkl : k < ls.length := by omega
  have hxk := hx _ (getD_mem [] hkl)
  refine awp_skip ?_
  refine awp_seq ?_
  refine awp_block ?_
  refine seqR ?_
  refine oG (qX [] ut152 sz101 ?_)
  refine oG (qL (.q eEn (ls.getD k [])) ag101 ?_)
  refine mG (.q eEn (ls.getD k [])) ?_
  refine rU (upd (upd (upd (upd (upd (Z2z ls) 3 (.i ((catK ls k).length : Int))) 5 (.q eEn (ls.getD k []))) 9 (.q eEL ls)) 10 (.i (ls.length : Int))) 11 (.i (k : Int))) noOb ?_
  refine seqR ?_
  refine mG (.i ((catK ls k).length : Int)) ?_
  refine mG (.q eEn (ls.getD k [])) ?_
  refine oG (qN ut101 ?_)
  refine oG (qB (.int .i64 (((catK ls k).length : Int) + ((ls.getD k []).length : Int))) (addI om) ?_)
  refine mG (.i (((catK ls k).length : Int) + ((ls.getD k []).length : Int))) ?_
  refine rU (upd (upd (upd (upd (upd (Z2z ls) 3 (.i (((catK ls k).length : Int) + ((ls.getD k []).length : Int)))) 5 (.q eEn (ls.getD k []))) 9 (.q eEL ls)) 10 (.i (ls.length : Int))) 11 (.i (k : Int))) noOb ?_
  refine seqR ?_
  refine mG (.i (((catK ls k).length : Int) + ((ls.getD k []).length : Int))) ?_
  refine bG ((.bool (decide ((((catK ls k).length : Int) + ((ls.getD k []).length : Int)) < 0)))) ?_
  refine op0 ?_
  refine awp_cond (decide ((((catK ls k).length : Int) + ((ls.getD k []).length : Int)) < 0)) rfl rfl (fun hc1 => ?_) (fun hc1 => ?_)
  ·skip
   have hf2 := of_decide_eq_true hc1
   exfalso; omega
  have hf3 := of_decide_eq_false hc1
  refine awp_skip ?_
  refine regR ?_
  refine oG (qB (.int .i64 ((k + 1 : Nat) : Int)) (addN om) ?_)
  refine mG (.i ((k + 1 : Nat) : Int)) ?_
  refine op0 ?_
  show _ ∧ _
  have hs_ := catK_step (d := []) hkl
  refine ⟨by omega, trivial, ?_⟩
  exact iN (he := (sS rfl (sS rfl (sS rfl (sS (by exact congrArg (fun n_ : Int => AV.v (.int .i64 n_)) (by rw [hs_, List.length_append]; omega)) (sS rfl (sS rfl sr_none)))))))
 have hf4 := of_decide_eq_false hc0
 refine awp_exit ?_
 refine seqR ?_
 refine mG (.i ((catK ls k).length : Int)) ?_
 refine oG (callO_ 51 (growE ((catK ls k).length) oo) rfl rfl rfl rfl rfl bd88 lS (.sl _ _ _ trivial) (news1 news0) (free1 rfl) rfl rfl ?_)
 refine mG (.sl 51 0 0) ?_
 refine rU (upd (Z2z ls) 6 (.sl 51 0 0)) (updO noOb 51 (.live ⟨[], 100, 2⟩)) ?_
 refine awp_seq ?_
 refine seqR ?_
 refine mG (.q eEL ls) ?_
 refine oG (qN ut152 ?_)
 refine mG (.i 0) ?_
 refine op0 ?_
 refine awp_block ?_
 refine awp_countI (fun j => ⟨(upd (upd (upd (upd (upd none_ 2 vN) 6 (.sl 1 0 ((catK ls j).length))) 25 (.q eEL ls)) 26 (.i (ls.length : Int))) 27 (.i (j : Int))), (Z30 ls j)⟩) (fun j => True) (ls.length) ?_ trivial (fun j hk_j hinv => ?_)
 ·skip
  exact iI 51 1 rfl
 have hcl2 := catK_len hx j
 refine seqR ?_
 refine bG ((.bool (decide ((j : Int) < (ls.length : Int))))) ?_
 refine op0 ?_
 refine awp_seq ?_
 refine awp_cond (decide ((j : Int) < (ls.length : Int))) rfl rfl (fun hc2 => ?_) (fun hc2 => ?_)
 ·skip
  have hf5 := of_decide_eq_true hc2
  have hjl : j < ls.length := by omega
  have hxj := hx _ (getD_mem [] hjl)
  refine awp_skip ?_
  refine awp_seq ?_
  refine awp_block ?_
  refine seqR ?_
  refine oG (qX [] ut152 sz101 ?_)
  refine oG (qL (.q eEn (ls.getD j [])) ag101 ?_)
  refine mG (.q eEn (ls.getD j [])) ?_
  refine rU (upd (upd (upd (upd (upd (upd none_ 2 vN) 6 (.sl 1 0 ((catK ls j).length))) 8 (.q eEn (ls.getD j []))) 25 (.q eEL ls)) 26 (.i (ls.length : Int))) 27 (.i (j : Int))) (Z30 ls j) ?_
  refine regR ?_
  refine mG (.sl 1 0 ((catK ls j).length)) ?_
  refine mG (.q eEn (ls.getD j [])) ?_
  refine oG (aop_appE (f := eEn) (l := catK ls j) (l2 := ls.getD j []) 52 rfl rfl rfl rfl ut101 in100 rfl (by decide) rfl rfl rfl rfl rfl rfl (fun _ => rfl) rfl rfl rfl oo oo rfl ?_)
  refine mG (.sl 52 0 (((catK ls j) ++ (ls.getD j [])).length)) ?_
  refine op0 ?_
  refine rT (upd (upd (upd (upd (upd (upd none_ 2 vN) 6 (.sl 52 0 (((catK ls j) ++ (ls.getD j [])).length))) 8 (.q eEn (ls.getD j []))) 25 (.q eEL ls)) 26 (.i (ls.length : Int))) 27 (.i (j : Int))) (updO (updO (Z30 ls j) 1 .dead) 52 (.live ⟨(enc eEn ((catK ls j) ++ (ls.getD j []))), 100, 2⟩)) ?_
  refine regR ?_
  refine oG (qB (.int .i64 ((j + 1 : Nat) : Int)) (addN om) ?_)
  refine mG (.i ((j + 1 : Nat) : Int)) ?_
  refine op0 ?_
  show _ ∧ _
  have hs_ := catK_step (d := []) hjl
  refine ⟨by omega, trivial, ?_⟩
  exact iI 52 1 rfl (he := (sS rfl (sS rfl (sS rfl (sM (by exact congrArg (AV.sl 1 0) (congrArg List.length hs_.symm)) (sS rfl sr_none)))))) (hoo := (by exact congrArg (fun l_ => LObj.mk (enc eEn l_) 100 2) hs_))
 have hf6 := of_decide_eq_false hc2
 refine awp_exit ?_
 refine seqR ?_
 refine mG (.sl 1 0 ((catK ls j).length)) ?_
 refine mG (.sl 1 0 ((catK ls j).length)) ?_
 refine op0 ?_
 have he : catK ls j = ls.flatten := by unfold catK; rw [List.take_of_length_le om]
 refine awp_imp _ (imp_frozen rfl (fun _ h => h) (lee_lend 2 (.q eEn (catK ls j)) (lend_s (id := 1) (n := (catK ls j).length) (o := ⟨(enc eEn (catK ls j)), 100, 2⟩) rfl (enc_len (fun _ => rfl) (by first | rfl | (simp; done)))) lee_lend0)) ?_
 refine awp_ret ?_
 exact fret (av := .ro ((catK ls j).length) (enc eEn (catK ls j))) rfl rfl (by rw [he])
abbrev Z37 (a : List Sec) (d : List Pnt) (s e : Int) : List AV := (enc eEn ([(oneE a ((d.getD (pointI d (nodeA a s e)).toNat dP).left) (nodeA a s e) : (List En)), (oneE a ((d.getD (pointI d (nodeA a s e)).toNat dP).right) (nodeA a s e) : (List En))].flatten))
abbrev Z36 (d : List Pnt) (a : List Sec) (s e : Int) : List AV := [.i ((d.getD (pointI d (nodeA a s e)).toNat dP).node), .i ((d.getD (pointI d (nodeA a s e)).toNat dP).stem), .i ((d.getD (pointI d (nodeA a s e)).toNat dP).left), .i ((d.getD (pointI d (nodeA a s e)).toNat dP).right)]
abbrev Z35 (a : List Sec) (d : List Pnt) (s e : Int) : AV := (.q eEn (oneE a ((d.getD (pointI d (nodeA a s e)).toNat dP).stem) (nodeA a s e)))
abbrev Z34 (s e : Int) : Nat → OSt := (updO noOb 51 (.live ⟨[.i s, .i e], 100, 1⟩))
abbrev Z32 (a : List Sec) (d : List Pnt) : List AV := [.one, .q eSec a, .one, .q ePnt d, .one, .one, .one, .one, .one, .one]
abbrev Z31 (s e : Int) (d : List Pnt) (a : List Sec) : Nat → OSt := (updO (updO (Z34 s e) 53 (.live ⟨[.i 0, .i 0, .i 0, .i 0], 96, 1⟩)) 53 (.live ⟨(Z36 d a s e), 96, 1⟩))
abbrev Z39 (s e : Int) (a : List Sec) : Nat → OSt := (updO (Z34 s e) 52 (.live ⟨(enc eEn (endsL a (nodeA a s e))), 100, 2⟩))
abbrev Z38 (a : List Sec) (d : List Pnt) (s e : Int) : Nat → AV := (upd (upd (upd (upd none_ 0 (.rp (Z32 a d))) 4 vN) 5 (.i (nodeA a s e))) 9 (.pt 53 0))
abbrev Z33 (a : List Sec) (d : List Pnt) (s e : Int) : Nat → AV := (upd (upd (upd (upd none_ 0 (.rp (Z32 a d))) 3 (.pt 51 0)) 4 vN) 5 (.i (nodeA a s e)))
theorem g_Around (a : List Sec) (d : List Pnt) (s e : Int) (hs : a.length ≤ 65536) (hp : d.length ≤ 65536) : Fn Try.prog 68 [.rp [.one, .ro a.length (enc eSec a), .one, .ro d.length (enc ePnt d), .one, .one, .one, .one, .one, .one], .agg [.v (.int .i64 s), .v (.int .i64 e)]] (.ro ((aroundL a d s e).length) (enc eEn (aroundL a d s e))) := by
 refine fnE_of_body (N := 70) Try.func68 rfl rfl (resOf1 rfl) (by simp) (fun w0 X hL_ => ?_)
 refine seqR ?_
 refine oG (qW 51 ?_)
 refine mG vN ?_
 refine op0 ?_
 refine seqR ?_
 refine mG (.rp (Z32 a d)) ?_
 refine oG (qLB [.i s, .i e] ag100 sz100 ?_)
 refine oG (qC (g_node a s e oo) bd78 ?_)
 refine mG (.tup [.i (nodeA a s e), .b (!noNode a s e)]) ?_
 refine oG (qE ?_)
 refine oG (qE ?_)
 refine mG (.i (nodeA a s e)) ?_
 refine mG (.b (!noNode a s e)) ?_
 refine rU (upd (Z33 a d s e) 6 (.b (!noNode a s e))) (Z34 s e) ?_
 refine awp_seq ?_
 refine seqR ?_
 refine mG (.b (!noNode a s e)) ?_
 refine oG (aop_not rfl rfl rfl rfl ?_)
 refine op0 ?_
 refine awp_cond (!(!noNode a s e)) rfl rfl (fun hc0 => ?_) (fun hc0 => ?_)
 ·skip
  have hf1 := not_t hc0
  have hn : noNode a s e = true := by simpa using hc0
  refine seqR ?_
  refine mG vN ?_
  refine op0 ?_
  refine awp_imp _ (imp_frozen rfl (fun _ h => h) (lee_lend 4 (.ro 0 []) .nil lee_lend0)) ?_
  refine awp_ret ?_
  exact fret (av := .ro 0 []) rfl rfl (by rw [around_no hn]; rfl)
 have hf2 := not_f hc0
 have hn : noNode a s e = false := by simpa using hc0
 have hr_ := pointI_range d (nodeA a s e)
 refine awp_skip ?_
 refine seqR ?_
 refine mG (.rp (Z32 a d)) ?_
 refine mG (.i (nodeA a s e)) ?_
 refine oG (qC (g_Point d (nodeA a s e) oo) bd79 ?_)
 refine mG (.i (pointI d (nodeA a s e))) ?_
 refine rU (upd (Z33 a d s e) 7 (.i (pointI d (nodeA a s e)))) (Z34 s e) ?_
 refine awp_seq ?_
 refine seqR ?_
 refine mG (.i (pointI d (nodeA a s e))) ?_
 refine bG ((.bool (decide ((pointI d (nodeA a s e)) < 0)))) ?_
 refine op0 ?_
 refine awp_cond (decide ((pointI d (nodeA a s e)) < 0)) rfl rfl (fun hc1 => ?_) (fun hc1 => ?_)
 ·skip
  have hf3 := of_decide_eq_true hc1
  have hi : ¬ 0 ≤ pointI d (nodeA a s e) := by omega
  have hle0 := endsL_len a (nodeA a s e)
  refine seqR ?_
  refine mG (.rp (Z32 a d)) ?_
  refine mG (.i (nodeA a s e)) ?_
  refine oG (callO_ 52 (g_Ends a (nodeA a s e) oo) rfl rfl rfl rfl rfl bd81 lS (.sl _ _ _ trivial) (news1 news0) (free1 rfl) rfl rfl ?_)
  refine oG (aop_makeFunc (caps := [.tmp 3]) rfl rfl rfl rfl ?_)
  refine oG (callG_ true [52] [] (delE (endsL a (nodeA a s e)) s e oo) rfl rfl rfl rfl rfl bd80 (by decide) ⟨giv_no (o := ⟨(enc eEn (endsL a (nodeA a s e))), 100, 2⟩) rfl rfl, trivial⟩ ⟨(arg_own (.sl _ _ _ (by simp)) rfl), (arg_lent (lend_fn (lends_cons (lend_pt rfl lS) lends_nil))), trivial⟩ rfl trivial (fun _ => ⟨.sl _ _ _ trivial, ⟨(fun c hc => ((inferInstance : FlatL (enc eEn (restG (fun x : En => decide (x.sec = s ∧ x.en = e)) (endsL a (nodeA a s e)) ++ List.replicate ((endsL a (nodeA a s e)).length - (restG (fun x : En => decide (x.sec = s ∧ x.en = e)) (endsL a (nodeA a s e))).length) dE))).out c hc).mono (fun _ h => h.elim) id), trivial⟩⟩) rfl (place_cons (ost_no (cs := (enc eEn (restG (fun x : En => decide (x.sec = s ∧ x.en = e)) (endsL a (nodeA a s e)) ++ List.replicate ((endsL a (nodeA a s e)).length - (restG (fun x : En => decide (x.sec = s ∧ x.en = e)) (endsL a (nodeA a s e))).length) dE)))) place_nil) ?_)
  refine mG (.sl 52 0 ((restG (fun x : En => decide (x.sec = s ∧ x.en = e)) (endsL a (nodeA a s e))).length)) ?_
  refine rU (upd (upd (Z33 a d s e) 7 (.i (pointI d (nodeA a s e)))) 8 (.sl 52 0 ((restG (fun x : En => decide (x.sec = s ∧ x.en = e)) (endsL a (nodeA a s e))).length))) (updO (Z39 s e a) 52 (.live ⟨(enc eEn (restG (fun x : En => decide (x.sec = s ∧ x.en = e)) (endsL a (nodeA a s e)) ++ List.replicate ((endsL a (nodeA a s e)).length - (restG (fun x : En => decide (x.sec = s ∧ x.en = e)) (endsL a (nodeA a s e))).length) dE)), 100, 2⟩)) ?_
  refine awp_seq ?_
  refine seqR ?_
  refine mG (.sl 52 0 ((restG (fun x : En => decide (x.sec = s ∧ x.en = e)) (endsL a (nodeA a s e))).length)) ?_
  refine oG (aop_len rfl rfl rfl rfl ut101 (len_sl rfl) ?_)
  refine bG ((.bool (((restG (fun x : En => decide (x.sec = s ∧ x.en = e)) (endsL a (nodeA a s e))).length : Int) != 1))) ?_
  refine op0 ?_
  refine awp_cond (((restG (fun x : En => decide (x.sec = s ∧ x.en = e)) (endsL a (nodeA a s e))).length : Int) != 1) rfl rfl (fun hc2 => ?_) (fun hc2 => ?_)
  ·skip
   have hf4 := (bne_iff_ne).1 hc2
   have hlen : ¬ (otherE a (nodeA a s e) s e).length = 1 := by rw [otherE_rest]; simp at hc2; omega
   refine seqR ?_
   refine mG vN ?_
   refine rU (upd (upd (Z33 a d s e) 7 (.i (pointI d (nodeA a s e)))) 8 (.sl 52 0 ((restG (fun x : En => decide (x.sec = s ∧ x.en = e)) (endsL a (nodeA a s e))).length))) (updO (Z39 s e a) 52 (.live ⟨(enc eEn (restG (fun x : En => decide (x.sec = s ∧ x.en = e)) (endsL a (nodeA a s e)) ++ List.replicate ((endsL a (nodeA a s e)).length - (restG (fun x : En => decide (x.sec = s ∧ x.en = e)) (endsL a (nodeA a s e))).length) dE)), 100, 2⟩)) ?_
   refine awp_imp _ (imp_frozen rfl (fun _ h => h) (lee_lend 4 (.ro 0 []) .nil lee_lend0)) ?_
   refine awp_ret ?_
   exact fret (av := .ro 0 []) rfl rfl (by rw [around_many hn hi hlen]; rfl)
  have hf5 := (bne_eq_false_iff_eq).1 hc2
  have hlen : (otherE a (nodeA a s e) s e).length = 1 := by rw [otherE_rest]; simp at hc2; omega
  refine awp_skip ?_
  refine seqR ?_
  refine mG (.sl 52 0 ((restG (fun x : En => decide (x.sec = s ∧ x.en = e)) (endsL a (nodeA a s e))).length)) ?_
  refine mG (.sl 52 0 ((restG (fun x : En => decide (x.sec = s ∧ x.en = e)) (endsL a (nodeA a s e))).length)) ?_
  refine rU (upd (upd (upd (upd (upd none_ 0 (.rp (Z32 a d))) 3 (.pt 51 0)) 4 (.sl 52 0 ((restG (fun x : En => decide (x.sec = s ∧ x.en = e)) (endsL a (nodeA a s e))).length))) 5 (.i (nodeA a s e))) 7 (.i (pointI d (nodeA a s e)))) (updO (Z39 s e a) 52 (.live ⟨(enc eEn (restG (fun x : En => decide (x.sec = s ∧ x.en = e)) (endsL a (nodeA a s e)) ++ List.replicate ((endsL a (nodeA a s e)).length - (restG (fun x : En => decide (x.sec = s ∧ x.en = e)) (endsL a (nodeA a s e))).length) dE)), 100, 2⟩)) ?_
  refine awp_imp _ (imp_frozen rfl (fun _ h => h) (lee_lend 4 (.q eEn (restG (fun x : En => decide (x.sec = s ∧ x.en = e)) (endsL a (nodeA a s e)))) (lend_p (id := 52) (n := (restG (fun x : En => decide (x.sec = s ∧ x.en = e)) (endsL a (nodeA a s e))).length) (o := ⟨(enc eEn (restG (fun x : En => decide (x.sec = s ∧ x.en = e)) (endsL a (nodeA a s e)) ++ List.replicate ((endsL a (nodeA a s e)).length - (restG (fun x : En => decide (x.sec = s ∧ x.en = e)) (endsL a (nodeA a s e))).length) dE)), 100, 2⟩) (f := eEn) (l := restG (fun x : En => decide (x.sec = s ∧ x.en = e)) (endsL a (nodeA a s e))) (rest := List.replicate ((endsL a (nodeA a s e)).length - (restG (fun x : En => decide (x.sec = s ∧ x.en = e)) (endsL a (nodeA a s e))).length) dE) rfl rfl rfl (fun _ => rfl)) lee_lend0)) ?_
  refine awp_ret ?_
  exact fret (av := .ro ((restG (fun x : En => decide (x.sec = s ∧ x.en = e)) (endsL a (nodeA a s e))).length) (enc eEn (restG (fun x : En => decide (x.sec = s ∧ x.en = e)) (endsL a (nodeA a s e))))) rfl rfl (by rw [around_one hn hi hlen, otherE_rest])
 have hf6 := of_decide_eq_false hc1
 have hi : 0 ≤ pointI d (nodeA a s e) := by omega
 have ho1 := oneE_len a (d.getD (pointI d (nodeA a s e)).toNat dP).left (nodeA a s e)
 have ho2 := oneE_len a (d.getD (pointI d (nodeA a s e)).toNat dP).right (nodeA a s e)
 have hxl : ∀ x, x ∈ [oneE a (d.getD (pointI d (nodeA a s e)).toNat dP).left (nodeA a s e), oneE a (d.getD (pointI d (nodeA a s e)).toNat dP).right (nodeA a s e)] → x.length ≤ 65536 := fun x hx => by rcases List.mem_cons.1 hx with rfl | hx; omega; rw [List.mem_singleton.1 hx]; omega
 refine awp_skip ?_
 refine seqR ?_
 refine mG (.rp (Z32 a d)) ?_
 refine oG (aop_nilCheck rfl rfl rfl rfl rfl ?_)
 refine oG (qF (.rp (Z32 a d)) (.rp (Z32 a d)) ft104_0 sz33 ?_)
 refine oG (qF (.rp (Z32 a d)) (.rp [.q ePnt d, .one, .one, .one, .one, .one, .one]) ft33_3 sz31 ?_)
 refine oG (qL (.q ePnt d) ag31 ?_)
 refine mG (.i (pointI d (nodeA a s e))) ?_
 refine oG (aop_ixI dP rfl rfl rfl ut31 sz96 rfl rfl (fun _ => rfl) rfl om oo ?_)
 refine oG (qLB (Z36 d a s e) ag96 sz96 ?_)
 refine oG (aop_alloc 53 rfl rfl rfl rfl ze96 rfl ?_)
 refine oG (qS sz96 ?_)
 refine rU (upd (Z33 a d s e) 9 (.pt 53 0)) (Z31 s e d a) ?_
 refine awp_seq ?_
 refine seqR ?_
 refine fG (.pt 51 0) ft100_0 sz3 ?_
 refine oG (qL (.i s) ag3 ?_)
 refine op0 ?_
 refine awp_block ?_
 refine seqR ?_
 refine fG (.pt 53 1) ft96_1 sz3 ?_
 refine oG (qL (.i ((d.getD (pointI d (nodeA a s e)).toNat dP).stem)) ag3 ?_)
 refine bG ((.bool (s == ((d.getD (pointI d (nodeA a s e)).toNat dP).stem)))) ?_
 refine mG (.b (s == ((d.getD (pointI d (nodeA a s e)).toNat dP).stem))) ?_
 refine rU (upd (upd (Z38 a d s e) 41 (.i s)) 42 (.b (s == ((d.getD (pointI d (nodeA a s e)).toNat dP).stem)))) (Z31 s e d a) ?_
 refine awp_cond (s == ((d.getD (pointI d (nodeA a s e)).toNat dP).stem)) rfl rfl (fun hc3 => ?_) (fun hc3 => ?_)
 ·skip
  have hf7 := (beq_iff_eq).1 hc3
  have hq : s = (d.getD (pointI d (nodeA a s e)).toNat dP).stem := by simpa using hc3
  refine awp_seq ?_
  refine aD 12 [(57, .ro ([(oneE a ((d.getD (pointI d (nodeA a s e)).toNat dP).left) (nodeA a s e) : (List En)), (oneE a ((d.getD (pointI d (nodeA a s e)).toNat dP).right) (nodeA a s e) : (List En))].flatten.length) (Z37 a d s e)), (56, .ro 2 [.q eEn (oneE a ((d.getD (pointI d (nodeA a s e)).toNat dP).left) (nodeA a s e)), .q eEn (oneE a ((d.getD (pointI d (nodeA a s e)).toNat dP).right) (nodeA a s e))]), (55, .q eEn (oneE a ((d.getD (pointI d (nodeA a s e)).toNat dP).right) (nodeA a s e))), (54, .i (nodeA a s e)), (53, .i ((d.getD (pointI d (nodeA a s e)).toNat dP).right)), (52, .pt 53 3), (51, .rp (Z32 a d)), (50, .q eEn (oneE a ((d.getD (pointI d (nodeA a s e)).toNat dP).left) (nodeA a s e))), (49, .i (nodeA a s e)), (48, .i ((d.getD (pointI d (nodeA a s e)).toNat dP).left)), (47, .pt 53 2), (46, .rp (Z32 a d))] mixed ?_ ?_
  ·refine ⟨?_, ?_, ?_, ?_, ?_, ?_, ?_, ?_, ?_, ?_, ?_, ?_, trivial⟩
   ·exact sMv
   ·exact sF (.pt 53 0) (.pt 53 2) ft96_2 sz3
   ·exact sL ag3
   ·exact sMv
   ·exact sC (g_at a ((d.getD (pointI d (nodeA a s e)).toNat dP).left) (nodeA a s e) oo) bd84
   ·exact sMv
   ·exact sF (.pt 53 0) (.pt 53 3) ft96_3 sz3
   ·exact sL ag3
   ·exact sMv
   ·exact sC (g_at a ((d.getD (pointI d (nodeA a s e)).toNat dP).right) (nodeA a s e) oo) bd84
   ·exact dW 56 fun st hob hE => aop_lit rfl rfl rfl ut152 iz101 (by decide) (by decide) (by simp only [partsA, List.map, evA, hE 50 rfl, hE 55 rfl]; rfl) rfl (by rw [hob]; rfl)
   exact dW 57 fun st hob hE => call_ (concE [oneE a (d.getD (pointI d (nodeA a s e)).toNat dP).left (nodeA a s e), oneE a (d.getD (pointI d (nodeA a s e)).toNat dP).right (nodeA a s e)] (Nat.le_of_ble_eq_true rfl) hxl) rfl rfl rfl rfl rfl bd83 (by show [st.env 56] ++ _ = _; rw [hE 56 rfl]; rfl) (by rw [hob]; rfl)
  refine mG (.ro ([(oneE a ((d.getD (pointI d (nodeA a s e)).toNat dP).left) (nodeA a s e) : (List En)), (oneE a ((d.getD (pointI d (nodeA a s e)).toNat dP).right) (nodeA a s e) : (List En))].flatten.length) (Z37 a d s e)) ?_
  refine op0 ?_
  refine awp_ret ?_
  exact fret (av := .ro ([(oneE a ((d.getD (pointI d (nodeA a s e)).toNat dP).left) (nodeA a s e) : (List En)), (oneE a ((d.getD (pointI d (nodeA a s e)).toNat dP).right) (nodeA a s e) : (List En))].flatten.length) (enc eEn ([(oneE a ((d.getD (pointI d (nodeA a s e)).toNat dP).left) (nodeA a s e) : (List En)), (oneE a ((d.getD (pointI d (nodeA a s e)).toNat dP).right) (nodeA a s e) : (List En))].flatten))) rfl rfl (by rw [around_stem hn hi hq]; simp)
 have hf8 := (beq_eq_false_iff_ne).1 hc3
 have hq : ¬ s = (d.getD (pointI d (nodeA a s e)).toNat dP).stem := by simpa using hc3
 refine awp_seq ?_
 refine seqR ?_
 refine fG (.pt 53 2) ft96_2 sz3 ?_
 refine oG (qL (.i ((d.getD (pointI d (nodeA a s e)).toNat dP).left)) ag3 ?_)
 refine bG ((.bool (s == ((d.getD (pointI d (nodeA a s e)).toNat dP).left)))) ?_
 refine mG (.b (s == ((d.getD (pointI d (nodeA a s e)).toNat dP).left))) ?_
 refine rU (upd (upd (Z38 a d s e) 41 (.i s)) 58 (.b (s == ((d.getD (pointI d (nodeA a s e)).toNat dP).left)))) (Z31 s e d a) ?_
 refine awp_cond (s == ((d.getD (pointI d (nodeA a s e)).toNat dP).left)) rfl rfl (fun hc4 => ?_) (fun hc4 => ?_)
 ·skip
  have hf9 := (beq_iff_eq).1 hc4
  refine awp_skip ?_
  refine awp_cond (s == ((d.getD (pointI d (nodeA a s e)).toNat dP).left)) rfl rfl (fun hc5 => ?_) (fun hc5 => ?_)
  ·skip
   have hf10 := (beq_iff_eq).1 hc5
   refine seqR ?_
   refine mG (.rp (Z32 a d)) ?_
   refine fG (.pt 53 1) ft96_1 sz3 ?_
   refine oG (qL (.i ((d.getD (pointI d (nodeA a s e)).toNat dP).stem)) ag3 ?_)
   refine mG (.i (nodeA a s e)) ?_
   refine oG (qC (g_at a ((d.getD (pointI d (nodeA a s e)).toNat dP).stem) (nodeA a s e) oo) bd84 ?_)
   refine mG (Z35 a d s e) ?_
   refine rU (upd none_ 4 (Z35 a d s e)) (Z31 s e d a) ?_
   refine awp_ret ?_
   exact fret (av := .ro ((oneE a ((d.getD (pointI d (nodeA a s e)).toNat dP).stem) (nodeA a s e)).length) (enc eEn (oneE a ((d.getD (pointI d (nodeA a s e)).toNat dP).stem) (nodeA a s e)))) rfl rfl (by rw [around_leg hn hi hq (.inl (by simpa using hc4))])
  have hf11 := (beq_eq_false_iff_ne).1 hc5
  exfalso; rw [hc4] at hc5; cases hc5
 have hf12 := (beq_eq_false_iff_ne).1 hc4
 refine regR ?_
 refine fG (.pt 53 3) ft96_3 sz3 ?_
 refine oG (qL (.i ((d.getD (pointI d (nodeA a s e)).toNat dP).right)) ag3 ?_)
 refine bG ((.bool (s == ((d.getD (pointI d (nodeA a s e)).toNat dP).right)))) ?_
 refine mG (.b (s == ((d.getD (pointI d (nodeA a s e)).toNat dP).right))) ?_
 refine op0 ?_
 refine rT (upd (Z38 a d s e) 58 (.b (s == ((d.getD (pointI d (nodeA a s e)).toNat dP).right)))) (Z31 s e d a) ?_
 refine awp_cond (s == ((d.getD (pointI d (nodeA a s e)).toNat dP).right)) rfl rfl (fun hc6 => ?_) (fun hc6 => ?_)
 ·skip
  have hf13 := (beq_iff_eq).1 hc6
  refine seqR ?_
  refine mG (.rp (Z32 a d)) ?_
  refine fG (.pt 53 1) ft96_1 sz3 ?_
  refine oG (qL (.i ((d.getD (pointI d (nodeA a s e)).toNat dP).stem)) ag3 ?_)
  refine mG (.i (nodeA a s e)) ?_
  refine oG (qC (g_at a ((d.getD (pointI d (nodeA a s e)).toNat dP).stem) (nodeA a s e) oo) bd84 ?_)
  refine mG (Z35 a d s e) ?_
  refine rU (upd none_ 4 (Z35 a d s e)) (Z31 s e d a) ?_
  refine awp_ret ?_
  exact fret (av := .ro ((oneE a ((d.getD (pointI d (nodeA a s e)).toNat dP).stem) (nodeA a s e)).length) (enc eEn (oneE a ((d.getD (pointI d (nodeA a s e)).toNat dP).stem) (nodeA a s e)))) rfl rfl (by rw [around_leg hn hi hq (.inr (by simpa using hc6))])
 have hf14 := (beq_eq_false_iff_ne).1 hc6
 refine awp_skip ?_
 refine seqR ?_
 refine mG vN ?_
 refine op0 ?_
 refine awp_imp _ (imp_frozen rfl (fun _ h => h) (lee_lend 4 (.ro 0 []) .nil lee_lend0)) ?_
 refine awp_ret ?_
 exact fret (av := .ro 0 []) rfl rfl (by rw [around_off hn hi hq (fun h => h.elim (fun h => (beq_eq_false_iff_ne.1 hc4) h) (fun h => (beq_eq_false_iff_ne.1 hc6) h))]; rfl)
abbrev Z3a (l : List Int) (v : Int) : Nat → AV := (upd (upd (upd none_ 0 (.q eI l)) 1 (.i v)) 4 (.i 0))
theorem ixI (l : List Int) (v : Int) (hl : l.length ≤ 4294967296) : Fn Try.prog 41 [.ro l.length (enc eI l), .v (.int .i64 v)] (.v (.int .i64 (idxB (fun x => decide (v = x)) l))) := by
 refine fnE_of_body (N := 19) Try.func41 rfl rfl (resOf1 rfl) (by simp) (fun w0 X hL_ => ?_)
 refine seqR ?_
 refine mG (.i 0) ?_
 refine op0 ?_
 refine awp_seq ?_
 refine seqR ?_
 refine mG (.q eI l) ?_
 refine oG (qN ut42 ?_)
 refine mG (.i 0) ?_
 refine rU (upd (upd (Z3a l v) 7 (.i (l.length : Int))) 8 (.i 0)) noOb ?_
 refine awp_block ?_
 refine awp_countI (fun k => ⟨(upd (upd (Z3a l v) 7 (.i (l.length : Int))) 8 (.i (k : Int))), noOb⟩) (fun k => (l.take k).any (fun x => decide (v = x)) = false) (l.length) ?_ (by simp) (fun k hk_k hinv => ?_)
 ·skip
  exact iN
 refine seqR ?_
 refine bG ((.bool (decide ((k : Int) < (l.length : Int))))) ?_
 refine op0 ?_
 refine awp_seq ?_
 refine awp_cond (decide ((k : Int) < (l.length : Int))) rfl rfl (fun hc0 => ?_) (fun hc0 => ?_)
 ·skip
  have hf1 := of_decide_eq_true hc0
  refine awp_skip ?_
  refine awp_seq ?_
  refine awp_block ?_
  refine seqR ?_
  refine mG (.i (k : Int)) ?_
  refine mG (.i (k : Int)) ?_
  refine op0 ?_
  refine seqR ?_
  refine mG (.i v) ?_
  refine mG (.q eI l) ?_
  refine mG (.i (k : Int)) ?_
  refine oG (qX (0 : Int) ut42 sz3 ?_)
  refine oG (qL (.i (l.getD k 0)) ag3 ?_)
  refine bG ((.bool (v == (l.getD k 0)))) ?_
  refine rU (upd (upd (upd (upd (Z3a l v) 5 (.i (k : Int))) 7 (.i (l.length : Int))) 8 (.i (k : Int))) 16 (.b (v == (l.getD k 0)))) noOb ?_
  refine awp_cond (v == (l.getD k 0)) rfl rfl (fun hc1 => ?_) (fun hc1 => ?_)
  ·skip
   have hf2 := (beq_iff_eq).1 hc1
   refine seqR ?_
   refine mG (.i (k : Int)) ?_
   refine mG (.i (k : Int)) ?_
   refine op0 ?_
   refine awp_ret ?_
   exact fret (av := .v (.int .i64 (k : Int))) rfl rfl (by rw [idxB_stop (f := fun x => decide (v = x)) 0 om hinv (by simpa using hc1)] <;> rfl)
  have hf3 := (beq_eq_false_iff_ne).1 hc1
  refine awp_skip ?_
  refine regR ?_
  refine oG (qB (.int .i64 ((k + 1 : Nat) : Int)) (addN om) ?_)
  refine mG (.i ((k + 1 : Nat) : Int)) ?_
  refine op0 ?_
  show _ ∧ _
  refine ⟨by omega, (any_step 0 om hinv (by simpa using hc1)), ?_⟩
  exact iN
 have hf4 := of_decide_eq_false hc0
 refine awp_exit ?_
 refine seqR ?_
 refine mG (.i (-1)) ?_
 refine op0 ?_
 refine awp_ret ?_
 exact fret (av := .v (.int .i64 (-1))) rfl rfl (by rw [idxB_end (f := fun x => decide (v = x)) om hinv] <;> rfl)
theorem coI (l : List Int) (v : Int) (hl : l.length ≤ 4294967296) : Fn Try.prog 47 [.ro l.length (enc eI l), .v (.int .i64 v)] (.v (.bool (decide (v ∈ l)))) := by
 refine fnE_of_body (N := 9) Try.func47 rfl rfl (resOf1 rfl) (by simp) (fun w0 X hL_ => ?_)
 refine seqR ?_
 refine mG (.b false) ?_
 refine op0 ?_
 refine seqR ?_
 refine mG (.q eI l) ?_
 refine mG (.i v) ?_
 refine oG (qJ (ixI l v oo) bd41 ?_)
 refine bG ((.bool (decide ((idxB (fun x => decide (v = x)) l) ≥ 0)))) ?_
 refine mG (.b (decide ((idxB (fun x => decide (v = x)) l) ≥ 0))) ?_
 refine rU (upd none_ 4 (.b (decide ((idxB (fun x => decide (v = x)) l) ≥ 0)))) noOb ?_
 refine awp_ret ?_
 exact fret (av := .v (.bool (decide ((idxB (fun x => decide (v = x)) l) ≥ 0)))) rfl rfl (by rw [idxB_mem2])
theorem bd47 : bodied Try.prog 47 = true := by kernel_rfl
theorem bd48 : bodied Try.prog 48 = true := by kernel_rfl
theorem bd68 : bodied Try.prog 68 = true := by kernel_rfl
theorem bd70 : bodied Try.prog 70 = true := by kernel_rfl
theorem bd71 : bodied Try.prog 71 = true := by kernel_rfl
theorem pl79 : placesOf Try.prog 79 = some ((.agg #[(.int .i64 0), (.bool false)]), fun i => ([(0, 1), (1, 1)] : List (Nat × Nat)).toArray[i]?) := by kernel_rfl
theorem ze3 : (Try.prog.info? 3).bind (·.zero) = some (.int .i64 0) := by kernel_rfl
abbrev Z3d (s e p : Int) : Nat → OSt := (updO (updO noOb 51 (.live ⟨[.i s, .i e], 100, 1⟩)) 52 (.live ⟨[.i p, .one], 100, 1⟩))
abbrev Z3c (a : List Pnt) (c : List Sec) (s e : Int) : AV := (.rp (([.i ((a.getD (pointI a (nodeA c s e)).toNat dP).node), .i ((a.getD (pointI a (nodeA c s e)).toNat dP).stem), .i ((a.getD (pointI a (nodeA c s e)).toNat dP).left), .i ((a.getD (pointI a (nodeA c s e)).toNat dP).right)] : List AV) ++ ((enc ePnt a).drop (((pointI a (nodeA c s e)).toNat + 1) * 4))))
abbrev Z3b (c : List Sec) (a : List Pnt) : AV := (.rp [.one, .q eSec c, .one, .q ePnt a, .one, .one, .one, .one, .one, .one])
abbrev Z3e (c : List Sec) (a : List Pnt) : Nat → AV := (upd (upd none_ 0 (Z3b c a)) 4 (.pt 51 0))
theorem g_need (c : List Sec) (a : List Pnt) (s e p : Int) (hs : c.length ≤ 65536) (hp : a.length ≤ 65536) : Fn Try.prog 71 [.rp [.one, .ro c.length (enc eSec c), .one, .ro a.length (enc ePnt a), .one, .one, .one, .one, .one, .one], .agg [.v (.int .i64 s), .v (.int .i64 e)], .agg [.v (.int .i64 p), .one]] (.ro ((needL c a s e p).length) (enc eN (needL c a s e p))) := by
 refine fnE_of_body (N := 51) Try.func71 rfl rfl (resOf1 rfl) (by simp) (fun w0 X hL_ => ?_)
 refine seqR ?_
 refine oG (qW 51 ?_)
 refine oG (qW 52 ?_)
 refine mG vN ?_
 refine op0 ?_
 refine seqR ?_
 refine mG (Z3b c a) ?_
 refine oG (qLB [.i s, .i e] ag100 sz100 ?_)
 refine oG (qC (g_node c s e oo) bd78 ?_)
 refine mG (.tup [.i (nodeA c s e), .b (!noNode c s e)]) ?_
 refine oG (qE ?_)
 refine oG (qE ?_)
 refine mG (.i (nodeA c s e)) ?_
 refine mG (.b (!noNode c s e)) ?_
 refine rU (upd (upd (upd (Z3e c a) 5 (.pt 52 0)) 6 vN) 7 (.i (nodeA c s e))) (Z3d s e p) ?_
 refine seqR ?_
 refine mG (Z3b c a) ?_
 refine mG (.i (nodeA c s e)) ?_
 refine oG (qC (g_Point a (nodeA c s e) oo) bd79 ?_)
 refine mG (.i (pointI a (nodeA c s e))) ?_
 refine rU (upd (upd (upd (Z3e c a) 5 (.pt 52 0)) 6 vN) 9 (.i (pointI a (nodeA c s e)))) (Z3d s e p) ?_
 refine awp_seq ?_
 refine seqR ?_
 refine mG (.i (pointI a (nodeA c s e))) ?_
 refine bG ((.bool (decide ((pointI a (nodeA c s e)) < 0)))) ?_
 refine op0 ?_
 refine awp_cond (decide ((pointI a (nodeA c s e)) < 0)) rfl rfl (fun hc0 => ?_) (fun hc0 => ?_)
 ·skip
  have hf1 := of_decide_eq_true hc0
  have hi : pointI a (nodeA c s e) < 0 := by omega
  refine seqR ?_
  refine mG vN ?_
  refine op0 ?_
  refine awp_imp _ (imp_frozen rfl (fun _ h => h) (lee_lend 6 (.ro 0 []) .nil lee_lend0)) ?_
  refine awp_ret ?_
  exact fret (av := .ro 0 []) rfl rfl (by rw [need_no hi]; rfl)
 have hf2 := of_decide_eq_false hc0
 have hi : ¬ pointI a (nodeA c s e) < 0 := by omega
 have hr_ := pointI_range a (nodeA c s e)
 refine awp_skip ?_
 refine seqR ?_
 refine fG (.pt 52 0) ft100_0 sz3 ?_
 refine oG (qL (.i p) ag3 ?_)
 refine mG (.i p) ?_
 refine rU (upd (upd (upd (Z3e c a) 6 vN) 9 (.i (pointI a (nodeA c s e)))) 10 (.i p)) (Z3d s e p) ?_
 refine awp_seq ?_
 refine seqR ?_
 refine mG (Z3b c a) ?_
 refine oG (aop_nilCheck rfl rfl rfl rfl rfl ?_)
 refine oG (qF (Z3b c a) (Z3b c a) ft104_0 sz33 ?_)
 refine oG (qF (Z3b c a) (.rp [.q ePnt a, .one, .one, .one, .one, .one, .one]) ft33_3 sz31 ?_)
 refine oG (qL (.q ePnt a) ag31 ?_)
 refine mG (.i (pointI a (nodeA c s e))) ?_
 refine oG (aop_ixI dP rfl rfl rfl ut31 sz96 rfl rfl (fun _ => rfl) rfl om oo ?_)
 refine oG (qF (Z3c a c s e) (.rp (([.i ((a.getD (pointI a (nodeA c s e)).toNat dP).stem), .i ((a.getD (pointI a (nodeA c s e)).toNat dP).left), .i ((a.getD (pointI a (nodeA c s e)).toNat dP).right)] : List AV) ++ ((enc ePnt a).drop (((pointI a (nodeA c s e)).toNat + 1) * 4)))) ft96_1 sz3 ?_)
 refine oG (qL (.i ((a.getD (pointI a (nodeA c s e)).toNat dP).stem)) ag3 ?_)
 refine mG (.i p) ?_
 refine bG ((.bool (((a.getD (pointI a (nodeA c s e)).toNat dP).stem) == p))) ?_
 refine rU (upd (upd (upd (upd (Z3e c a) 6 vN) 9 (.i (pointI a (nodeA c s e)))) 10 (.i p)) 34 (.b (((a.getD (pointI a (nodeA c s e)).toNat dP).stem) == p))) (Z3d s e p) ?_
 refine cutG ⟨(upd (upd (upd (upd none_ 0 (Z3b c a)) 6 vN) 9 (.i (pointI a (nodeA c s e)))) 10 (.i (if (a.getD (pointI a (nodeA c s e)).toNat dP).stem = p then s else p))), noOb⟩ (fun s h => h) ?_ ?_
 ·skip
  refine awp_cond (((a.getD (pointI a (nodeA c s e)).toNat dP).stem) == p) rfl rfl (fun hc1 => ?_) (fun hc1 => ?_)
  ·skip
   have hf3 := (beq_iff_eq).1 hc1
   refine regR ?_
   refine fG (.pt 51 0) ft100_0 sz3 ?_
   refine oG (qL (.i s) ag3 ?_)
   refine mG (.i s) ?_
   refine op0 ?_
   show Imp _ _ _
   exact iN (he := (sS (by exact congrArg (fun n_ : Int => AV.v (.int .i64 n_)) (by first | exact (if_pos (by simpa using hc1)).symm | exact (if_neg (by simpa using hc1)).symm)) (sS rfl (sS rfl (sS rfl sr_none)))))
  have hf4 := (beq_eq_false_iff_ne).1 hc1
  refine awp_skip ?_
  show Imp _ _ _
  exact iN (he := (sS (by exact congrArg (fun n_ : Int => AV.v (.int .i64 n_)) (by first | exact (if_pos (by simpa using hc1)).symm | exact (if_neg (by simpa using hc1)).symm)) (sS rfl (sS rfl (sS rfl sr_none)))))
 refine seqR ?_
 refine mG (.i (pointI a (nodeA c s e))) ?_
 refine mG (Z3b c a) ?_
 refine oG (aop_nilCheck rfl rfl rfl rfl rfl ?_)
 refine oG (qF (Z3b c a) (Z3b c a) ft104_0 sz33 ?_)
 refine oG (qF (Z3b c a) (.rp [.q ePnt a, .one, .one, .one, .one, .one, .one]) ft33_3 sz31 ?_)
 refine oG (qL (.q ePnt a) ag31 ?_)
 refine mG (.i (pointI a (nodeA c s e))) ?_
 refine oG (aop_ixI dP rfl rfl rfl ut31 sz96 rfl rfl (fun _ => rfl) rfl om oo ?_)
 refine oG (qF (Z3c a c s e) (.rp (([.i ((a.getD (pointI a (nodeA c s e)).toNat dP).right)] : List AV) ++ ((enc ePnt a).drop (((pointI a (nodeA c s e)).toNat + 1) * 4)))) ft96_3 sz3 ?_)
 refine oG (qL (.i ((a.getD (pointI a (nodeA c s e)).toNat dP).right)) ag3 ?_)
 refine mG (.i (if (a.getD (pointI a (nodeA c s e)).toNat dP).stem = p then s else p)) ?_
 refine bG ((.bool (((a.getD (pointI a (nodeA c s e)).toNat dP).right) == (if (a.getD (pointI a (nodeA c s e)).toNat dP).stem = p then s else p)))) ?_
 refine oG (qD pl79 ?_)
 refine oG (aop_lit rfl rfl rfl ut72 iz79 (by decide) (by decide) rfl rfl ?_)
 refine mG (.ro 1 [.i (pointI a (nodeA c s e)), .b (((a.getD (pointI a (nodeA c s e)).toNat dP).right) == (if (a.getD (pointI a (nodeA c s e)).toNat dP).stem = p then s else p))]) ?_
 refine rU (upd none_ 6 (.ro 1 [.i (pointI a (nodeA c s e)), .b (((a.getD (pointI a (nodeA c s e)).toNat dP).right) == (if (a.getD (pointI a (nodeA c s e)).toNat dP).stem = p then s else p))])) noOb ?_
 refine awp_ret ?_
 exact fret (av := .ro 1 [.v (.int .i64 (pointI a (nodeA c s e))), .v (.bool (((a.getD (pointI a (nodeA c s e)).toNat dP).right) == (if (a.getD (pointI a (nodeA c s e)).toNat dP).stem = p then s else p)))]) rfl rfl (by rw [need_yes hi rfl rfl]; rfl)
theorem g_way1 (x g : Int)  : Fn Try.prog 70 [.agg [.v (.int .i64 x), .one], .rp [.v (.int .i64 g)]] (.v (.bool (decide (x = g)))) := by
 refine fnE_of_body (N := 8) Try.func70 rfl rfl (resOf1 rfl) (by simp) (fun w0 X hL_ => ?_)
 refine seqR ?_
 refine oG (qW 51 ?_)
 refine mG (.b false) ?_
 refine op0 ?_
 refine seqR ?_
 refine fG (.pt 51 0) ft100_0 sz3 ?_
 refine oG (qL (.i x) ag3 ?_)
 refine oG (qL (.i g) ag3 ?_)
 refine bG ((.bool (x == g))) ?_
 refine mG (.b (x == g)) ?_
 refine rU (upd none_ 3 (.b (x == g))) (updO noOb 51 (.live ⟨[.i x, .one], 100, 1⟩)) ?_
 refine awp_ret ?_
 exact fret (av := .v (.bool (x == g))) rfl rfl (by rfl)
abbrev Z3f (l : List En) (s : Int) : Nat → AV := (upd (upd (upd none_ 0 (.q eEn l)) 1 (.fn 70 [.rp [.i s]])) 4 (.i 0))
theorem ixE_w (l : List En) (s : Int) (hl : l.length ≤ 4294967296)  : Fn Try.prog 69 [.ro l.length (enc eEn l), .fn 70 [.rp [.v (.int .i64 s)]]] (.v (.int .i64 (idxB (fun x : En => decide (x.sec = s)) l))) := by
 refine fnE_of_body (N := 19) Try.func69 rfl rfl (resOf1 rfl) (by simp) (fun w0 X hL_ => ?_)
 refine seqR ?_
 refine mG (.i 0) ?_
 refine op0 ?_
 refine awp_seq ?_
 refine seqR ?_
 refine mG (.q eEn l) ?_
 refine oG (qN ut101 ?_)
 refine mG (.i 0) ?_
 refine rU (upd (upd (Z3f l s) 7 (.i (l.length : Int))) 8 (.i 0)) noOb ?_
 refine awp_block ?_
 refine awp_countI (fun k => ⟨(upd (upd (Z3f l s) 7 (.i (l.length : Int))) 8 (.i (k : Int))), noOb⟩) (fun k => (l.take k).any (fun x : En => decide (x.sec = s)) = false) (l.length) ?_ (by simp) (fun k hk_k hinv => ?_)
 ·skip
  exact iN
 refine seqR ?_
 refine bG ((.bool (decide ((k : Int) < (l.length : Int))))) ?_
 refine op0 ?_
 refine awp_seq ?_
 refine awp_cond (decide ((k : Int) < (l.length : Int))) rfl rfl (fun hc0 => ?_) (fun hc0 => ?_)
 ·skip
  have hf1 := of_decide_eq_true hc0
  refine awp_skip ?_
  refine awp_seq ?_
  refine awp_block ?_
  refine seqR ?_
  refine mG (.i (k : Int)) ?_
  refine mG (.i (k : Int)) ?_
  refine op0 ?_
  refine seqR ?_
  refine mG (.fn 70 [.rp [.i s]]) ?_
  refine mG (.q eEn l) ?_
  refine mG (.i (k : Int)) ?_
  refine oG (qX dE ut101 sz100 ?_)
  refine oG (qLB [.i ((l.getD k dE).sec), .i ((l.getD k dE).en)] ag100 sz100 ?_)
  refine oG (qC (g_way1 ((l.getD k dE).sec) s) bd70 ?_)
  refine rU (upd (upd (upd (upd (Z3f l s) 5 (.i (k : Int))) 7 (.i (l.length : Int))) 8 (.i (k : Int))) 16 (.b (decide (((l.getD k dE).sec) = s)))) noOb ?_
  refine awp_cond (decide (((l.getD k dE).sec) = s)) rfl rfl (fun hc1 => ?_) (fun hc1 => ?_)
  ·skip
   refine seqR ?_
   refine mG (.i (k : Int)) ?_
   refine mG (.i (k : Int)) ?_
   refine op0 ?_
   refine awp_ret ?_
   exact fret (av := .v (.int .i64 (k : Int))) rfl rfl (by rw [idxB_stop (f := fun x : En => decide (x.sec = s)) dE om hinv hc1] <;> rfl)
  refine awp_skip ?_
  refine regR ?_
  refine oG (qB (.int .i64 ((k + 1 : Nat) : Int)) (addN om) ?_)
  refine mG (.i ((k + 1 : Nat) : Int)) ?_
  refine op0 ?_
  show _ ∧ _
  refine ⟨by omega, (any_step dE om hinv hc1), ?_⟩
  exact iN
 have hf2 := of_decide_eq_false hc0
 refine awp_exit ?_
 refine seqR ?_
 refine mG (.i (-1)) ?_
 refine op0 ?_
 refine awp_ret ?_
 exact fret (av := .v (.int .i64 (-1))) rfl rfl (by rw [idxB_end (f := fun x : En => decide (x.sec = s)) om hinv] <;> rfl)
abbrev Z3q (a : List Sec) (c : List Pnt) (d : List Int) (s e : Int) (k : Nat) : List AV := [.i ((wyK a c d ⟨s, e, []⟩ k).s), .i ((wyK a c d ⟨s, e, []⟩ k).e)]
abbrev Z3p (a : List Sec) (c : List Pnt) (d : List Int) (s e : Int) (k : Nat) : List AV := [.i (((aroundL a c ((wyK a c d ⟨s, e, []⟩ k).s) ((wyK a c d ⟨s, e, []⟩ k).e)).getD (wyI a c (wyK a c d ⟨s, e, []⟩ k).s (wyK a c d ⟨s, e, []⟩ k).e (d.getD k 0)).toNat dE).en)]
abbrev Z3o (d : List Int) (k : Nat) (a : List Sec) (c : List Pnt) (s e : Int) : List AV := [.i (d.getD k 0), .i (1 - (((aroundL a c ((wyK a c d ⟨s, e, []⟩ k).s) ((wyK a c d ⟨s, e, []⟩ k).e)).getD (wyI a c (wyK a c d ⟨s, e, []⟩ k).s (wyK a c d ⟨s, e, []⟩ k).e (d.getD k 0)).toNat dE).en))]
abbrev Z3m (a : List Sec) (c : List Pnt) (d : List Int) (s e : Int) (k : Nat) : List AV := (enc eEn (aroundL a c ((wyK a c d ⟨s, e, []⟩ k).s) ((wyK a c d ⟨s, e, []⟩ k).e)))
abbrev Z3l (a : List Sec) (c : List Pnt) : List AV := [.one, .q eSec a, .one, .q ePnt c, .one, .one, .one, .one, .one, .one]
abbrev Z3k (a : List Sec) (c : List Pnt) (d : List Int) (s e : Int) (k : Nat) : Nat → OSt := (updO (updO noOb 1 (.live ⟨(enc eN ((wyK a c d ⟨s, e, []⟩ k).ns)), 79, 2⟩)) 2 (.live ⟨(Z3q a c d s e k), 100, 1⟩))
abbrev Z3j (a : List Sec) (c : List Pnt) (d : List Int) (s e : Int) (k : Nat) : AV := (.q eEn (aroundL a c ((wyK a c d ⟨s, e, []⟩ k).s) ((wyK a c d ⟨s, e, []⟩ k).e)))
abbrev Z3i (a : List Sec) (c : List Pnt) (d : List Int) (s e : Int) (k : Nat) : Nat → AV := (upd (upd (upd (upd (upd none_ 0 (.rp (Z3l a c))) 4 (.pt 2 0)) 6 vN) 7 (.b false)) 8 (.sl 1 0 ((wyK a c d ⟨s, e, []⟩ k).ns.length)))
abbrev Z3h (a : List Sec) (c : List Pnt) (d : List Int) (s e : Int) (k : Nat) : Nat → OSt := (updO (updO (Z3k a c d s e k) 53 (.live ⟨[.i 0], 3, 1⟩)) 53 (.live ⟨[.i (d.getD k 0)], 3, 1⟩))
abbrev Z3g (a : List Sec) (c : List Pnt) (d : List Int) (s e : Int) (k : Nat) : List AV := [.i (((aroundL a c ((wyK a c d ⟨s, e, []⟩ k).s) ((wyK a c d ⟨s, e, []⟩ k).e)).getD (wyI a c (wyK a c d ⟨s, e, []⟩ k).s (wyK a c d ⟨s, e, []⟩ k).e (d.getD k 0)).toNat dE).sec), .i (((aroundL a c ((wyK a c d ⟨s, e, []⟩ k).s) ((wyK a c d ⟨s, e, []⟩ k).e)).getD (wyI a c (wyK a c d ⟨s, e, []⟩ k).s (wyK a c d ⟨s, e, []⟩ k).e (d.getD k 0)).toNat dE).en)]
abbrev Z3n (a : List Sec) (c : List Pnt) (d : List Int) (s e : Int) (k : Nat) : Nat → AV := (upd (upd (upd (upd (upd (upd (Z3i a c d s e k) 10 (.pt 53 0)) 11 (Z3j a c d s e k)) 12 (.i (wyI a c (wyK a c d ⟨s, e, []⟩ k).s (wyK a c d ⟨s, e, []⟩ k).e (d.getD k 0)))) 13 (.q eI d)) 14 (.i (d.length : Int))) 15 (.i (k : Int)))
theorem g_way (a : List Sec) (c : List Pnt) (s e : Int) (d : List Int) (hs : a.length ≤ 65536) (hp : c.length ≤ 65536) (hpl : d.length ≤ 65536) : Fn Try.prog 48 [.rp [.one, .ro a.length (enc eSec a), .one, .ro c.length (enc ePnt c), .one, .one, .one, .one, .one, .one], .agg [.v (.int .i64 s), .v (.int .i64 e)], .ro d.length (enc eI d)] (.tup [.ro ((wyL a c s e d).length) (enc eN (wyL a c s e d)), .v (.bool (wyB a c s e d))]) := by
 refine fnE_of_body (N := 46) Try.func48 rfl rfl (resOf2 rfl) (by simp) (fun w0 X hL_ => ?_)
 refine seqR ?_
 refine oG (qW 51 ?_)
 refine mG vN ?_
 refine mG (.b false) ?_
 refine op0 ?_
 refine seqR ?_
 refine mG vN ?_
 refine rU (upd (upd (upd (upd (upd (upd none_ 0 (.rp (Z3l a c))) 2 (.q eI d)) 4 (.pt 51 0)) 6 vN) 7 (.b false)) 8 vN) (updO noOb 51 (.live ⟨[.i s, .i e], 100, 1⟩)) ?_
 refine awp_seq ?_
 refine seqR ?_
 refine mG (.q eI d) ?_
 refine oG (qN ut42 ?_)
 refine mG (.i 0) ?_
 refine op0 ?_
 refine awp_block ?_
 refine awp_countI (fun k => ⟨(upd (upd (upd (Z3i a c d s e k) 13 (.q eI d)) 14 (.i (d.length : Int))) 15 (.i (k : Int))), (Z3k a c d s e k)⟩) (fun k => wyF a c (d.drop k) (wyK a c d ⟨s, e, []⟩ k) = wyO a c s e d) (d.length) ?_ rfl (fun k hk_k hinv => ?_)
 ·skip
  refine (imp_adopt 8 52 79 2 rfl rfl).trans ?_
  exact iL [(52, 1), (51, 2)] [((52, 1), .live _), ((51, 2), .live _)] ⟨row_no (o := ⟨[], 79, 2⟩) rfl rfl, row_no rfl rfl, trivial⟩
 have hwl := wyK_len (secs := a) (pts := c) (path := d) ⟨s, e, []⟩ rfl k
 have hal := aroundL_len a c (wyK a c d ⟨s, e, []⟩ k).s (wyK a c d ⟨s, e, []⟩ k).e
 have hnl := need_len (secs := a) (pts := c) (s := (wyK a c d ⟨s, e, []⟩ k).s) (e := (wyK a c d ⟨s, e, []⟩ k).e) (p := ((aroundL a c (wyK a c d ⟨s, e, []⟩ k).s (wyK a c d ⟨s, e, []⟩ k).e).getD (wyI a c (wyK a c d ⟨s, e, []⟩ k).s (wyK a c d ⟨s, e, []⟩ k).e (d.getD k 0)).toNat dE).sec)
 refine seqR ?_
 refine bG ((.bool (decide ((k : Int) < (d.length : Int))))) ?_
 refine op0 ?_
 refine awp_seq ?_
 refine awp_cond (decide ((k : Int) < (d.length : Int))) rfl rfl (fun hc0 => ?_) (fun hc0 => ?_)
 ·skip
  have hf1 := of_decide_eq_true hc0
  refine awp_skip ?_
  refine awp_seq ?_
  refine awp_block ?_
  refine seqR ?_
  refine oG (qX (0 : Int) ut42 sz3 ?_)
  refine oG (qL (.i (d.getD k 0)) ag3 ?_)
  refine oG (aop_alloc 53 rfl rfl rfl rfl ze3 rfl ?_)
  refine oG (qS sz3 ?_)
  refine rU (upd (upd (upd (upd (Z3i a c d s e k) 10 (.pt 53 0)) 13 (.q eI d)) 14 (.i (d.length : Int))) 15 (.i (k : Int))) (Z3h a c d s e k) ?_
  refine seqR ?_
  refine mG (.rp (Z3l a c)) ?_
  refine oG (qLB (Z3q a c d s e k) ag100 sz100 ?_)
  refine oG (qJ (g_Around a c ((wyK a c d ⟨s, e, []⟩ k).s) ((wyK a c d ⟨s, e, []⟩ k).e) oo oo) bd68 ?_)
  refine mG (Z3j a c d s e k) ?_
  refine rU (upd (upd (upd (upd (upd (Z3i a c d s e k) 10 (.pt 53 0)) 11 (Z3j a c d s e k)) 13 (.q eI d)) 14 (.i (d.length : Int))) 15 (.i (k : Int))) (Z3h a c d s e k) ?_
  refine seqR ?_
  refine mG (Z3j a c d s e k) ?_
  refine oG (aop_makeFunc (caps := [.tmp 10]) rfl rfl rfl rfl ?_)
  refine oG (callL_ (show Fn Try.prog 69 [.q eEn (aroundL a c ((wyK a c d ⟨s, e, []⟩ k).s) ((wyK a c d ⟨s, e, []⟩ k).e)), .fn 70 [.rp [.i (d.getD k 0)]]] (.i (wyI a c (wyK a c d ⟨s, e, []⟩ k).s (wyK a c d ⟨s, e, []⟩ k).e (d.getD k 0))) from (by have h_ := ixE_w (aroundL a c (wyK a c d ⟨s, e, []⟩ k).s (wyK a c d ⟨s, e, []⟩ k).e) (d.getD k 0) om; exact h_)) rfl rfl rfl rfl rfl bd69 (lends_cons (lend_n (av := .q eEn (aroundL a c ((wyK a c d ⟨s, e, []⟩ k).s) ((wyK a c d ⟨s, e, []⟩ k).e)))) (lends_cons (lend_fn (lends_cons (lend_pt rfl lS) lends_nil)) lends_nil)) ?_)
  refine mG (.i (wyI a c (wyK a c d ⟨s, e, []⟩ k).s (wyK a c d ⟨s, e, []⟩ k).e (d.getD k 0))) ?_
  refine rU (Z3n a c d s e k) (Z3h a c d s e k) ?_
  refine awp_seq ?_
  refine seqR ?_
  refine mG (.i (wyI a c (wyK a c d ⟨s, e, []⟩ k).s (wyK a c d ⟨s, e, []⟩ k).e (d.getD k 0))) ?_
  refine bG ((.bool (decide ((wyI a c (wyK a c d ⟨s, e, []⟩ k).s (wyK a c d ⟨s, e, []⟩ k).e (d.getD k 0)) < 0)))) ?_
  refine op0 ?_
  refine awp_cond (decide ((wyI a c (wyK a c d ⟨s, e, []⟩ k).s (wyK a c d ⟨s, e, []⟩ k).e (d.getD k 0)) < 0)) rfl rfl (fun hc1 => ?_) (fun hc1 => ?_)
  ·skip
   have hf2 := of_decide_eq_true hc1
   have hO := wy_stop om hinv (show (wyI a c (wyK a c d ⟨s, e, []⟩ k).s (wyK a c d ⟨s, e, []⟩ k).e (d.getD k 0)) < 0 by omega)
   refine seqR ?_
   refine mG vN ?_
   refine mG (.b false) ?_
   refine rU (Z3n a c d s e k) (Z3h a c d s e k) ?_
   refine awp_imp _ (imp_frozen rfl (fun _ h => h) (lee_lend 7 (.b false) (lend_n (av := .b false)) (lee_lend 6 (.ro 0 []) .nil lee_lend0))) ?_
   refine awp_ret ?_
   exact fret (av := .tup [.ro 0 [], .v (.bool false)]) rfl rfl (by rw [(wyL_none hO).1, (wyL_none hO).2]; rfl)
  have hf3 := of_decide_eq_false hc1
  have hns : ¬ (wyI a c (wyK a c d ⟨s, e, []⟩ k).s (wyK a c d ⟨s, e, []⟩ k).e (d.getD k 0)) < 0 := by omega
  have hxo := wyX_ok (secs := a) (pts := c) (p := d.getD k 0) (w := (wyK a c d ⟨s, e, []⟩ k)) hns
  have hx1 : ((aroundL a c (wyK a c d ⟨s, e, []⟩ k).s (wyK a c d ⟨s, e, []⟩ k).e).getD (wyI a c (wyK a c d ⟨s, e, []⟩ k).s (wyK a c d ⟨s, e, []⟩ k).e (d.getD k 0)).toNat dE).en = 0 ∨ ((aroundL a c (wyK a c d ⟨s, e, []⟩ k).s (wyK a c d ⟨s, e, []⟩ k).e).getD (wyI a c (wyK a c d ⟨s, e, []⟩ k).s (wyK a c d ⟨s, e, []⟩ k).e (d.getD k 0)).toNat dE).en = 1 := hxo.1
  have hx3 := hxo.2.2
  refine awp_skip ?_
  refine awp_seq ?_
  refine aD 8 [(34, .q eN (needL a c ((wyK a c d ⟨s, e, []⟩ k).s) ((wyK a c d ⟨s, e, []⟩ k).e) (((aroundL a c ((wyK a c d ⟨s, e, []⟩ k).s) ((wyK a c d ⟨s, e, []⟩ k).e)).getD (wyI a c (wyK a c d ⟨s, e, []⟩ k).s (wyK a c d ⟨s, e, []⟩ k).e (d.getD k 0)).toNat dE).sec))), (33, .agg (Z3g a c d s e k)), (32, .rp (((Z3g a c d s e k) : List AV) ++ ((Z3m a c d s e k).drop (((wyI a c (wyK a c d ⟨s, e, []⟩ k).s (wyK a c d ⟨s, e, []⟩ k).e (d.getD k 0)).toNat + 1) * 2)))), (31, .i (wyI a c (wyK a c d ⟨s, e, []⟩ k).s (wyK a c d ⟨s, e, []⟩ k).e (d.getD k 0))), (30, .q eEn (aroundL a c ((wyK a c d ⟨s, e, []⟩ k).s) ((wyK a c d ⟨s, e, []⟩ k).e))), (29, .agg (Z3q a c d s e k)), (28, .rp (Z3l a c)), (27, .sl 1 0 ((wyK a c d ⟨s, e, []⟩ k).ns.length))] mixed ?_ ?_
  ·refine ⟨?_, ?_, ?_, ?_, ?_, ?_, ?_, ?_, trivial⟩
   ·exact sMv
   ·exact sMv
   ·exact sLB (Z3q a c d s e k) ag100 sz100
   ·exact sMv
   ·exact sMv
   ·exact dW 32 fun st hob hE => aop_ixI dE rfl rfl rfl ut101 sz100 (hE 30 rfl) (hE 31 rfl) (fun _ => rfl) rfl om oo (by rw [hob]; rfl)
   ·exact dW 33 fun st hob hE => aop_ldB (cells' := (Z3g a c d s e k)) rfl rfl rfl ag100 sz100 (hE 32 rfl) rfl rfl rfl (by rw [hob]; rfl)
   exact sC (g_need a c ((wyK a c d ⟨s, e, []⟩ k).s) ((wyK a c d ⟨s, e, []⟩ k).e) (((aroundL a c ((wyK a c d ⟨s, e, []⟩ k).s) ((wyK a c d ⟨s, e, []⟩ k).e)).getD (wyI a c (wyK a c d ⟨s, e, []⟩ k).s (wyK a c d ⟨s, e, []⟩ k).e (d.getD k 0)).toNat dE).sec) oo oo) bd71
  refine oG (aop_appE (f := eN) (l := (wyK a c d ⟨s, e, []⟩ k).ns) (l2 := needL a c ((wyK a c d ⟨s, e, []⟩ k).s) ((wyK a c d ⟨s, e, []⟩ k).e) (((aroundL a c ((wyK a c d ⟨s, e, []⟩ k).s) ((wyK a c d ⟨s, e, []⟩ k).e)).getD (wyI a c (wyK a c d ⟨s, e, []⟩ k).s (wyK a c d ⟨s, e, []⟩ k).e (d.getD k 0)).toNat dE).sec)) 54 rfl rfl rfl rfl ut72 in79 rfl (by decide) rfl rfl rfl rfl rfl rfl (fun _ => rfl) rfl rfl rfl oo oo rfl ?_)
  refine mG (.sl 54 0 ((((wyK a c d ⟨s, e, []⟩ k).ns) ++ (needL a c ((wyK a c d ⟨s, e, []⟩ k).s) ((wyK a c d ⟨s, e, []⟩ k).e) (((aroundL a c ((wyK a c d ⟨s, e, []⟩ k).s) ((wyK a c d ⟨s, e, []⟩ k).e)).getD (wyI a c (wyK a c d ⟨s, e, []⟩ k).s (wyK a c d ⟨s, e, []⟩ k).e (d.getD k 0)).toNat dE).sec))).length)) ?_
  refine op0 ?_
  refine rT (upd (upd (upd (upd (upd (upd (upd (upd (upd (upd (upd none_ 0 (.rp (Z3l a c))) 4 (.pt 2 0)) 6 vN) 7 (.b false)) 8 (.sl 54 0 ((((wyK a c d ⟨s, e, []⟩ k).ns) ++ (needL a c ((wyK a c d ⟨s, e, []⟩ k).s) ((wyK a c d ⟨s, e, []⟩ k).e) (((aroundL a c ((wyK a c d ⟨s, e, []⟩ k).s) ((wyK a c d ⟨s, e, []⟩ k).e)).getD (wyI a c (wyK a c d ⟨s, e, []⟩ k).s (wyK a c d ⟨s, e, []⟩ k).e (d.getD k 0)).toNat dE).sec))).length))) 10 (.pt 53 0)) 11 (Z3j a c d s e k)) 12 (.i (wyI a c (wyK a c d ⟨s, e, []⟩ k).s (wyK a c d ⟨s, e, []⟩ k).e (d.getD k 0)))) 13 (.q eI d)) 14 (.i (d.length : Int))) 15 (.i (k : Int))) (updO (updO (Z3h a c d s e k) 1 .dead) 54 (.live ⟨(enc eN (((wyK a c d ⟨s, e, []⟩ k).ns) ++ (needL a c ((wyK a c d ⟨s, e, []⟩ k).s) ((wyK a c d ⟨s, e, []⟩ k).e) (((aroundL a c ((wyK a c d ⟨s, e, []⟩ k).s) ((wyK a c d ⟨s, e, []⟩ k).e)).getD (wyI a c (wyK a c d ⟨s, e, []⟩ k).s (wyK a c d ⟨s, e, []⟩ k).e (d.getD k 0)).toNat dE).sec)))), 79, 2⟩)) ?_
  refine aD 8 [(43, .agg (Z3o d k a c s e)), (42, .i (1 - (((aroundL a c ((wyK a c d ⟨s, e, []⟩ k).s) ((wyK a c d ⟨s, e, []⟩ k).e)).getD (wyI a c (wyK a c d ⟨s, e, []⟩ k).s (wyK a c d ⟨s, e, []⟩ k).e (d.getD k 0)).toNat dE).en))), (41, .i (((aroundL a c ((wyK a c d ⟨s, e, []⟩ k).s) ((wyK a c d ⟨s, e, []⟩ k).e)).getD (wyI a c (wyK a c d ⟨s, e, []⟩ k).s (wyK a c d ⟨s, e, []⟩ k).e (d.getD k 0)).toNat dE).en)), (40, .rp (((Z3p a c d s e k) : List AV) ++ ((Z3m a c d s e k).drop (((wyI a c (wyK a c d ⟨s, e, []⟩ k).s (wyK a c d ⟨s, e, []⟩ k).e (d.getD k 0)).toNat + 1) * 2)))), (39, .rp (((Z3g a c d s e k) : List AV) ++ ((Z3m a c d s e k).drop (((wyI a c (wyK a c d ⟨s, e, []⟩ k).s (wyK a c d ⟨s, e, []⟩ k).e (d.getD k 0)).toNat + 1) * 2)))), (38, .i (wyI a c (wyK a c d ⟨s, e, []⟩ k).s (wyK a c d ⟨s, e, []⟩ k).e (d.getD k 0))), (37, .q eEn (aroundL a c ((wyK a c d ⟨s, e, []⟩ k).s) ((wyK a c d ⟨s, e, []⟩ k).e))), (36, .i (d.getD k 0))] mixed ?_ ?_
  ·refine ⟨?_, ?_, ?_, ?_, ?_, ?_, ?_, ?_, trivial⟩
   ·exact sL ag3
   ·exact sMv
   ·exact sMv
   ·exact dW 39 fun st hob hE => aop_ixI dE rfl rfl rfl ut101 sz100 (hE 37 rfl) (hE 38 rfl) (fun _ => rfl) rfl om oo (by rw [hob]; rfl)
   ·exact sF (.rp (((Z3g a c d s e k) : List AV) ++ ((Z3m a c d s e k).drop (((wyI a c (wyK a c d ⟨s, e, []⟩ k).s (wyK a c d ⟨s, e, []⟩ k).e (d.getD k 0)).toNat + 1) * 2)))) (.rp (((Z3p a c d s e k) : List AV) ++ ((Z3m a c d s e k).drop (((wyI a c (wyK a c d ⟨s, e, []⟩ k).s (wyK a c d ⟨s, e, []⟩ k).e (d.getD k 0)).toNat + 1) * 2)))) ft100_1 sz3
   ·exact (sLd ag3)
   ·exact sB (.int .i64 (1 - (((aroundL a c ((wyK a c d ⟨s, e, []⟩ k).s) ((wyK a c d ⟨s, e, []⟩ k).e)).getD (wyI a c (wyK a c d ⟨s, e, []⟩ k).s (wyK a c d ⟨s, e, []⟩ k).e (d.getD k 0)).toNat dE).en))) (subI om)
   exact dW 43 fun st hob hE => aop_build rfl rfl rfl pl100 (by simp only [partsA, List.map, evA, hE 36 rfl, hE 42 rfl]; rfl) (by rw [hob]; rfl)
  refine oG (qS sz100 ?_)
  refine op0 ?_
  refine regR ?_
  refine oG (qB (.int .i64 ((k + 1 : Nat) : Int)) (addN om) ?_)
  refine mG (.i ((k + 1 : Nat) : Int)) ?_
  refine op0 ?_
  show _ ∧ _
  refine ⟨by omega, (wy_step om hinv hns), ?_⟩
  exact iL [(54, 1), (2, 2)] [((54, 1), .live _), ((2, 2), .live _)] ⟨row_no rfl rfl, row_no (o := ⟨(Z3o d k a c s e), 100, 1⟩) rfl rfl, trivial⟩
 have hf4 := of_decide_eq_false hc0
 have hO := wy_end om hinv
 refine awp_exit ?_
 refine seqR ?_
 refine mG (.sl 1 0 ((wyK a c d ⟨s, e, []⟩ k).ns.length)) ?_
 refine mG (.sl 1 0 ((wyK a c d ⟨s, e, []⟩ k).ns.length)) ?_
 refine mG (.b true) ?_
 refine rU (upd (upd none_ 6 (.sl 1 0 ((wyK a c d ⟨s, e, []⟩ k).ns.length))) 7 (.b true)) (Z3k a c d s e k) ?_
 refine awp_imp _ (imp_frozen rfl (fun _ h => h) (lee_lend 7 (.b true) (lend_n (av := .b true)) (lee_lend 6 (.ro ((wyK a c d ⟨s, e, []⟩ k).ns.length) (enc eN ((wyK a c d ⟨s, e, []⟩ k).ns))) (lend_s (id := 1) (n := (wyK a c d ⟨s, e, []⟩ k).ns.length) (o := ⟨(enc eN ((wyK a c d ⟨s, e, []⟩ k).ns)), 79, 2⟩) rfl (enc_len (fun _ => rfl) (by first | rfl | (simp; done)))) lee_lend0))) ?_
 refine awp_ret ?_
 exact fret (av := .tup [.ro ((wyK a c d ⟨s, e, []⟩ k).ns.length) (enc eN ((wyK a c d ⟨s, e, []⟩ k).ns)), .v (.bool true)]) rfl rfl (by rw [(wyL_some hO).1, (wyL_some hO).2])
abbrev Z3v : List AV := [.ro 0 [], .v (.bool false)]
abbrev Z3t (c : List Sec) (d : List Pnt) : List AV := [.one, .q eSec c, .one, .q ePnt d, .one, .one, .one, .one, .one, .one]
abbrev Z3s (c : List Sec) (d : List Pnt) (a : List Int) (j : Nat) : AV := (.q eN (wyL c d (a.getD 0 0) (j : Int) (a.drop 1)))
abbrev Z3r (c : List Sec) (d : List Pnt) (a : List Int) : Nat → AV := (upd (upd (upd (upd none_ 0 (.rp (Z3t c d))) 1 (.q eI a)) 4 vN) 5 (.b false))
abbrev Z3u (c : List Sec) (d : List Pnt) (a : List Int) (k : Nat) : Nat → AV := (upd (upd (upd (upd (upd (Z3r c d a) 6 (.i (k : Int))) 7 (.i (a.getD k 0))) 14 (.q eI a)) 15 (.i (a.length : Int))) 16 (.i (k : Int)))
theorem g_Path (c : List Sec) (d : List Pnt) (a : List Int) (hs : c.length ≤ 65536) (hp : d.length ≤ 65536) (hpl : a.length ≤ 65536) : Fn Try.prog 26 [.rp [.one, .ro c.length (enc eSec c), .one, .ro d.length (enc ePnt d), .one, .one, .one, .one, .one, .one], .ro a.length (enc eI a)] (.tup [.ro ((paL c d a).length) (enc eN (paL c d a)), .v (.bool (paB c d a))]) := by
 refine fnE_of_body (N := 45) Try.func26 rfl rfl (resOf2 rfl) (by simp) (fun w0 X hL_ => ?_)
 refine seqR ?_
 refine mG vN ?_
 refine mG (.b false) ?_
 refine op0 ?_
 refine awp_seq ?_
 refine seqR ?_
 refine mG (.q eI a) ?_
 refine oG (qN ut42 ?_)
 refine bG ((.bool (decide ((a.length : Int) < 2)))) ?_
 refine rU (upd (Z3r c d a) 13 (.b (decide ((a.length : Int) < 2)))) noOb ?_
 refine awp_cond (decide ((a.length : Int) < 2)) rfl rfl (fun hc0 => ?_) (fun hc0 => ?_)
 ·skip
  have hf1 := of_decide_eq_true hc0
  have hp2 := pa_short (secs := c) (pts := d) (path := a) om
  refine seqR ?_
  refine mG vN ?_
  refine mG (.b false) ?_
  refine op0 ?_
  refine awp_imp _ (imp_frozen rfl (fun _ h => h) (lee_lend 5 (.b false) (lend_n (av := .b false)) (lee_lend 4 (.ro 0 []) .nil lee_lend0))) ?_
  refine awp_ret ?_
  exact fret (av := .tup Z3v) rfl rfl (by rw [hp2.1, hp2.2]; rfl)
 have hf2 := of_decide_eq_false hc0
 have hp2 : ¬ a.length < 2 := by omega
 refine awp_skip ?_
 refine awp_seq ?_
 refine seqR ?_
 refine mG (.q eI a) ?_
 refine oG (qN ut42 ?_)
 refine mG (.i 0) ?_
 refine op0 ?_
 refine awp_block ?_
 refine awp_countI (fun k => ⟨(upd (upd (upd (Z3r c d a) 14 (.q eI a)) 15 (.i (a.length : Int))) 16 (.i (k : Int))), noOb⟩) (fun k => (a.take k).Nodup) (a.length) ?_ (by simp) (fun k hk_k hinv => ?_)
 ·skip
  exact iN
 refine seqR ?_
 refine bG ((.bool (decide ((k : Int) < (a.length : Int))))) ?_
 refine op0 ?_
 refine awp_seq ?_
 refine awp_cond (decide ((k : Int) < (a.length : Int))) rfl rfl (fun hc1 => ?_) (fun hc1 => ?_)
 ·skip
  have hf3 := of_decide_eq_true hc1
  refine awp_skip ?_
  refine awp_seq ?_
  refine awp_block ?_
  refine seqR ?_
  refine mG (.i (k : Int)) ?_
  refine oG (qX (0 : Int) ut42 sz3 ?_)
  refine oG (qL (.i (a.getD k 0)) ag3 ?_)
  refine mG (.i (k : Int)) ?_
  refine mG (.i (a.getD k 0)) ?_
  refine rU (Z3u c d a k) noOb ?_
  refine seqR ?_
  refine mG (.q eI a) ?_
  refine mG (.i (k : Int)) ?_
  refine oG (aop_sliceRoN (l := 0) (hgh := k) (cells' := enc eI (a.take k)) ((a.take k)).length rfl rfl rfl ut42 sz3 rfl rfl ⟨_, rfl⟩ om oo (sliceE (f := eI) (fun _ => rfl) _ 0 _) (by simp; omega) ?_)
  refine mG (.i (a.getD k 0)) ?_
  refine oG (qJ (coI (a.take k) (a.getD k 0) oo) bd47 ?_)
  refine rU (upd (Z3u c d a k) 25 (.b (decide ((a.getD k 0) ∈ (a.take k))))) noOb ?_
  refine awp_cond (decide ((a.getD k 0) ∈ (a.take k))) rfl rfl (fun hc2 => ?_) (fun hc2 => ?_)
  ·skip
   have hdu := pa_dup (secs := c) (pts := d) (seen_dup (path := a) (k := k) om (of_decide_eq_true hc2))
   refine seqR ?_
   refine mG vN ?_
   refine mG (.b false) ?_
   refine op0 ?_
   refine awp_imp _ (imp_frozen rfl (fun _ h => h) (lee_lend 5 (.b false) (lend_n (av := .b false)) (lee_lend 4 (.ro 0 []) .nil lee_lend0))) ?_
   refine awp_ret ?_
   exact fret (av := .tup Z3v) rfl rfl (by rw [hdu.1, hdu.2]; rfl)
  have hnm : ¬ a.getD k 0 ∈ a.take k := of_decide_eq_false hc2
  refine awp_skip ?_
  refine regR ?_
  refine oG (qB (.int .i64 ((k + 1 : Nat) : Int)) (addN om) ?_)
  refine mG (.i ((k + 1 : Nat) : Int)) ?_
  refine op0 ?_
  show _ ∧ _
  refine ⟨by omega, (seen_step om hinv hnm), ?_⟩
  exact iN
 have hf4 := of_decide_eq_false hc1
 have hnd : a.Nodup := by rw [List.take_of_length_le om] at hinv; exact hinv
 refine awp_exit ?_
 refine awp_seq ?_
 refine seqR ?_
 refine mG (.i 0) ?_
 refine op0 ?_
 refine awp_block ?_
 refine awp_countI (fun j => ⟨(upd (Z3r c d a) 27 (.i (j : Int))), noOb⟩) (fun j => ∀ j_, j_ < j → wyB c d (a.getD 0 0) (j_ : Int) (a.drop 1) = false) (2) ?_ (fun _ h => by omega) (fun j hk_j hinv => ?_)
 ·skip
  exact iN
 refine seqR ?_
 refine bG ((.bool (decide ((j : Int) < 2)))) ?_
 refine op0 ?_
 refine awp_seq ?_
 refine awp_cond (decide ((j : Int) < 2)) rfl rfl (fun hc3 => ?_) (fun hc3 => ?_)
 ·skip
  have hf5 := of_decide_eq_true hc3
  refine awp_skip ?_
  refine awp_seq ?_
  refine awp_block ?_
  refine seqR ?_
  refine mG (.i (j : Int)) ?_
  refine mG (.i (j : Int)) ?_
  refine op0 ?_
  refine awp_seq ?_
  refine aD 13 [(9, .q eN (wyL c d (a.getD 0 0) (j : Int) (a.drop 1))), (41, .b (wyB c d (a.getD 0 0) (j : Int) (a.drop 1))), (40, .q eN (wyL c d (a.getD 0 0) (j : Int) (a.drop 1))), (30, .tup [.q eN (wyL c d (a.getD 0 0) (j : Int) (a.drop 1)), .b (wyB c d (a.getD 0 0) (j : Int) (a.drop 1))]), (39, .tup [.q eN (wyL c d (a.getD 0 0) (j : Int) (a.drop 1)), .b (wyB c d (a.getD 0 0) (j : Int) (a.drop 1))]), (38, .q eI (a.drop 1)), (37, .q eI a), (36, .agg [.i (a.getD 0 0), .i (j : Int)]), (35, .i (j : Int)), (34, .i (a.getD 0 0)), (33, .rp (([.i (a.getD 0 0)] : List AV) ++ ((enc eI a).drop ((0 + 1) * 1)))), (32, .q eI a), (31, .rp (Z3t c d))] mixed ?_ ?_
  ·iterate 13 (refine ⟨?_, ?_⟩; rotate_left)
   trivial
   ·exact sMv
   ·exact sMv
   ·exact dW 33 fun st hob hE => aop_ixE (k := 0) 0 rfl rfl rfl ut42 sz3 (hE 32 rfl) rfl (fun _ => rfl) rfl oo (by rw [hob]; rfl)
   ·exact (sLd ag3)
   ·exact sMv
   ·exact dW 36 fun st hob hE => aop_build rfl rfl rfl pl100 (by simp only [partsA, List.map, evA, hE 34 rfl, hE 35 rfl]; rfl) (by rw [hob]; rfl)
   ·exact sMv
   ·exact dW 38 fun st hob hE => aop_sliceRoN (l := 1) (hgh := a.length) (cells' := enc eI (a.drop 1)) ((a.drop 1)).length rfl rfl rfl ut42 sz3 (hE 37 rfl) ⟨_, rfl⟩ rfl oo oo (sliceE1 (f := eI) (fun _ => rfl) _ _ _ rfl) oz (by rw [hob]; rfl)
   ·exact dW 39 fun st hob hE => call_ (g_way c d (a.getD 0 0) (j : Int) (a.drop 1) oo oo oo) rfl rfl rfl rfl rfl bd48 (by show [st.env 31, st.env 36, st.env 38] ++ _ = _; rw [hE 31 rfl, hE 36 rfl, hE 38 rfl]; rfl) (by rw [hob]; rfl)
   ·exact sMv
   ·exact dW 40 fun st hob hE => aop_extract rfl rfl rfl (hE 30 rfl) rfl (by rw [hob]; rfl)
   ·exact dW 41 fun st hob hE => aop_extract rfl rfl rfl (hE 30 rfl) rfl (by rw [hob]; rfl)
   exact sMv
  refine mG (.b (wyB c d (a.getD 0 0) (j : Int) (a.drop 1))) ?_
  refine op0 ?_
  refine rT (upd (upd (upd (upd (Z3r c d a) 8 (.i (j : Int))) 9 (Z3s c d a j)) 10 (.b (wyB c d (a.getD 0 0) (j : Int) (a.drop 1)))) 27 (.i (j : Int))) noOb ?_
  refine seqR ?_
  refine mG (.b (wyB c d (a.getD 0 0) (j : Int) (a.drop 1))) ?_
  refine op0 ?_
  refine awp_cond (wyB c d (a.getD 0 0) (j : Int) (a.drop 1)) rfl rfl (fun hc4 => ?_) (fun hc4 => ?_)
  ·skip
   have hpa := pa_at hp2 hnd om hinv hc4
   refine seqR ?_
   refine mG (Z3s c d a j) ?_
   refine mG (Z3s c d a j) ?_
   refine mG (.b true) ?_
   refine rU (upd (upd (upd (upd (upd (upd (upd (upd none_ 0 (.rp (Z3t c d))) 1 (.q eI a)) 4 (Z3s c d a j)) 5 (.b true)) 8 (.i (j : Int))) 9 (Z3s c d a j)) 10 (.b (wyB c d (a.getD 0 0) (j : Int) (a.drop 1)))) 27 (.i (j : Int))) noOb ?_
   refine awp_ret ?_
   exact fret (av := .tup [.ro ((wyL c d (a.getD 0 0) (j : Int) (a.drop 1)).length) (enc eN (wyL c d (a.getD 0 0) (j : Int) (a.drop 1))), .v (.bool true)]) rfl rfl (by rw [hpa.1, hpa.2])
  refine awp_skip ?_
  refine regR ?_
  refine oG (qB (.int .i64 ((j + 1 : Nat) : Int)) (addN om) ?_)
  refine mG (.i ((j + 1 : Nat) : Int)) ?_
  refine op0 ?_
  show _ ∧ _
  refine ⟨by omega, (fun j_ h => by rcases Nat.lt_or_ge j_ j with h2 | h2; exact hinv j_ h2; rw [show j_ = j by omega]; exact hc4), ?_⟩
  exact iN
 have hf6 := of_decide_eq_false hc3
 have hpe := pa_end (secs := c) (pts := d) hp2 hnd om hinv
 refine awp_exit ?_
 refine seqR ?_
 refine mG vN ?_
 refine mG (.b false) ?_
 refine op0 ?_
 refine awp_imp _ (imp_frozen rfl (fun _ h => h) (lee_lend 5 (.b false) (lend_n (av := .b false)) (lee_lend 4 (.ro 0 []) .nil lee_lend0))) ?_
 refine awp_ret ?_
 exact fret (av := .tup Z3v) rfl rfl (by rw [hpe.1, hpe.2]; rfl)
theorem ag116 : aggT Try.prog 116 = some true := by kernel_rfl
theorem ag38 : aggT Try.prog 38 = some false := by kernel_rfl
theorem bd49 : bodied Try.prog 49 = true := by kernel_rfl
theorem bd50 : bodied Try.prog 50 = true := by kernel_rfl
theorem bd51 : bodied Try.prog 51 = true := by kernel_rfl
theorem bd52 : bodied Try.prog 52 = true := by kernel_rfl
theorem bd54 : bodied Try.prog 54 = true := by kernel_rfl
theorem bd55 : bodied Try.prog 55 = true := by kernel_rfl
theorem bd56 : bodied Try.prog 56 = true := by kernel_rfl
theorem bd57 : bodied Try.prog 57 = true := by kernel_rfl
theorem bd72 : bodied Try.prog 72 = true := by kernel_rfl
theorem bd76 : bodied Try.prog 76 = true := by kernel_rfl
theorem bd77 : bodied Try.prog 77 = true := by kernel_rfl
theorem ft116_2 : fieldT Try.prog 116 2 = some (42, 2) := by kernel_rfl
theorem sz116 : (Try.prog.info? 116).map (·.size) = some 3 := by kernel_rfl
theorem ut4 : Try.prog.underlying 4 = some (.bool) := by kernel_rfl
theorem ut66 : Try.prog.underlying 66 = some (.slice 116) := by kernel_rfl
theorem g_Part1 (l : List Int) (s : Int) (hl : l.length ≤ 4294967296) : Fn Try.prog 77 [.ro l.length (enc eI l), .rp [.v (.int .i64 s)]] (.v (.bool (decide (s ∈ l)))) := by
 refine fnE_of_body (N := 7) Try.func77 rfl rfl (resOf1 rfl) (by simp) (fun w0 X hL_ => ?_)
 refine seqR ?_
 refine mG (.b false) ?_
 refine op0 ?_
 refine seqR ?_
 refine mG (.q eI l) ?_
 refine oG (qL (.i s) ag3 ?_)
 refine oG (qJ (coI l s oo) bd47 ?_)
 refine mG (.b (decide (s ∈ l))) ?_
 refine rU (upd none_ 3 (.b (decide (s ∈ l)))) noOb ?_
 refine awp_ret ?_
 exact fret (av := .v (.bool (decide (s ∈ l)))) rfl rfl rfl
abbrev Z3w (a : List (List Int)) (s : Int) : Nat → AV := (upd (upd (upd none_ 0 (.q eIL a)) 1 (.fn 77 [.rp [.i s]])) 4 (.i 0))
theorem ixIL (a : List (List Int)) (s : Int) (hp : a.length ≤ 65536) (hpl : ∀ x, x ∈ a → x.length ≤ 65536) : Fn Try.prog 76 [.ro a.length (enc eIL a), .fn 77 [.rp [.v (.int .i64 s)]]] (.v (.int .i64 (partI a s))) := by
 refine fnE_of_body (N := 19) Try.func76 rfl rfl (resOf1 rfl) (by simp) (fun w0 X hL_ => ?_)
 refine seqR ?_
 refine mG (.i 0) ?_
 refine op0 ?_
 refine awp_seq ?_
 refine seqR ?_
 refine mG (.q eIL a) ?_
 refine oG (qN ut30 ?_)
 refine mG (.i 0) ?_
 refine rU (upd (upd (Z3w a s) 7 (.i (a.length : Int))) 8 (.i 0)) noOb ?_
 refine awp_block ?_
 refine awp_countI (fun k => ⟨(upd (upd (Z3w a s) 7 (.i (a.length : Int))) 8 (.i (k : Int))), noOb⟩) (fun k => (a.take k).any (fun l => decide (s ∈ l)) = false) (a.length) ?_ (by simp) (fun k hk_k hinv => ?_)
 ·skip
  exact iN
 refine seqR ?_
 refine bG ((.bool (decide ((k : Int) < (a.length : Int))))) ?_
 refine op0 ?_
 refine awp_seq ?_
 refine awp_cond (decide ((k : Int) < (a.length : Int))) rfl rfl (fun hc0 => ?_) (fun hc0 => ?_)
 ·skip
  have hf1 := of_decide_eq_true hc0
  have hpk := hpl _ (getD_mem (l := a) (k := k) [] om)
  refine awp_skip ?_
  refine awp_seq ?_
  refine awp_block ?_
  refine seqR ?_
  refine mG (.i (k : Int)) ?_
  refine mG (.i (k : Int)) ?_
  refine op0 ?_
  refine seqR ?_
  refine mG (.fn 77 [.rp [.i s]]) ?_
  refine mG (.q eIL a) ?_
  refine mG (.i (k : Int)) ?_
  refine oG (qX [] ut30 sz42 ?_)
  refine oG (qL (.q eI (a.getD k [])) ag42 ?_)
  refine oG (qJ (g_Part1 (a.getD k []) s oo) bd77 ?_)
  refine rU (upd (upd (upd (upd (Z3w a s) 5 (.i (k : Int))) 7 (.i (a.length : Int))) 8 (.i (k : Int))) 16 (.b (decide (s ∈ (a.getD k []))))) noOb ?_
  refine awp_cond (decide (s ∈ (a.getD k []))) rfl rfl (fun hc1 => ?_) (fun hc1 => ?_)
  ·skip
   refine seqR ?_
   refine mG (.i (k : Int)) ?_
   refine mG (.i (k : Int)) ?_
   refine op0 ?_
   refine awp_ret ?_
   exact fret (av := .v (.int .i64 (k : Int))) rfl rfl (by unfold partI; rw [idxB_stop [] om hinv hc1] <;> rfl)
  refine awp_skip ?_
  refine regR ?_
  refine oG (qB (.int .i64 ((k + 1 : Nat) : Int)) (addN om) ?_)
  refine mG (.i ((k + 1 : Nat) : Int)) ?_
  refine op0 ?_
  show _ ∧ _
  refine ⟨by omega, (any_step [] om hinv hc1), ?_⟩
  exact iN
 have hf2 := of_decide_eq_false hc0
 refine awp_exit ?_
 refine seqR ?_
 refine mG (.i (-1)) ?_
 refine op0 ?_
 refine awp_ret ?_
 exact fret (av := .v (.int .i64 (-1))) rfl rfl (by unfold partI; rw [idxB_end om hinv] <;> rfl)
theorem g_Part (a : List (List Int)) (s : Int) (hp : a.length ≤ 65536) (hpl : ∀ x, x ∈ a → x.length ≤ 65536) : Fn Try.prog 61 [.rp [.one, .one, .ro a.length (enc eIL a), .one, .one, .one, .one, .one, .one, .one], .v (.int .i64 s)] (.v (.int .i64 (partI a s))) := by
 refine fnE_of_body (N := 14) Try.func61 rfl rfl (resOf1 rfl) (by simp) (fun w0 X hL_ => ?_)
 refine seqR ?_
 refine oG (qW 51 ?_)
 refine mG (.i 0) ?_
 refine op0 ?_
 refine awp_seq ?_
 refine seqR ?_
 refine mG (.rp [.one, .one, .q eIL a, .one, .one, .one, .one, .one, .one, .one]) ?_
 refine oG (aop_ptNil rfl rfl rfl ut61 rfl rfl rfl (.inl ⟨rfl, rfl⟩) ?_)
 refine rU (upd (upd (upd (upd none_ 0 (.rp [.one, .one, .q eIL a, .one, .one, .one, .one, .one, .one, .one])) 3 (.pt 51 0)) 4 (.i 0)) 6 (.b false)) (updO noOb 51 (.live ⟨[.i s], 3, 1⟩)) ?_
 refine awp_cond false rfl rfl (fun h => by cases h) (fun _ => ?_)
 refine awp_skip ?_
 refine seqR ?_
 refine mG (.rp [.one, .one, .q eIL a, .one, .one, .one, .one, .one, .one, .one]) ?_
 refine oG (aop_nilCheck rfl rfl rfl rfl rfl ?_)
 refine oG (qF (.rp [.one, .one, .q eIL a, .one, .one, .one, .one, .one, .one, .one]) (.rp [.one, .one, .q eIL a, .one, .one, .one, .one, .one, .one, .one]) ft104_0 sz33 ?_)
 refine oG (qF (.rp [.one, .one, .q eIL a, .one, .one, .one, .one, .one, .one, .one]) (.rp [.q eIL a, .one, .one, .one, .one, .one, .one, .one]) ft33_2 sz30 ?_)
 refine oG (qL (.q eIL a) ag30 ?_)
 refine oG (aop_makeFunc (caps := [.tmp 3]) rfl rfl rfl rfl ?_)
 refine oG (callL_ (ixIL a s hp hpl) rfl rfl rfl rfl rfl bd76 (lends_cons (lend_n (av := .q eIL a)) (lends_cons (lend_fn (lends_cons (lend_pt rfl lS) lends_nil)) lends_nil)) ?_)
 refine mG (.i (partI a s)) ?_
 refine rU (upd none_ 4 (.i (partI a s))) (updO noOb 51 (.live ⟨[.i s], 3, 1⟩)) ?_
 refine awp_ret ?_
 exact fret (av := .v (.int .i64 (partI a s))) rfl rfl rfl
theorem p_wrong (p : Int) (r : Bool) (a : List Bool) (hl : a.length ≤ 4294967296) : Fn Try.prog 52 [.agg [.v (.int .i64 p), .v (.bool r)], .ro a.length (enc eB a)] (.v (.bool (hasB a p != r))) := by
 refine fnE_of_body (N := 12) Try.func52 rfl rfl (resOf1 rfl) (by simp) (fun w0 X hL_ => ?_)
 refine seqR ?_
 refine oG (qW 51 ?_)
 refine mG (.b false) ?_
 refine op0 ?_
 refine awp_seq ?_
 refine aD 7 [(11, .b ((hasB a p) != r)), (10, .b r), (9, .pt 51 1), (8, .b (hasB a p)), (7, .i p), (6, .pt 51 0), (5, .q eB a)] mixed ?_ ?_
 ·refine ⟨?_, ?_, ?_, ?_, ?_, ?_, ?_, trivial⟩
  ·exact sMv
  ·exact sF (.pt 51 0) (.pt 51 0) ft79_0 sz3
  ·exact sL ag3
  ·exact dW 8 fun st hob hE => call_ (p_has a p oo) rfl rfl rfl rfl rfl bd55 (by show [st.env 5, st.env 7] ++ _ = _; rw [hE 5 rfl, hE 7 rfl]; rfl) (by rw [hob]; rfl)
  ·exact sF (.pt 51 0) (.pt 51 1) ft79_1 sz4
  ·exact sL ag4
  exact dW 11 fun st hob hE => aop_neB rfl rfl rfl (hE 8 rfl) (hE 10 rfl) ut4 (by rw [hob]; rfl)
 refine mG (.b ((hasB a p) != r)) ?_
 refine op0 ?_
 refine awp_ret ?_
 exact fret (av := .v (.bool ((hasB a p) != r))) rfl rfl rfl
theorem p_Moves1 (p : Int) (r : Bool) (a : List Bool) (hl : a.length ≤ 4294967296) : Fn Try.prog 51 [.agg [.v (.int .i64 p), .v (.bool r)], .rp [.ro a.length (enc eB a)]] (.v (.bool (!(hasB a p != r)))) := by
 refine fnE_of_body (N := 8) Try.func51 rfl rfl (resOf1 rfl) (by simp) (fun w0 X hL_ => ?_)
 refine seqR ?_
 refine oG (qW 51 ?_)
 refine mG (.b false) ?_
 refine op0 ?_
 refine seqR ?_
 refine oG (qLB [.i p, .b r] ag79 sz79 ?_)
 refine oG (qL (.q eB a) ag38 ?_)
 refine oG (qJ (p_wrong p r a oo) bd52 ?_)
 refine oG (aop_not rfl rfl rfl rfl ?_)
 refine mG (.b (!(hasB a p != r))) ?_
 refine rU (upd none_ 3 (.b (!(hasB a p != r)))) (updO noOb 51 (.live ⟨[.i p, .b r], 79, 1⟩)) ?_
 refine awp_ret ?_
 exact fret (av := .v (.bool (!(hasB a p != r)))) rfl rfl rfl
abbrev Z3x (l : List Need) (a : List Bool) : Nat → AV := (upd (upd (upd none_ 0 (.q eN l)) 1 (.fn 51 [.rp [.q eB a]])) 4 (.i 0))
theorem ixN_del (l : List Need) (a : List Bool) (hl : l.length ≤ 4294967296) (hr : a.length ≤ 4294967296) : Fn Try.prog 54 [.ro l.length (enc eN l), .fn 51 [.rp [.ro a.length (enc eB a)]]] (.v (.int .i64 (idxB (delB a) l))) := by
 refine fnE_of_body (N := 19) Try.func54 rfl rfl (resOf1 rfl) (by simp) (fun w0 X hL_ => ?_)
 refine seqR ?_
 refine mG (.i 0) ?_
 refine op0 ?_
 refine awp_seq ?_
 refine seqR ?_
 refine mG (.q eN l) ?_
 refine oG (qN ut72 ?_)
 refine mG (.i 0) ?_
 refine rU (upd (upd (Z3x l a) 7 (.i (l.length : Int))) 8 (.i 0)) noOb ?_
 refine awp_block ?_
 refine awp_countI (fun k => ⟨(upd (upd (Z3x l a) 7 (.i (l.length : Int))) 8 (.i (k : Int))), noOb⟩) (fun k => (l.take k).any (delB a) = false) (l.length) ?_ (by simp) (fun k hk_k hinv => ?_)
 ·skip
  exact iN
 refine seqR ?_
 refine bG ((.bool (decide ((k : Int) < (l.length : Int))))) ?_
 refine op0 ?_
 refine awp_seq ?_
 refine awp_cond (decide ((k : Int) < (l.length : Int))) rfl rfl (fun hc0 => ?_) (fun hc0 => ?_)
 ·skip
  have hf1 := of_decide_eq_true hc0
  refine awp_skip ?_
  refine awp_seq ?_
  refine awp_block ?_
  refine seqR ?_
  refine mG (.i (k : Int)) ?_
  refine mG (.i (k : Int)) ?_
  refine op0 ?_
  refine seqR ?_
  refine mG (.fn 51 [.rp [.q eB a]]) ?_
  refine mG (.q eN l) ?_
  refine mG (.i (k : Int)) ?_
  refine oG (qX dN ut72 sz79 ?_)
  refine oG (qLB [.i ((l.getD k dN).point), .b ((l.getD k dN).right)] ag79 sz79 ?_)
  refine oG (qJ (p_Moves1 ((l.getD k dN).point) ((l.getD k dN).right) a oo) bd51 ?_)
  refine rU (upd (upd (upd (upd (Z3x l a) 5 (.i (k : Int))) 7 (.i (l.length : Int))) 8 (.i (k : Int))) 16 (.b (!(hasB a ((l.getD k dN).point) != ((l.getD k dN).right))))) noOb ?_
  refine awp_cond (!(hasB a ((l.getD k dN).point) != ((l.getD k dN).right))) rfl rfl (fun hc1 => ?_) (fun hc1 => ?_)
  ·skip
   refine seqR ?_
   refine mG (.i (k : Int)) ?_
   refine mG (.i (k : Int)) ?_
   refine op0 ?_
   refine awp_ret ?_
   exact fret (av := .v (.int .i64 (k : Int))) rfl rfl (by rw [idxB_stop (f := delB a) dN om hinv hc1] <;> rfl)
  refine awp_skip ?_
  refine regR ?_
  refine oG (qB (.int .i64 ((k + 1 : Nat) : Int)) (addN om) ?_)
  refine mG (.i ((k + 1 : Nat) : Int)) ?_
  refine op0 ?_
  show _ ∧ _
  refine ⟨by omega, (any_step dN om hinv hc1), ?_⟩
  exact iN
 have hf2 := of_decide_eq_false hc0
 refine awp_exit ?_
 refine seqR ?_
 refine mG (.i (-1)) ?_
 refine op0 ?_
 refine awp_ret ?_
 exact fret (av := .v (.int .i64 (-1))) rfl rfl (by rw [idxB_end (f := delB a) om hinv] <;> rfl)
abbrev Z41 (l : List Need) : Nat → OSt := (updO noOb 0 (.live ⟨(enc eN l), 79, 2⟩))
abbrev Z40 : LObj := ⟨[.i 0, .b false], 79, 1⟩
abbrev Z3z (l : List Need) (a : List Bool) : Nat → OSt := (updO noOb 0 (.live ⟨(enc eN (movesL l a ++ List.replicate (l.length - (movesL l a).length) dN)), 79, 2⟩))
abbrev Z3y (l : List Need) (a : List Bool) : Nat → AV := (upd (upd (upd none_ 0 (.sl 0 0 l.length)) 1 (.fn 51 [.rp [.q eB a]])) 4 vN)
theorem delN (l : List Need) (a : List Bool) (hl : l.length ≤ 4294967296) (hr : a.length ≤ 4294967296) : FnGO Try.prog 49 [⟨(enc eN l), 79, 2⟩] [.sl 0 0 l.length, .fn 51 [.rp [.ro a.length (enc eB a)]]] (.sl 0 0 ((movesL l a).length)) [.live ⟨(enc eN (movesL l a ++ List.replicate (l.length - (movesL l a).length) dN)), 79, 2⟩] := by
 refine fnG_of_body (N := 42) 1 rfl Try.func49 rfl rfl (resOf1 rfl) (by simp) (fun w0 G C hL_ hLG_ => ?_)
 refine seqR ?_
 refine mG vN ?_
 refine op0 ?_
 refine seqR ?_
 refine mG (.sl 0 0 l.length) ?_
 refine mG (.fn 51 [.rp [.q eB a]]) ?_
 refine oG (callL_ (ixN_del l a oo oo) rfl rfl rfl rfl rfl bd54 (lends_cons (lend_s (id := 0) (n := l.length) (o := ⟨(enc eN l), 79, 2⟩) rfl (enc_len (fun _ => rfl) (by first | rfl | (simp; done)))) lS) ?_)
 refine mG (.i (idxB (delB a) l)) ?_
 refine rU (upd (Z3y l a) 5 (.i (idxB (delB a) l))) (Z41 l) ?_
 refine awp_seq ?_
 refine seqR ?_
 refine mG (.i (idxB (delB a) l)) ?_
 refine bG ((.bool ((idxB (delB a) l) == (-1)))) ?_
 refine op0 ?_
 refine awp_cond ((idxB (delB a) l) == (-1)) rfl rfl (fun hc0 => ?_) (fun hc0 => ?_)
 ·skip
  have hf1 := (beq_iff_eq).1 hc0
  have hn0 : l.any (delB a) = false := by
   cases ha : l.any (delB a) with
   | false => rfl
   | true => obtain ⟨k, h1, h2, h3⟩ := any_first dN l ha; rw [idxB_stop dN h1 h2 h3] at hf1; omega
  have hm0 := movesL_none hn0
  refine seqR ?_
  refine mG (.sl 0 0 l.length) ?_
  refine mG (.sl 0 0 l.length) ?_
  refine rU (upd (upd (upd (upd none_ 0 (.sl 0 0 l.length)) 1 (.fn 51 [.rp [.q eB a]])) 4 (.sl 0 0 l.length)) 5 (.i (idxB (delB a) l))) (Z41 l) ?_
  refine awp_imp ⟨(upd none_ 4 (.sl 0 0 ((movesL l a).length))), (Z3z l a)⟩ ?_ ?_
  ·skip
   exact iL [(0, 0)] [((0, 0), .live _)] ⟨row_no rfl (by exact congrArg (fun l_ => LObj.mk (enc eN l_) 79 2) (by rw [hm0]; simp)), trivial⟩ (he := (sM (by exact congrArg (AV.sl 0 0) (by rw [hm0])) sr_none))
  refine awp_ret ?_
  exact fretG rfl rfl rfl rfl
 have hf2 := (beq_eq_false_iff_ne).1 hc0
 obtain ⟨i0, hi, hlt, hpre, hdel⟩ := idxB_found dN (show ¬ idxB (delB a) l = -1 from fun e => hf2 e)
 refine awp_skip ?_
 refine awp_seq ?_
 refine seqR ?_
 refine mG (.i (idxB (delB a) l)) ?_
 refine oG (qB (.int .i64 ((idxB (delB a) l) + 1)) (addI om) ?_)
 refine mG (.i ((idxB (delB a) l) + 1)) ?_
 refine rU (upd (upd (Z3y l a) 5 (.i (idxB (delB a) l))) 6 (.i ((idxB (delB a) l) + 1))) (Z41 l) ?_
 refine awp_block ?_
 refine awp_countI (fun k => ⟨(upd (upd (Z3y l a) 5 (.i (((delS a l (i0 + 1 + k)).2 : Nat) : Int))) 6 (.i ((i0 + 1 + k : Nat) : Int))), (updO noOb 0 (.live ⟨(enc eN ((delS a l (i0 + 1 + k)).1)), 79, 2⟩))⟩) (fun k => True) ((l.length - (i0 + 1))) ?_ trivial (fun k hk_k hinv => ?_)
 ·skip
  have hf0 := delS_first a hlt hpre hdel
  exact iL [(0, 0)] [((0, 0), .live _)] ⟨row_no rfl (by exact congrArg (fun l_ => LObj.mk (enc eN l_) 79 2) (show (delS a l (i0 + 1 + 0)).1 = l by rw [show i0 + 1 + 0 = i0 + 1 from rfl, hf0])), trivial⟩ (he := (sS (by exact congrArg (fun n_ : Int => AV.v (.int .i64 n_)) (show idxB (delB a) l + 1 = ((i0 + 1 + 0 : Nat) : Int) by omega)) (sS (by exact congrArg (fun n_ : Int => AV.v (.int .i64 n_)) (show idxB (delB a) l = (((delS a l (i0 + 1 + 0)).2 : Nat) : Int) by rw [show i0 + 1 + 0 = i0 + 1 from rfl, hf0]; exact hi)) (sS rfl (sS rfl (sM rfl sr_none))))))
 obtain ⟨hv1, hv2, hv3, hv4, hv5⟩ := delS_inv a l (i0 + 1 + k) om
 have hv6 := delS_lt a hlt hpre hdel k om
 refine awp_seq ?_
 refine seqR ?_
 refine mG (.i ((i0 + 1 + k : Nat) : Int)) ?_
 refine mG (.sl 0 0 l.length) ?_
 refine oG (aop_len rfl rfl rfl rfl ut72 (len_sl rfl) ?_)
 refine bG ((.bool (decide (((i0 + 1 + k : Nat) : Int) < (l.length : Int))))) ?_
 refine rU (upd (upd (upd (Z3y l a) 5 (.i (((delS a l (i0 + 1 + k)).2 : Nat) : Int))) 6 (.i ((i0 + 1 + k : Nat) : Int))) 19 (.b (decide (((i0 + 1 + k : Nat) : Int) < (l.length : Int))))) (updO noOb 0 (.live ⟨(enc eN ((delS a l (i0 + 1 + k)).1)), 79, 2⟩)) ?_
 refine awp_cond (decide (((i0 + 1 + k : Nat) : Int) < (l.length : Int))) rfl rfl (fun hc1 => ?_) (fun hc1 => ?_)
 ·skip
  have hf3 := of_decide_eq_true hc1
  refine awp_skip ?_
  refine awp_seq ?_
  refine awp_block ?_
  refine seqR ?_
  refine mG (.sl 0 0 l.length) ?_
  refine mG (.i ((i0 + 1 + k : Nat) : Int)) ?_
  refine oG (aop_ixO (k := i0 + 1 + k) rfl rfl rfl ut72 sz79 rfl rfl oo ?_)
  refine oG (aop_ldOA (f := eN) dN rfl rfl rfl ag79 sz79 rfl rfl rfl (fun _ => rfl) oo rfl ?_)
  refine oG (aop_alloc 51 rfl rfl rfl rfl ze79 rfl ?_)
  refine oG (qS sz79 ?_)
  refine rU (upd (upd (upd (Z3y l a) 5 (.i (((delS a l (i0 + 1 + k)).2 : Nat) : Int))) 6 (.i ((i0 + 1 + k : Nat) : Int))) 7 (.pt 51 0)) (updO (updO (updO noOb 0 (.live ⟨(enc eN ((delS a l (i0 + 1 + k)).1)), 79, 2⟩)) 51 (.live Z40)) 51 (.live ⟨[.i ((((delS a l (i0 + 1 + k)).1).getD (i0 + 1 + k) dN).point), .b ((((delS a l (i0 + 1 + k)).1).getD (i0 + 1 + k) dN).right)], 79, 1⟩)) ?_
  refine seqR ?_
  refine mG (.fn 51 [.rp [.q eB a]]) ?_
  refine oG (qLB [.i ((((delS a l (i0 + 1 + k)).1).getD (i0 + 1 + k) dN).point), .b ((((delS a l (i0 + 1 + k)).1).getD (i0 + 1 + k) dN).right)] ag79 sz79 ?_)
  refine oG (qJ (p_Moves1 ((((delS a l (i0 + 1 + k)).1).getD (i0 + 1 + k) dN).point) ((((delS a l (i0 + 1 + k)).1).getD (i0 + 1 + k) dN).right) a oo) bd51 ?_)
  refine oG (aop_not rfl rfl rfl rfl ?_)
  refine rU (upd (upd (upd (upd (Z3y l a) 5 (.i (((delS a l (i0 + 1 + k)).2 : Nat) : Int))) 6 (.i ((i0 + 1 + k : Nat) : Int))) 7 (.pt 51 0)) 29 (.b (!(!(hasB a ((((delS a l (i0 + 1 + k)).1).getD (i0 + 1 + k) dN).point) != ((((delS a l (i0 + 1 + k)).1).getD (i0 + 1 + k) dN).right)))))) (updO (updO (updO noOb 0 (.live ⟨(enc eN ((delS a l (i0 + 1 + k)).1)), 79, 2⟩)) 51 (.live Z40)) 51 (.live ⟨[.i ((((delS a l (i0 + 1 + k)).1).getD (i0 + 1 + k) dN).point), .b ((((delS a l (i0 + 1 + k)).1).getD (i0 + 1 + k) dN).right)], 79, 1⟩)) ?_
  refine awp_cond (!(!(hasB a ((((delS a l (i0 + 1 + k)).1).getD (i0 + 1 + k) dN).point) != ((((delS a l (i0 + 1 + k)).1).getD (i0 + 1 + k) dN).right)))) rfl rfl (fun hc2 => ?_) (fun hc2 => ?_)
  ·skip
   have hf4 := not_t hc2
   refine seqR ?_
   refine mG (.sl 0 0 l.length) ?_
   refine mG (.i (((delS a l (i0 + 1 + k)).2 : Nat) : Int)) ?_
   refine oG (qLB [.i ((((delS a l (i0 + 1 + k)).1).getD (i0 + 1 + k) dN).point), .b ((((delS a l (i0 + 1 + k)).1).getD (i0 + 1 + k) dN).right)] ag79 sz79 ?_)
   refine oG (aop_ixO (k := (delS a l (i0 + 1 + k)).2) rfl rfl rfl ut72 sz79 rfl rfl oo ?_)
   refine oG (aop_storeE (f := eN) (l := (delS a l (i0 + 1 + k)).1) (l' := ((delS a l (i0 + 1 + k)).1).set ((delS a l (i0 + 1 + k)).2) (⟨(((delS a l (i0 + 1 + k)).1).getD (i0 + 1 + k) dN).point, (((delS a l (i0 + 1 + k)).1).getD (i0 + 1 + k) dN).right⟩ : Need)) (⟨(((delS a l (i0 + 1 + k)).1).getD (i0 + 1 + k) dN).point, (((delS a l (i0 + 1 + k)).1).getD (i0 + 1 + k) dN).right⟩ : Need) rfl rfl rfl sz79 rfl rfl rfl rfl rfl (fun _ => rfl) oo rfl rfl ?_)
   refine rU (upd (upd (upd (Z3y l a) 5 (.i (((delS a l (i0 + 1 + k)).2 : Nat) : Int))) 6 (.i ((i0 + 1 + k : Nat) : Int))) 7 (.pt 51 0)) (updO (updO (updO (updO noOb 0 (.live ⟨(enc eN ((delS a l (i0 + 1 + k)).1)), 79, 2⟩)) 51 (.live Z40)) 51 (.live ⟨[.i ((((delS a l (i0 + 1 + k)).1).getD (i0 + 1 + k) dN).point), .b ((((delS a l (i0 + 1 + k)).1).getD (i0 + 1 + k) dN).right)], 79, 1⟩)) 0 (.live ⟨(enc eN (((delS a l (i0 + 1 + k)).1).set ((delS a l (i0 + 1 + k)).2) (⟨(((delS a l (i0 + 1 + k)).1).getD (i0 + 1 + k) dN).point, (((delS a l (i0 + 1 + k)).1).getD (i0 + 1 + k) dN).right⟩ : Need))), 79, 2⟩)) ?_
   refine regR ?_
   refine mG (.i (((delS a l (i0 + 1 + k)).2 : Nat) : Int)) ?_
   refine oG (qB (.int .i64 (((delS a l (i0 + 1 + k)).2 + 1 : Nat) : Int)) (addN om) ?_)
   refine mG (.i (((delS a l (i0 + 1 + k)).2 + 1 : Nat) : Int)) ?_
   refine op0 ?_
   refine regR ?_
   refine mG (.i ((i0 + 1 + k : Nat) : Int)) ?_
   refine oG (qB (.int .i64 ((i0 + 1 + k + 1 : Nat) : Int)) (addN om) ?_)
   refine mG (.i ((i0 + 1 + k + 1 : Nat) : Int)) ?_
   refine op0 ?_
   show _ ∧ _
   have hs := delS_keep a (l := l) (j := i0 + 1 + k) om (by simpa [delB] using hc2)
   refine ⟨by omega, trivial, ?_⟩
   exact iL [(0, 0)] [((0, 0), .live _)] ⟨row_no rfl (by exact congrArg (fun l_ => LObj.mk (enc eN l_) 79 2) (congrArg Prod.fst hs)), trivial⟩ (he := (sS rfl (sS (by exact congrArg (fun n_ : Int => AV.v (.int .i64 n_)) (congrArg (fun q : List Need × Nat => ((q.2 : Nat) : Int)) hs.symm)) (sS rfl (sS rfl (sM rfl sr_none))))))
  have hf5 := not_f hc2
  refine awp_skip ?_
  refine regR ?_
  refine mG (.i ((i0 + 1 + k : Nat) : Int)) ?_
  refine oG (qB (.int .i64 ((i0 + 1 + k + 1 : Nat) : Int)) (addN om) ?_)
  refine mG (.i ((i0 + 1 + k + 1 : Nat) : Int)) ?_
  refine op0 ?_
  show _ ∧ _
  have hs := delS_drop a (l := l) (j := i0 + 1 + k) om (by simpa [delB] using hc2)
  refine ⟨by omega, trivial, ?_⟩
  exact iL [(0, 0)] [((0, 0), .live _)] ⟨row_no rfl (by exact congrArg (fun l_ => LObj.mk (enc eN l_) 79 2) (congrArg Prod.fst hs)), trivial⟩ (he := (sS rfl (sS (by exact congrArg (fun n_ : Int => AV.v (.int .i64 n_)) (congrArg (fun q : List Need × Nat => ((q.2 : Nat) : Int)) hs.symm)) (sS rfl (sS rfl (sM rfl sr_none))))))
 have hf6 := of_decide_eq_false hc1
 refine awp_exit ?_
 refine seqR ?_
 refine mG (.sl 0 0 l.length) ?_
 refine mG (.i (((delS a l (i0 + 1 + k)).2 : Nat) : Int)) ?_
 refine oG (aop_sliceFrom (l := (delS a l (i0 + 1 + k)).2) (ob := ⟨(enc eN ((delS a l (i0 + 1 + k)).1)), 79, 2⟩) rfl rfl rfl ut72 sz79 rfl rfl rfl ⟨_, rfl⟩ oo ?_)
 refine oG (aop_clear (n := l.length - ((delS a l (i0 + 1 + k)).2)) (ob := ⟨(enc eN ((delS a l (i0 + 1 + k)).1)), 79, 2⟩) rfl rfl rfl rfl ut72 (run_zero_ ze79) rfl rfl rfl oo (by show _ + (l.length - (delS a l (i0 + 1 + k)).2) * 2 ≤ (enc eN (delS a l (i0 + 1 + k)).1).length; rw [enc_length (f := eN) (s := 2) (fun _ => rfl)]; omega) (clear_row om) ?_)
 refine rU (upd (upd (upd none_ 0 (.sl 0 0 l.length)) 4 vN) 5 (.i (((delS a l (i0 + 1 + k)).2 : Nat) : Int))) (updO (updO noOb 0 (.live ⟨(enc eN ((delS a l (i0 + 1 + k)).1)), 79, 2⟩)) 0 (.live ⟨(enc eN ((delS a l (i0 + 1 + k)).1.take (delS a l (i0 + 1 + k)).2 ++ List.replicate (l.length - (delS a l (i0 + 1 + k)).2) dN)), 79, 2⟩)) ?_
 refine seqR ?_
 refine mG (.sl 0 0 l.length) ?_
 refine mG (.i (((delS a l (i0 + 1 + k)).2 : Nat) : Int)) ?_
 refine oG (aop_sliceOwn (hgh := (delS a l (i0 + 1 + k)).2) rfl rfl rfl ut72 sz79 rfl ⟨_, rfl⟩ oo ?_)
 refine mG (.sl 0 0 ((delS a l (i0 + 1 + k)).2)) ?_
 refine rU (upd none_ 4 (.sl 0 0 ((delS a l (i0 + 1 + k)).2))) (updO (updO noOb 0 (.live ⟨(enc eN ((delS a l (i0 + 1 + k)).1)), 79, 2⟩)) 0 (.live ⟨(enc eN ((delS a l (i0 + 1 + k)).1.take (delS a l (i0 + 1 + k)).2 ++ List.replicate (l.length - (delS a l (i0 + 1 + k)).2) dN)), 79, 2⟩)) ?_
 have hjk : i0 + 1 + k = l.length := by omega
 rw [hjk, List.take_of_length_le (Nat.le_refl _)] at hv4 hv5
 refine awp_imp ⟨(upd none_ 4 (.sl 0 0 ((movesL l a).length))), (Z3z l a)⟩ ?_ ?_
 ·skip
  exact iL [(0, 0)] [((0, 0), .live _)] ⟨row_no rfl (by exact congrArg (fun l_ => LObj.mk (enc eN l_) 79 2) (by rw [hjk, hv4, hv5])), trivial⟩ (he := (sM (by exact congrArg (AV.sl 0 0) (by rw [hjk, hv5])) sr_none))
 refine awp_ret ?_
 exact fretG rfl rfl rfl rfl
theorem p_May1 (a : List Int) (s : Int) (hl : a.length ≤ 4294967296) : Fn Try.prog 57 [.agg [.one, .one, .ro a.length (enc eI a)], .rp [.v (.int .i64 s)]] (.v (.bool (decide (s ∈ a)))) := by
 refine fnE_of_body (N := 8) Try.func57 rfl rfl (resOf1 rfl) (by simp) (fun w0 X hL_ => ?_)
 refine seqR ?_
 refine oG (qW 51 ?_)
 refine mG (.b false) ?_
 refine op0 ?_
 refine seqR ?_
 refine fG (.pt 51 2) ft116_2 sz42 ?_
 refine oG (qL (.q eI a) ag42 ?_)
 refine oG (qL (.i s) ag3 ?_)
 refine oG (qJ (coI a s oo) bd47 ?_)
 refine mG (.b (decide (s ∈ a))) ?_
 refine rU (upd none_ 3 (.b (decide (s ∈ a)))) (updO noOb 51 (.live ⟨[.one, .one, .q eI a], 116, 1⟩)) ?_
 refine awp_ret ?_
 exact fret (av := .v (.bool (decide (s ∈ a)))) rfl rfl rfl
abbrev Z42 (a : List View) (s : Int) : Nat → AV := (upd (upd (upd none_ 0 (.q eV a)) 1 (.fn 57 [.rp [.i s]])) 4 (.i 0))
theorem ixVm (a : List View) (s : Int) (hn : a.length ≤ 4294967296) (hv : ∀ v, v ∈ a → v.span.length ≤ 65536) : Fn Try.prog 72 [.ro a.length (enc eV a), .fn 57 [.rp [.v (.int .i64 s)]]] (.v (.int .i64 (idxB (hasV s) a))) := by
 refine fnE_of_body (N := 19) Try.func72 rfl rfl (resOf1 rfl) (by simp) (fun w0 X hL_ => ?_)
 refine seqR ?_
 refine mG (.i 0) ?_
 refine op0 ?_
 refine awp_seq ?_
 refine seqR ?_
 refine mG (.q eV a) ?_
 refine oG (qN ut66 ?_)
 refine mG (.i 0) ?_
 refine rU (upd (upd (Z42 a s) 7 (.i (a.length : Int))) 8 (.i 0)) noOb ?_
 refine awp_block ?_
 refine awp_countI (fun k => ⟨(upd (upd (Z42 a s) 7 (.i (a.length : Int))) 8 (.i (k : Int))), noOb⟩) (fun k => (a.take k).any (hasV s) = false) (a.length) ?_ (by simp) (fun k hk_k hinv => ?_)
 ·skip
  exact iN
 refine seqR ?_
 refine bG ((.bool (decide ((k : Int) < (a.length : Int))))) ?_
 refine op0 ?_
 refine awp_seq ?_
 refine awp_cond (decide ((k : Int) < (a.length : Int))) rfl rfl (fun hc0 => ?_) (fun hc0 => ?_)
 ·skip
  have hf1 := of_decide_eq_true hc0
  have hvk := hv _ (getD_mem (l := a) (k := k) dV om)
  refine awp_skip ?_
  refine awp_seq ?_
  refine awp_block ?_
  refine seqR ?_
  refine mG (.i (k : Int)) ?_
  refine mG (.i (k : Int)) ?_
  refine op0 ?_
  refine seqR ?_
  refine mG (.fn 57 [.rp [.i s]]) ?_
  refine mG (.q eV a) ?_
  refine mG (.i (k : Int)) ?_
  refine oG (qX dV ut66 sz116 ?_)
  refine oG (qLB [.i ((a.getD k dV).id), .b ((a.getD k dV).sure), .ro ((a.getD k dV).span.length) (enc eI ((a.getD k dV).span))] ag116 sz116 ?_)
  refine oG (qC (p_May1 ((a.getD k dV).span) s oo) bd57 ?_)
  refine rU (upd (upd (upd (upd (Z42 a s) 5 (.i (k : Int))) 7 (.i (a.length : Int))) 8 (.i (k : Int))) 16 (.b (decide (s ∈ ((a.getD k dV).span))))) noOb ?_
  refine awp_cond (decide (s ∈ ((a.getD k dV).span))) rfl rfl (fun hc1 => ?_) (fun hc1 => ?_)
  ·skip
   refine seqR ?_
   refine mG (.i (k : Int)) ?_
   refine mG (.i (k : Int)) ?_
   refine op0 ?_
   refine awp_ret ?_
   exact fret (av := .v (.int .i64 (k : Int))) rfl rfl (by rw [idxB_stop (f := hasV s) dV om hinv hc1] <;> rfl)
  refine awp_skip ?_
  refine regR ?_
  refine oG (qB (.int .i64 ((k + 1 : Nat) : Int)) (addN om) ?_)
  refine mG (.i ((k + 1 : Nat) : Int)) ?_
  refine op0 ?_
  show _ ∧ _
  refine ⟨by omega, (any_step dV om hinv hc1), ?_⟩
  exact iN
 have hf2 := of_decide_eq_false hc0
 refine awp_exit ?_
 refine seqR ?_
 refine mG (.i (-1)) ?_
 refine op0 ?_
 refine awp_ret ?_
 exact fret (av := .v (.int .i64 (-1))) rfl rfl (by rw [idxB_end (f := hasV s) om hinv] <;> rfl)
theorem coVm (a : List View) (s : Int) (hn : a.length ≤ 4294967296) (hv : ∀ v, v ∈ a → v.span.length ≤ 65536) : Fn Try.prog 56 [.ro a.length (enc eV a), .fn 57 [.rp [.v (.int .i64 s)]]] (.v (.bool (a.any (hasV s)))) := by
 refine fnE_of_body (N := 9) Try.func56 rfl rfl (resOf1 rfl) (by simp) (fun w0 X hL_ => ?_)
 refine seqR ?_
 refine mG (.b false) ?_
 refine op0 ?_
 refine seqR ?_
 refine mG (.q eV a) ?_
 refine mG (.fn 57 [.rp [.i s]]) ?_
 refine oG (qJ (ixVm a s oo oo) bd72 ?_)
 refine bG ((.bool (decide ((idxB (hasV s) a) ≥ 0)))) ?_
 refine mG (.b (decide ((idxB (hasV s) a) ≥ 0))) ?_
 refine rU (upd none_ 4 (.b (decide ((idxB (hasV s) a) ≥ 0)))) noOb ?_
 refine awp_ret ?_
 exact fret (av := .v (.bool (decide ((idxB (hasV s) a) ≥ 0)))) rfl rfl (by rw [idxB_any dV] <;> rfl)
abbrev Z44 (a : List Pnt) : Nat → OSt := (updO noOb 51 (.live ⟨[.one, .one, .one, .q ePnt a, .one, .one, .one, .one, .one, .one], 33, 1⟩))
abbrev Z43 (a : List Pnt) (p : Int) : Nat → OSt := (updO (updO (Z44 a) 52 (.live ⟨[.i 0], 3, 1⟩)) 52 (.live ⟨[.i ((a.getD p.toNat dP).stem)], 3, 1⟩))
theorem p_May (a : List Pnt) (c : List Int) (e : List View) (d f : List Bool) (p : Int) (hp : a.length ≤ 65536) (hs : c.length ≤ 65536) (hn : e.length ≤ 65536) (hlk : d.length ≤ 65536) (hh : f.length ≤ 65536) (hv : ∀ v, v ∈ e → v.span.length ≤ 65536) : Fn Try.prog 32 [.agg [.one, .one, .one, .ro a.length (enc ePnt a), .one, .one, .one, .one, .one, .one], .ro c.length (enc eU8 c), .ro e.length (enc eV e), .ro d.length (enc eB d), .ro f.length (enc eB f), .v (.int .i64 p)] (.v (.bool (mayB a c e d f p))) := by
 refine fnE_of_body (N := 58) Try.func32 rfl rfl (resOf1 rfl) (by simp) (fun w0 X hL_ => ?_)
 refine seqR ?_
 refine oG (qW 51 ?_)
 refine mG (.b false) ?_
 refine op0 ?_
 refine awp_seq ?_
 refine seqR ?_
 refine mG (.i p) ?_
 refine bG ((.bool (decide (p < 0)))) ?_
 refine mG (.b (decide (p < 0))) ?_
 refine aops_grp 6 22 (.b ((decide (p < 0)) || (decide (p ≥ (a.length : Int))))) ?_ ?_
 ·refine (Bool.eq_false_or_eq_true (decide (p < 0))).elim (fun hg1 => ?_) (fun hg1 => ?_)
  ·skip
   have hf2 := of_decide_eq_true hg1
   refine nG hg1 ?_
   refine nG hg1 ?_
   refine nG hg1 ?_
   refine nG hg1 ?_
   refine nG hg1 ?_
   refine oG (qP (decide (p < 0)) (.b true) hg1 ?_)
   refine op0 ?_
   exact imp_env (lee_both 22 _ _ (by rw [hg1] <;> rfl) lO)
  have hf3 := of_decide_eq_false hg1
  refine oY hg1 (qM (.i p) ?_)
  refine oY hg1 (qF (.pt 51 0) (.pt 51 3) ft33_3 sz31 ?_)
  refine oY hg1 (qL (.q ePnt a) ag31 ?_)
  refine oY hg1 (qN ut31 ?_)
  refine oY hg1 (qB (.bool (decide (p ≥ (a.length : Int)))) rfl ?_)
  refine oG (qP (decide (p < 0)) (.b (decide (p ≥ (a.length : Int)))) hg1 ?_)
  refine op0 ?_
  exact imp_env (lee_both 22 _ _ (by rw [hg1] <;> rfl) lO)
 refine mG (.b ((decide (p < 0)) || (decide (p ≥ (a.length : Int))))) ?_
 refine aops_grp 4 27 (.b (((decide (p < 0)) || (decide (p ≥ (a.length : Int)))) || (hasB f p))) ?_ ?_
 ·refine (Bool.eq_false_or_eq_true ((decide (p < 0)) || (decide (p ≥ (a.length : Int))))).elim (fun hg4 => ?_) (fun hg4 => ?_)
  ·skip
   refine nG hg4 ?_
   refine nG hg4 ?_
   refine nG hg4 ?_
   refine oG (qP ((decide (p < 0)) || (decide (p ≥ (a.length : Int)))) (.b true) hg4 ?_)
   refine op0 ?_
   exact imp_env (lee_both 27 _ _ (by rw [hg4] <;> rfl) lO)
  obtain ⟨hf5a, hf5b⟩ := or_f hg4
  have hf6 := of_decide_eq_false hf5a
  have hf7 := of_decide_eq_false hf5b
  refine oY hg4 (qM (.q eB f) ?_)
  refine oY hg4 (qM (.i p) ?_)
  refine oY hg4 (qJ (p_has f p oo) bd55 ?_)
  refine oG (qP ((decide (p < 0)) || (decide (p ≥ (a.length : Int)))) (.b (hasB f p)) hg4 ?_)
  refine op0 ?_
  exact imp_env (lee_both 27 _ _ (by rw [hg4] <;> rfl) lO)
 refine op0 ?_
 refine rT (upd (upd (upd (upd (upd (upd (upd none_ 1 (.q eU8 c)) 2 (.q eV e)) 3 (.q eB d)) 5 (.i p)) 6 (.pt 51 0)) 12 (.b false)) 27 (.b (((decide (p < 0)) || (decide (p ≥ (a.length : Int)))) || (hasB f p)))) (Z44 a) ?_
 refine awp_cond (((decide (p < 0)) || (decide (p ≥ (a.length : Int)))) || (hasB f p)) rfl rfl (fun hc0 => ?_) (fun hc0 => ?_)
 ·skip
  refine seqR ?_
  refine mG (.b false) ?_
  refine op0 ?_
  refine awp_ret ?_
  exact fret (av := .v (.bool false)) rfl rfl (by rw [may_no hc0])
 obtain ⟨hf8a, hf8b⟩ := or_f hc0
 obtain ⟨hf9a, hf9b⟩ := or_f hf8a
 have hf10 := of_decide_eq_false hf9a
 have hf11 := of_decide_eq_false hf9b
 have hno : (decide (p < 0) || decide (p ≥ (a.length : Int)) || hasB f p) = false := hc0
 have hpr : 0 ≤ p ∧ p < (a.length : Int) := by simp only [Bool.or_eq_false_iff, decide_eq_false_iff_not] at hno; omega
 refine awp_skip ?_
 refine seqR ?_
 refine fG (.pt 51 3) ft33_3 sz31 ?_
 refine oG (qL (.q ePnt a) ag31 ?_)
 refine mG (.i p) ?_
 refine oG (aop_ixI dP rfl rfl rfl ut31 sz96 rfl rfl (fun _ => rfl) rfl om oo ?_)
 refine oG (qF (.rp (([.i ((a.getD p.toNat dP).node), .i ((a.getD p.toNat dP).stem), .i ((a.getD p.toNat dP).left), .i ((a.getD p.toNat dP).right)] : List AV) ++ ((enc ePnt a).drop ((p.toNat + 1) * 4)))) (.rp (([.i ((a.getD p.toNat dP).stem), .i ((a.getD p.toNat dP).left), .i ((a.getD p.toNat dP).right)] : List AV) ++ ((enc ePnt a).drop ((p.toNat + 1) * 4)))) ft96_1 sz3 ?_)
 refine oG (qL (.i ((a.getD p.toNat dP).stem)) ag3 ?_)
 refine oG (aop_alloc 52 rfl rfl rfl rfl ze3 rfl ?_)
 refine oG (qS sz3 ?_)
 refine rU (upd (upd (upd (upd (upd none_ 1 (.q eU8 c)) 2 (.q eV e)) 3 (.q eB d)) 12 (.b false)) 13 (.pt 52 0)) (Z43 a p) ?_
 refine awp_seq ?_
 refine seqR ?_
 refine mG (.q eV e) ?_
 refine oG (aop_makeFunc (caps := [.tmp 13]) rfl rfl rfl rfl ?_)
 refine oG (callL_ (coVm e (a.getD p.toNat dP).stem om hv) rfl rfl rfl rfl rfl bd56 (lends_cons (lend_n (av := .q eV e)) (lends_cons (lend_fn (lends_cons (lend_pt rfl lS) lends_nil)) lends_nil)) ?_)
 refine op0 ?_
 refine awp_cond (e.any (hasV ((a.getD p.toNat dP).stem))) rfl rfl (fun hc1 => ?_) (fun hc1 => ?_)
 ·skip
  refine seqR ?_
  refine mG (.b false) ?_
  refine rU (upd (upd (upd (upd none_ 1 (.q eU8 c)) 3 (.q eB d)) 12 (.b false)) 13 (.pt 52 0)) (Z43 a p) ?_
  refine awp_ret ?_
  exact fret (av := .v (.bool false)) rfl rfl (by rw [may_in hno hc1])
 refine awp_skip ?_
 refine seqR ?_
 refine oG (qL (.i ((a.getD p.toNat dP).stem)) ag3 ?_)
 refine bG ((.bool (decide (((a.getD p.toNat dP).stem) ≥ 0)))) ?_
 refine mG (.b (decide (((a.getD p.toNat dP).stem) ≥ 0))) ?_
 refine aops_grp 5 44 (.b ((decide (((a.getD p.toNat dP).stem) ≥ 0)) && (decide (((a.getD p.toNat dP).stem) < (c.length : Int))))) ?_ ?_
 ·refine (Bool.eq_false_or_eq_true (decide (((a.getD p.toNat dP).stem) ≥ 0))).elim (fun hg12 => ?_) (fun hg12 => ?_)
  ·skip
   have hf13 := of_decide_eq_true hg12
   refine oY hg12 (qL (.i ((a.getD p.toNat dP).stem)) ag3 ?_)
   refine oY hg12 (qM (.q eU8 c) ?_)
   refine oY hg12 (qN ut37 ?_)
   refine oY hg12 (qB (.bool (decide (((a.getD p.toNat dP).stem) < (c.length : Int)))) rfl ?_)
   refine oG (qP (decide (((a.getD p.toNat dP).stem) ≥ 0)) (.b (decide (((a.getD p.toNat dP).stem) < (c.length : Int)))) hg12 ?_)
   refine op0 ?_
   exact imp_env (lee_both 44 _ _ (by rw [hg12] <;> rfl) lO)
  have hf14 := of_decide_eq_false hg12
  refine nG hg12 ?_
  refine nG hg12 ?_
  refine nG hg12 ?_
  refine nG hg12 ?_
  refine oG (qP (decide (((a.getD p.toNat dP).stem) ≥ 0)) (.b false) hg12 ?_)
  refine op0 ?_
  exact imp_env (lee_both 44 _ _ (by rw [hg12] <;> rfl) lO)
 refine mG (.b ((decide (((a.getD p.toNat dP).stem) ≥ 0)) && (decide (((a.getD p.toNat dP).stem) < (c.length : Int))))) ?_
 refine aops_grp 6 51 (.b (((decide (((a.getD p.toNat dP).stem) ≥ 0)) && (decide (((a.getD p.toNat dP).stem) < (c.length : Int)))) && ((c.getD ((a.getD p.toNat dP).stem).toNat 0) == 0))) ?_ ?_
 ·refine (Bool.eq_false_or_eq_true ((decide (((a.getD p.toNat dP).stem) ≥ 0)) && (decide (((a.getD p.toNat dP).stem) < (c.length : Int))))).elim (fun hg15 => ?_) (fun hg15 => ?_)
  ·skip
   obtain ⟨hf16a, hf16b⟩ := and_t hg15
   have hf17 := of_decide_eq_true hf16a
   have hf18 := of_decide_eq_true hf16b
   refine oY hg15 (qM (.q eU8 c) ?_)
   refine oY hg15 (qL (.i ((a.getD p.toNat dP).stem)) ag3 ?_)
   refine oY hg15 (aop_ixI 0 rfl rfl rfl ut37 sz5 rfl rfl (fun _ => rfl) rfl om oo ?_)
   refine oY hg15 (qL (.v (.int .u8 (c.getD ((a.getD p.toNat dP).stem).toNat 0))) ag5 ?_)
   refine oY hg15 (qB (.bool ((c.getD ((a.getD p.toNat dP).stem).toNat 0) == 0)) rfl ?_)
   refine oG (qP ((decide (((a.getD p.toNat dP).stem) ≥ 0)) && (decide (((a.getD p.toNat dP).stem) < (c.length : Int)))) (.b ((c.getD ((a.getD p.toNat dP).stem).toNat 0) == 0)) hg15 ?_)
   refine op0 ?_
   exact imp_env (lee_both 51 _ _ (by rw [hg15] <;> rfl) lO)
  refine nG hg15 ?_
  refine nG hg15 ?_
  refine nG hg15 ?_
  refine nG hg15 ?_
  refine nG hg15 ?_
  refine oG (qP ((decide (((a.getD p.toNat dP).stem) ≥ 0)) && (decide (((a.getD p.toNat dP).stem) < (c.length : Int)))) (.b false) hg15 ?_)
  refine op0 ?_
  exact imp_env (lee_both 51 _ _ (by rw [hg15] <;> rfl) lO)
 refine mG (.b (((decide (((a.getD p.toNat dP).stem) ≥ 0)) && (decide (((a.getD p.toNat dP).stem) < (c.length : Int)))) && ((c.getD ((a.getD p.toNat dP).stem).toNat 0) == 0))) ?_
 refine aops_grp 5 57 (.b ((((decide (((a.getD p.toNat dP).stem) ≥ 0)) && (decide (((a.getD p.toNat dP).stem) < (c.length : Int)))) && ((c.getD ((a.getD p.toNat dP).stem).toNat 0) == 0)) && (!(hasB d ((a.getD p.toNat dP).stem))))) ?_ ?_
 ·refine (Bool.eq_false_or_eq_true (((decide (((a.getD p.toNat dP).stem) ≥ 0)) && (decide (((a.getD p.toNat dP).stem) < (c.length : Int)))) && ((c.getD ((a.getD p.toNat dP).stem).toNat 0) == 0))).elim (fun hg19 => ?_) (fun hg19 => ?_)
  ·skip
   obtain ⟨hf20a, hf20b⟩ := and_t hg19
   obtain ⟨hf21a, hf21b⟩ := and_t hf20a
   have hf22 := of_decide_eq_true hf21a
   have hf23 := of_decide_eq_true hf21b
   have hf24 := (beq_iff_eq).1 hf20b
   refine oY hg19 (qM (.q eB d) ?_)
   refine oY hg19 (qL (.i ((a.getD p.toNat dP).stem)) ag3 ?_)
   refine oY hg19 (qJ (p_has d ((a.getD p.toNat dP).stem) oo) bd55 ?_)
   refine oY hg19 (aop_not rfl rfl rfl rfl ?_)
   refine oG (qP (((decide (((a.getD p.toNat dP).stem) ≥ 0)) && (decide (((a.getD p.toNat dP).stem) < (c.length : Int)))) && ((c.getD ((a.getD p.toNat dP).stem).toNat 0) == 0)) (.b (!(hasB d ((a.getD p.toNat dP).stem)))) hg19 ?_)
   refine op0 ?_
   exact imp_env (lee_both 57 _ _ (by rw [hg19] <;> rfl) lO)
  refine nG hg19 ?_
  refine nG hg19 ?_
  refine nG hg19 ?_
  refine nG hg19 ?_
  refine oG (qP (((decide (((a.getD p.toNat dP).stem) ≥ 0)) && (decide (((a.getD p.toNat dP).stem) < (c.length : Int)))) && ((c.getD ((a.getD p.toNat dP).stem).toNat 0) == 0)) (.b false) hg19 ?_)
  refine op0 ?_
  exact imp_env (lee_both 57 _ _ (by rw [hg19] <;> rfl) lO)
 refine mG (.b ((((decide (((a.getD p.toNat dP).stem) ≥ 0)) && (decide (((a.getD p.toNat dP).stem) < (c.length : Int)))) && ((c.getD ((a.getD p.toNat dP).stem).toNat 0) == 0)) && (!(hasB d ((a.getD p.toNat dP).stem))))) ?_
 refine op0 ?_
 refine rT (upd none_ 12 (.b ((((decide (((a.getD p.toNat dP).stem) ≥ 0)) && (decide (((a.getD p.toNat dP).stem) < (c.length : Int)))) && ((c.getD ((a.getD p.toNat dP).stem).toNat 0) == 0)) && (!(hasB d ((a.getD p.toNat dP).stem)))))) (Z43 a p) ?_
 refine awp_ret ?_
 exact fret (av := .v (.bool ((((decide (((a.getD p.toNat dP).stem) ≥ 0)) && (decide (((a.getD p.toNat dP).stem) < (c.length : Int)))) && ((c.getD ((a.getD p.toNat dP).stem).toNat 0) == 0)) && (!(hasB d ((a.getD p.toNat dP).stem)))))) rfl rfl (by rw [may_end hno hc1])
theorem ag2 : aggT Try.prog 2 = some false := by kernel_rfl
theorem ag35 : aggT Try.prog 35 = some false := by kernel_rfl
theorem ag61 : aggT Try.prog 61 = some false := by kernel_rfl
theorem ag63 : aggT Try.prog 63 = some false := by kernel_rfl
theorem ag66 : aggT Try.prog 66 = some false := by kernel_rfl
theorem ag69 : aggT Try.prog 69 = some false := by kernel_rfl
theorem bd13 : bodied Try.prog 13 = true := by kernel_rfl
theorem bd31 : bodied Try.prog 31 = true := by kernel_rfl
theorem bd32 : bodied Try.prog 32 = true := by kernel_rfl
theorem bd34 : bodied Try.prog 34 = true := by kernel_rfl
theorem bd39 : bodied Try.prog 39 = true := by kernel_rfl
theorem bd44 : bodied Try.prog 44 = true := by kernel_rfl
theorem bd45 : bodied Try.prog 45 = true := by kernel_rfl
theorem bd46 : bodied Try.prog 46 = true := by kernel_rfl
theorem bd59 : bodied Try.prog 59 = true := by kernel_rfl
theorem bd60 : bodied Try.prog 60 = true := by kernel_rfl
theorem bd61 : bodied Try.prog 61 = true := by kernel_rfl
theorem bd62 : bodied Try.prog 62 = true := by kernel_rfl
theorem bd67 : bodied Try.prog 67 = true := by kernel_rfl
theorem bd75 : bodied Try.prog 75 = true := by kernel_rfl
theorem ft47_0 : fieldT Try.prog 47 0 = some (3, 0) := by kernel_rfl
theorem ft47_1 : fieldT Try.prog 47 1 = some (3, 1) := by kernel_rfl
theorem ft47_2 : fieldT Try.prog 47 2 = some (2, 2) := by kernel_rfl
theorem ft47_3 : fieldT Try.prog 47 3 = some (37, 3) := by kernel_rfl
theorem ft65_0 : fieldT Try.prog 65 0 = some (33, 0) := by kernel_rfl
theorem ft65_1 : fieldT Try.prog 65 1 = some (61, 10) := by kernel_rfl
theorem ft65_2 : fieldT Try.prog 65 2 = some (63, 11) := by kernel_rfl
theorem sz61 : (Try.prog.info? 61).map (·.size) = some 1 := by kernel_rfl
theorem sz63 : (Try.prog.info? 63).map (·.size) = some 1 := by kernel_rfl
theorem sz69 : (Try.prog.info? 69).map (·.size) = some 1 := by kernel_rfl
theorem ut35 : Try.prog.underlying 35 = some (.pointer 65) := by kernel_rfl
theorem ut63 : Try.prog.underlying 63 = some (.slice 69) := by kernel_rfl
abbrev Z45 (a : List (List Int)) : AV := (.rp [.one, .one, .one, .one, .q eIL a, .one, .one, .one, .one, .one, .one, .one])
theorem r_has (a : List (List Int)) (r : Int) (hro : a.length ≤ 65536) : Fn Try.prog 23 [.rp [.one, .one, .one, .one, .ro a.length (enc eIL a), .one, .one, .one, .one, .one, .one, .one], .v (.int .i64 r)] (.v (.bool (hasR a r))) := by
 refine fnE_of_body (N := 21) Try.func23 rfl rfl (resOf1 rfl) (by simp) (fun w0 X hL_ => ?_)
 refine seqR ?_
 refine mG (.b false) ?_
 refine op0 ?_
 refine seqR ?_
 refine mG (Z45 a) ?_
 refine oG (aop_ptNil rfl rfl rfl ut35 rfl rfl rfl (.inr ⟨rfl, rfl⟩) ?_)
 refine mG (.b true) ?_
 refine opY rfl rfl rfl rfl (aop_move (av := .i r) (.inl rfl) rfl rfl rfl ?_)
 refine opY rfl rfl rfl rfl (aop_binI (u := (.bool (decide (r ≥ 0)))) rfl rfl rfl rfl rfl trivial rfl ?_)
 refine oG (aop_pick (b := true) (av := .b (decide (r ≥ 0))) rfl rfl rfl rfl rfl ?_)
 refine mG (.b (decide (r ≥ 0))) ?_
 refine aops_grp 9 20 (.b ((decide (r ≥ 0)) && (decide (r < (a.length : Int))))) ?_ ?_
 ·refine (Bool.eq_false_or_eq_true (decide (r ≥ 0))).elim (fun hg1 => ?_) (fun hg1 => ?_)
  ·skip
   have hf2 := of_decide_eq_true hg1
   refine oY hg1 (qM (.i r) ?_)
   refine oY hg1 (qM (Z45 a) ?_)
   refine oY hg1 (aop_nilCheck rfl rfl rfl rfl rfl ?_)
   refine oY hg1 (qF (Z45 a) (Z45 a) ft65_0 sz33 ?_)
   refine oY hg1 (qF (Z45 a) (.rp [.q eIL a, .one, .one, .one, .one, .one, .one, .one]) ft33_4 sz30 ?_)
   refine oY hg1 (qL (.q eIL a) ag30 ?_)
   refine oY hg1 (qN ut30 ?_)
   refine oY hg1 (qB (.bool (decide (r < (a.length : Int)))) rfl ?_)
   refine oG (qP (decide (r ≥ 0)) (.b (decide (r < (a.length : Int)))) hg1 ?_)
   refine op0 ?_
   exact imp_env (lee_both 20 _ _ (by rw [hg1] <;> rfl) lO)
  have hf3 := of_decide_eq_false hg1
  refine nG hg1 ?_
  refine nG hg1 ?_
  refine nG hg1 ?_
  refine nG hg1 ?_
  refine nG hg1 ?_
  refine nG hg1 ?_
  refine nG hg1 ?_
  refine nG hg1 ?_
  refine oG (qP (decide (r ≥ 0)) (.b false) hg1 ?_)
  refine op0 ?_
  exact imp_env (lee_both 20 _ _ (by rw [hg1] <;> rfl) lO)
 refine mG (.b ((decide (r ≥ 0)) && (decide (r < (a.length : Int))))) ?_
 refine op0 ?_
 refine rT (upd none_ 4 (.b ((decide (r ≥ 0)) && (decide (r < (a.length : Int)))))) noOb ?_
 refine awp_ret ?_
 exact fret (av := .v (.bool ((decide (r ≥ 0)) && (decide (r < (a.length : Int)))))) rfl rfl (by rfl)
theorem r_pieces (a : List (List Int)) (r : Int) (hro : a.length ≤ 65536) (hr : 0 ≤ r ∧ r < (a.length : Int)) (hp : 1 ≤ (a.getD r.toNat []).length) : Fn Try.prog 34 [.rp [.one, .one, .one, .one, .ro a.length (enc eIL a), .one, .one, .one, .one, .one, .one, .one], .v (.int .i64 r)] (.ro ((pthR a r).length) (enc eI (pthR a r))) := by
 have hps : 1 ≤ (a[r.toNat]?.getD []).length := by rw [← List.getD_eq_getElem?_getD]; exact hp
 refine fnE_of_body (N := 14) Try.func34 rfl rfl (resOf1 rfl) (by simp) (fun w0 X hL_ => ?_)
 refine seqR ?_
 refine mG vN ?_
 refine op0 ?_
 refine seqR ?_
 refine mG (.rp [.one, .one, .one, .one, .q eIL a, .one, .one, .one, .one, .one, .one, .one]) ?_
 refine oG (aop_nilCheck rfl rfl rfl rfl rfl ?_)
 refine oG (qF (.rp [.one, .one, .one, .one, .q eIL a, .one, .one, .one, .one, .one, .one, .one]) (.rp [.one, .one, .one, .one, .q eIL a, .one, .one, .one, .one, .one, .one, .one]) ft65_0 sz33 ?_)
 refine oG (qF (.rp [.one, .one, .one, .one, .q eIL a, .one, .one, .one, .one, .one, .one, .one]) (.rp [.q eIL a, .one, .one, .one, .one, .one, .one, .one]) ft33_4 sz30 ?_)
 refine oG (qL (.q eIL a) ag30 ?_)
 refine mG (.i r) ?_
 refine oG (aop_ixI [] rfl rfl rfl ut30 sz42 rfl rfl (fun _ => rfl) rfl om oo ?_)
 refine oG (qL (.q eI (a.getD r.toNat [])) ag42 ?_)
 refine oG (aop_sliceRoN (l := 1) (hgh := ((a.getD r.toNat []).length)) (cells' := enc eI ((a.getD r.toNat []).drop 1)) (((a.getD r.toNat []).drop 1)).length rfl rfl rfl ut42 sz3 rfl ⟨_, rfl⟩ rfl oo oo (sliceE1 (f := eI) (fun _ => rfl) _ _ _ rfl) oz ?_)
 refine mG (.q eI ((a.getD r.toNat []).drop 1)) ?_
 refine rU (upd none_ 4 (.q eI ((a.getD r.toNat []).drop 1))) noOb ?_
 refine awp_ret ?_
 exact fret (av := .ro ((((a.getD r.toNat []).drop 1)).length) (enc eI ((a.getD r.toNat []).drop 1))) rfl rfl rfl
abbrev Z47 (a : List (List Int)) (ls : List Lk) : AV := (.rp [.one, .one, .one, .one, .q eIL a, .one, .one, .one, .one, .one, .one, .q eLp ls])
abbrev Z46 (ls : List Lk) (k : Nat) : AV := (.rp [.i ((ls.getD k dLk).route), .i ((ls.getD k dLk).train), .i ((ls.getD k dLk).ends), .ro ((ls.getD k dLk).pieces.length) (enc eU8 ((ls.getD k dLk).pieces))])
abbrev Z48 (a : List (List Int)) (ls : List Lk) (s : Int) : Nat → AV := (upd (upd (upd none_ 0 (Z47 a ls)) 1 (.i s)) 4 (.i 0))
theorem r_Whose (a : List (List Int)) (ls : List Lk) (s : Int) (hro : a.length ≤ 65536) (hll : ls.length ≤ 65536) (hlk : ∀ x, x ∈ ls → LkP a x) : Fn Try.prog 13 [.rp [.one, .one, .one, .one, .ro a.length (enc eIL a), .one, .one, .one, .one, .one, .one, .ro ls.length (enc eLp ls)], .v (.int .i64 s)] (.v (.int .i64 (whoQ a ls s))) := by
 refine fnE_of_body (N := 44) Try.func13 rfl rfl (resOf1 rfl) (by simp) (fun w0 X hL_ => ?_)
 refine seqR ?_
 refine mG (.i 0) ?_
 refine op0 ?_
 refine awp_seq ?_
 refine seqR ?_
 refine mG (Z47 a ls) ?_
 refine oG (aop_ptNil rfl rfl rfl ut35 rfl rfl rfl (.inl ⟨rfl, rfl⟩) ?_)
 refine op0 ?_
 refine awp_cond false rfl rfl (fun h => by cases h) (fun _ => ?_)
 refine awp_skip ?_
 refine awp_seq ?_
 refine seqR ?_
 refine mG (Z47 a ls) ?_
 refine oG (aop_nilCheck rfl rfl rfl rfl rfl ?_)
 refine oG (qF (Z47 a ls) (.rp [.q eLp ls]) ft65_2 sz63 ?_)
 refine oG (qL (.q eLp ls) ag63 ?_)
 refine oG (qN ut63 ?_)
 refine mG (.i 0) ?_
 refine rU (upd (upd (upd (Z48 a ls s) 13 (.q eLp ls)) 14 (.i (ls.length : Int))) 15 (.i 0)) noOb ?_
 refine awp_block ?_
 refine awp_countI (fun k => ⟨(upd (upd (upd (Z48 a ls s) 13 (.q eLp ls)) 14 (.i (ls.length : Int))) 15 (.i (k : Int))), noOb⟩) (fun k => (ls.take k).any (whQ a s) = false) (ls.length) ?_ (by simp) (fun k hk_k hinv => ?_)
 ·skip
  exact iN
 refine seqR ?_
 refine bG ((.bool (decide ((k : Int) < (ls.length : Int))))) ?_
 refine op0 ?_
 refine awp_seq ?_
 refine awp_cond (decide ((k : Int) < (ls.length : Int))) rfl rfl (fun hc1 => ?_) (fun hc1 => ?_)
 ·skip
  have hf1 := of_decide_eq_true hc1
  have hx := hlk _ (getD_mem (l := ls) (k := k) dLk om)
  have hxr := hx.r
  have hxp := hx.ps
  have hxl := hx.ln
  have hix := ixQ_r (routes := a) (s := s) (x := (ls.getD k dLk))
  have hpl := pth_len (routes := a) (r := (ls.getD k dLk).route)
  refine awp_skip ?_
  refine awp_seq ?_
  refine awp_block ?_
  refine seqR ?_
  refine oG (qX dLk ut63 sz69 ?_)
  refine oG (qL (Z46 ls k) ag69 ?_)
  refine mG (Z46 ls k) ?_
  refine rU (upd (upd (upd (upd (Z48 a ls s) 6 (Z46 ls k)) 13 (.q eLp ls)) 14 (.i (ls.length : Int))) 15 (.i (k : Int))) noOb ?_
  refine seqR ?_
  refine mG (Z47 a ls) ?_
  refine mG (Z46 ls k) ?_
  refine oG (aop_nilCheck rfl rfl rfl rfl rfl ?_)
  refine oG (qF (Z46 ls k) (Z46 ls k) ft47_0 sz3 ?_)
  refine oG (qL (.i ((ls.getD k dLk).route)) ag3 ?_)
  refine oG (qC (r_pieces a (ls.getD k dLk).route hro hxr om) bd34 ?_)
  refine mG (.i s) ?_
  refine oG (qJ (show Fn Try.prog 41 [.q eI (pthR a ((ls.getD k dLk).route)), .i s] (.i (ixQ a s (ls.getD k dLk))) from (ixI (pthR a (ls.getD k dLk).route) s om)) bd41 ?_)
  refine mG (.i (ixQ a s (ls.getD k dLk))) ?_
  refine rU (upd (upd (upd (upd (upd (Z48 a ls s) 6 (Z46 ls k)) 7 (.i (ixQ a s (ls.getD k dLk)))) 13 (.q eLp ls)) 14 (.i (ls.length : Int))) 15 (.i (k : Int))) noOb ?_
  refine seqR ?_
  refine mG (.i (ixQ a s (ls.getD k dLk))) ?_
  refine bG ((.bool (decide ((ixQ a s (ls.getD k dLk)) ≥ 0)))) ?_
  refine mG (.b (decide ((ixQ a s (ls.getD k dLk)) ≥ 0))) ?_
  refine aops_grp 9 38 (.b ((decide ((ixQ a s (ls.getD k dLk)) ≥ 0)) && ((((ls.getD k dLk).pieces).getD (ixQ a s (ls.getD k dLk)).toNat 0) != 0))) ?_ ?_
  ·refine (Bool.eq_false_or_eq_true (decide ((ixQ a s (ls.getD k dLk)) ≥ 0))).elim (fun hg2 => ?_) (fun hg2 => ?_)
   ·skip
    have hf3 := of_decide_eq_true hg2
    refine oY hg2 (qM (Z46 ls k) ?_)
    refine oY hg2 (aop_nilCheck rfl rfl rfl rfl rfl ?_)
    refine oY hg2 (qF (Z46 ls k) (.rp [.ro ((ls.getD k dLk).pieces.length) (enc eU8 ((ls.getD k dLk).pieces))]) ft47_3 sz37 ?_)
    refine oY hg2 (qL (.ro ((ls.getD k dLk).pieces.length) (enc eU8 ((ls.getD k dLk).pieces))) ag37 ?_)
    refine oY hg2 (qM (.i (ixQ a s (ls.getD k dLk))) ?_)
    refine oY hg2 (aop_ixI 0 rfl rfl rfl ut37 sz5 rfl rfl (fun _ => rfl) rfl om oo ?_)
    refine oY hg2 (qL (.v (.int .u8 (((ls.getD k dLk).pieces).getD (ixQ a s (ls.getD k dLk)).toNat 0))) ag5 ?_)
    refine oY hg2 (qB (.bool ((((ls.getD k dLk).pieces).getD (ixQ a s (ls.getD k dLk)).toNat 0) != 0)) rfl ?_)
    refine oG (qP (decide ((ixQ a s (ls.getD k dLk)) ≥ 0)) (.b ((((ls.getD k dLk).pieces).getD (ixQ a s (ls.getD k dLk)).toNat 0) != 0)) hg2 ?_)
    refine op0 ?_
    exact imp_env (lee_both 38 _ _ (by rw [hg2] <;> rfl) lO)
   have hf4 := of_decide_eq_false hg2
   refine nG hg2 ?_
   refine nG hg2 ?_
   refine nG hg2 ?_
   refine nG hg2 ?_
   refine nG hg2 ?_
   refine nG hg2 ?_
   refine nG hg2 ?_
   refine nG hg2 ?_
   refine oG (qP (decide ((ixQ a s (ls.getD k dLk)) ≥ 0)) (.b false) hg2 ?_)
   refine op0 ?_
   exact imp_env (lee_both 38 _ _ (by rw [hg2] <;> rfl) lO)
  refine op0 ?_
  refine awp_cond ((decide ((ixQ a s (ls.getD k dLk)) ≥ 0)) && ((((ls.getD k dLk).pieces).getD (ixQ a s (ls.getD k dLk)).toNat 0) != 0)) rfl rfl (fun hc2 => ?_) (fun hc2 => ?_)
  ·skip
   obtain ⟨hf5a, hf5b⟩ := and_t hc2
   have hf6 := of_decide_eq_true hf5a
   have hf7 := (bne_iff_ne).1 hf5b
   have hwq : whQ a s (ls.getD k dLk) = true := hc2
   refine seqR ?_
   refine mG (Z46 ls k) ?_
   refine oG (aop_nilCheck rfl rfl rfl rfl rfl ?_)
   refine oG (qF (Z46 ls k) (Z46 ls k) ft47_0 sz3 ?_)
   refine oG (qL (.i ((ls.getD k dLk).route)) ag3 ?_)
   refine mG (.i ((ls.getD k dLk).route)) ?_
   refine rU (upd (upd (upd (upd (upd (upd (upd (upd none_ 0 (Z47 a ls)) 1 (.i s)) 4 (.i ((ls.getD k dLk).route))) 6 (Z46 ls k)) 7 (.i (ixQ a s (ls.getD k dLk)))) 13 (.q eLp ls)) 14 (.i (ls.length : Int))) 15 (.i (k : Int))) noOb ?_
   refine awp_ret ?_
   exact fret (av := .v (.int .i64 ((ls.getD k dLk).route))) rfl rfl (by rw [whoQ_at om hinv hwq] <;> rfl)
  have hwq : whQ a s (ls.getD k dLk) = false := hc2
  refine awp_skip ?_
  refine regR ?_
  refine oG (qB (.int .i64 ((k + 1 : Nat) : Int)) (addN om) ?_)
  refine mG (.i ((k + 1 : Nat) : Int)) ?_
  refine op0 ?_
  show _ ∧ _
  refine ⟨by omega, (any_step dLk om hinv hwq), ?_⟩
  exact iN
 have hf8 := of_decide_eq_false hc1
 refine awp_exit ?_
 refine seqR ?_
 refine mG (.i (-1)) ?_
 refine op0 ?_
 refine awp_ret ?_
 exact fret (av := .v (.int .i64 (-1))) rfl rfl (by rw [whoQ_no om hinv] <;> rfl)
theorem r_turn1 (b : Int)  : Fn Try.prog 60 [.v (.int .u8 b)] (.v (.bool (b != 0))) := by
 refine fnE_of_body (N := 5) Try.func60 rfl rfl (resOf1 rfl) (by simp) (fun w0 X hL_ => ?_)
 refine seqR ?_
 refine mG (.b false) ?_
 refine op0 ?_
 refine seqR ?_
 refine mG (.v (.int .u8 b)) ?_
 refine bG ((.bool (b != 0))) ?_
 refine mG (.b (b != 0)) ?_
 refine rU (upd none_ 2 (.b (b != 0))) noOb ?_
 refine awp_ret ?_
 exact fret (av := .v (.bool (b != 0))) rfl rfl rfl
theorem r_over1 (b : Int)  : Fn Try.prog 62 [.v (.int .u8 b)] (.v (.bool (b != 0))) := by
 refine fnE_of_body (N := 5) Try.func62 rfl rfl (resOf1 rfl) (by simp) (fun w0 X hL_ => ?_)
 refine seqR ?_
 refine mG (.b false) ?_
 refine op0 ?_
 refine seqR ?_
 refine mG (.v (.int .u8 b)) ?_
 refine bG ((.bool (b != 0))) ?_
 refine mG (.b (b != 0)) ?_
 refine rU (upd none_ 2 (.b (b != 0))) noOb ?_
 refine awp_ret ?_
 exact fret (av := .v (.bool (b != 0))) rfl rfl rfl
theorem ixBt (l : List Int)  (hl : l.length ≤ 4294967296)  : Fn Try.prog 75 [.ro l.length (enc eU8 l), .fn 60 []] (.v (.int .i64 (idxB (fun b : Int => b != 0) l))) := by
 refine fnE_of_body (N := 19) Try.func75 rfl rfl (resOf1 rfl) (by simp) (fun w0 X hL_ => ?_)
 refine seqR ?_
 refine mG (.i 0) ?_
 refine op0 ?_
 refine awp_seq ?_
 refine seqR ?_
 refine mG (.q eU8 l) ?_
 refine oG (qN ut37 ?_)
 refine mG (.i 0) ?_
 refine rU (upd (upd (upd (upd (upd none_ 0 (.q eU8 l)) 1 (.fn 60 [])) 4 (.i 0)) 7 (.i (l.length : Int))) 8 (.i 0)) noOb ?_
 refine awp_block ?_
 refine awp_countI (fun k => ⟨(upd (upd (upd (upd (upd none_ 0 (.q eU8 l)) 1 (.fn 60 [])) 4 (.i 0)) 7 (.i (l.length : Int))) 8 (.i (k : Int))), noOb⟩) (fun k => (l.take k).any (fun b : Int => b != 0) = false) (l.length) ?_ (by simp) (fun k hk_k hinv => ?_)
 ·skip
  exact iN
 refine seqR ?_
 refine bG ((.bool (decide ((k : Int) < (l.length : Int))))) ?_
 refine op0 ?_
 refine awp_seq ?_
 refine awp_cond (decide ((k : Int) < (l.length : Int))) rfl rfl (fun hc0 => ?_) (fun hc0 => ?_)
 ·skip
  have hf1 := of_decide_eq_true hc0
  refine awp_skip ?_
  refine awp_seq ?_
  refine awp_block ?_
  refine seqR ?_
  refine mG (.i (k : Int)) ?_
  refine mG (.i (k : Int)) ?_
  refine op0 ?_
  refine seqR ?_
  refine mG (.fn 60 []) ?_
  refine mG (.q eU8 l) ?_
  refine mG (.i (k : Int)) ?_
  refine oG (qX (0 : Int) ut37 sz5 ?_)
  refine oG (qL (.v (.int .u8 (l.getD k 0))) ag5 ?_)
  refine oG (qJ (r_turn1 (l.getD k 0)) bd60 ?_)
  refine rU (upd (upd (upd (upd (upd (upd (upd none_ 0 (.q eU8 l)) 1 (.fn 60 [])) 4 (.i 0)) 5 (.i (k : Int))) 7 (.i (l.length : Int))) 8 (.i (k : Int))) 16 (.b ((l.getD k 0) != 0))) noOb ?_
  refine awp_cond ((l.getD k 0) != 0) rfl rfl (fun hc1 => ?_) (fun hc1 => ?_)
  ·skip
   refine seqR ?_
   refine mG (.i (k : Int)) ?_
   refine mG (.i (k : Int)) ?_
   refine op0 ?_
   refine awp_ret ?_
   exact fret (av := .v (.int .i64 (k : Int))) rfl rfl (by rw [idxB_stop (f := fun b : Int => b != 0) 0 om hinv hc1] <;> rfl)
  refine awp_skip ?_
  refine regR ?_
  refine oG (qB (.int .i64 ((k + 1 : Nat) : Int)) (addN om) ?_)
  refine mG (.i ((k + 1 : Nat) : Int)) ?_
  refine op0 ?_
  show _ ∧ _
  refine ⟨by omega, (any_step 0 om hinv hc1), ?_⟩
  exact iN
 have hf2 := of_decide_eq_false hc0
 refine awp_exit ?_
 refine seqR ?_
 refine mG (.i (-1)) ?_
 refine op0 ?_
 refine awp_ret ?_
 exact fret (av := .v (.int .i64 (-1))) rfl rfl (by rw [idxB_end (f := fun b : Int => b != 0) om hinv] <;> rfl)
theorem coBt (l : List Int)  (hl : l.length ≤ 4294967296)  : Fn Try.prog 59 [.ro l.length (enc eU8 l), .fn 60 []] (.v (.bool (l.any (fun b : Int => b != 0)))) := by
 refine fnE_of_body (N := 9) Try.func59 rfl rfl (resOf1 rfl) (by simp) (fun w0 X hL_ => ?_)
 refine seqR ?_
 refine mG (.b false) ?_
 refine op0 ?_
 refine seqR ?_
 refine mG (.q eU8 l) ?_
 refine mG (.fn 60 []) ?_
 refine oG (qJ (ixBt l oo) bd75 ?_)
 refine bG ((.bool (decide ((idxB (fun b : Int => b != 0) l) ≥ 0)))) ?_
 refine mG (.b (decide ((idxB (fun b : Int => b != 0) l) ≥ 0))) ?_
 refine rU (upd none_ 4 (.b (decide ((idxB (fun b : Int => b != 0) l) ≥ 0)))) noOb ?_
 refine awp_ret ?_
 exact fret (av := .v (.bool (decide ((idxB (fun b : Int => b != 0) l) ≥ 0)))) rfl rfl (by rw [idxB_any 0] <;> rfl)
theorem ixBo (l : List Int)  (hl : l.length ≤ 4294967296)  : Fn Try.prog 75 [.ro l.length (enc eU8 l), .fn 62 []] (.v (.int .i64 (idxB (fun b : Int => b != 0) l))) := by
 refine fnE_of_body (N := 19) Try.func75 rfl rfl (resOf1 rfl) (by simp) (fun w0 X hL_ => ?_)
 refine seqR ?_
 refine mG (.i 0) ?_
 refine op0 ?_
 refine awp_seq ?_
 refine seqR ?_
 refine mG (.q eU8 l) ?_
 refine oG (qN ut37 ?_)
 refine mG (.i 0) ?_
 refine rU (upd (upd (upd (upd (upd none_ 0 (.q eU8 l)) 1 (.fn 62 [])) 4 (.i 0)) 7 (.i (l.length : Int))) 8 (.i 0)) noOb ?_
 refine awp_block ?_
 refine awp_countI (fun k => ⟨(upd (upd (upd (upd (upd none_ 0 (.q eU8 l)) 1 (.fn 62 [])) 4 (.i 0)) 7 (.i (l.length : Int))) 8 (.i (k : Int))), noOb⟩) (fun k => (l.take k).any (fun b : Int => b != 0) = false) (l.length) ?_ (by simp) (fun k hk_k hinv => ?_)
 ·skip
  exact iN
 refine seqR ?_
 refine bG ((.bool (decide ((k : Int) < (l.length : Int))))) ?_
 refine op0 ?_
 refine awp_seq ?_
 refine awp_cond (decide ((k : Int) < (l.length : Int))) rfl rfl (fun hc0 => ?_) (fun hc0 => ?_)
 ·skip
  have hf1 := of_decide_eq_true hc0
  refine awp_skip ?_
  refine awp_seq ?_
  refine awp_block ?_
  refine seqR ?_
  refine mG (.i (k : Int)) ?_
  refine mG (.i (k : Int)) ?_
  refine op0 ?_
  refine seqR ?_
  refine mG (.fn 62 []) ?_
  refine mG (.q eU8 l) ?_
  refine mG (.i (k : Int)) ?_
  refine oG (qX (0 : Int) ut37 sz5 ?_)
  refine oG (qL (.v (.int .u8 (l.getD k 0))) ag5 ?_)
  refine oG (qJ (r_over1 (l.getD k 0)) bd62 ?_)
  refine rU (upd (upd (upd (upd (upd (upd (upd none_ 0 (.q eU8 l)) 1 (.fn 62 [])) 4 (.i 0)) 5 (.i (k : Int))) 7 (.i (l.length : Int))) 8 (.i (k : Int))) 16 (.b ((l.getD k 0) != 0))) noOb ?_
  refine awp_cond ((l.getD k 0) != 0) rfl rfl (fun hc1 => ?_) (fun hc1 => ?_)
  ·skip
   refine seqR ?_
   refine mG (.i (k : Int)) ?_
   refine mG (.i (k : Int)) ?_
   refine op0 ?_
   refine awp_ret ?_
   exact fret (av := .v (.int .i64 (k : Int))) rfl rfl (by rw [idxB_stop (f := fun b : Int => b != 0) 0 om hinv hc1] <;> rfl)
  refine awp_skip ?_
  refine regR ?_
  refine oG (qB (.int .i64 ((k + 1 : Nat) : Int)) (addN om) ?_)
  refine mG (.i ((k + 1 : Nat) : Int)) ?_
  refine op0 ?_
  show _ ∧ _
  refine ⟨by omega, (any_step 0 om hinv hc1), ?_⟩
  exact iN
 have hf2 := of_decide_eq_false hc0
 refine awp_exit ?_
 refine seqR ?_
 refine mG (.i (-1)) ?_
 refine op0 ?_
 refine awp_ret ?_
 exact fret (av := .v (.int .i64 (-1))) rfl rfl (by rw [idxB_end (f := fun b : Int => b != 0) om hinv] <;> rfl)
theorem coBo (l : List Int)  (hl : l.length ≤ 4294967296)  : Fn Try.prog 59 [.ro l.length (enc eU8 l), .fn 62 []] (.v (.bool (l.any (fun b : Int => b != 0)))) := by
 refine fnE_of_body (N := 9) Try.func59 rfl rfl (resOf1 rfl) (by simp) (fun w0 X hL_ => ?_)
 refine seqR ?_
 refine mG (.b false) ?_
 refine op0 ?_
 refine seqR ?_
 refine mG (.q eU8 l) ?_
 refine mG (.fn 62 []) ?_
 refine oG (qJ (ixBo l oo) bd75 ?_)
 refine bG ((.bool (decide ((idxB (fun b : Int => b != 0) l) ≥ 0)))) ?_
 refine mG (.b (decide ((idxB (fun b : Int => b != 0) l) ≥ 0))) ?_
 refine rU (upd none_ 4 (.b (decide ((idxB (fun b : Int => b != 0) l) ≥ 0)))) noOb ?_
 refine awp_ret ?_
 exact fret (av := .v (.bool (decide ((idxB (fun b : Int => b != 0) l) ≥ 0)))) rfl rfl (by rw [idxB_any 0] <;> rfl)
theorem r_over (ps : List Int) (hl : ps.length ≤ 65536) : Fn Try.prog 39 [.ro ps.length (enc eU8 ps)] (.v (.bool (!(ps.any (fun b : Int => b != 0))))) := by
 refine fnE_of_body (N := 6) Try.func39 rfl rfl (resOf1 rfl) (by simp) (fun w0 X hL_ => ?_)
 refine seqR ?_
 refine mG (.b false) ?_
 refine op0 ?_
 refine seqR ?_
 refine mG (.q eU8 ps) ?_
 refine oG (qJ (coBo ps om) bd59 ?_)
 refine oG (aop_not rfl rfl rfl rfl ?_)
 refine mG (.b (!(ps.any (fun b : Int => b != 0)))) ?_
 refine rU (upd none_ 2 (.b (!(ps.any (fun b : Int => b != 0))))) noOb ?_
 refine awp_ret ?_
 exact fret (av := .v (.bool (!(ps.any (fun b : Int => b != 0))))) rfl rfl rfl
theorem r_Step1 (ps : List Int) (hl : ps.length ≤ 65536) : Fn Try.prog 38 [.rp [.one, .one, .one, .ro ps.length (enc eU8 ps)]] (.v (.bool (!(ps.any (fun b : Int => b != 0))))) := by
 refine fnE_of_body (N := 8) Try.func38 rfl rfl (resOf1 rfl) (by simp) (fun w0 X hL_ => ?_)
 refine seqR ?_
 refine mG (.b false) ?_
 refine op0 ?_
 refine seqR ?_
 refine mG (.rp [.one, .one, .one, .q eU8 ps]) ?_
 refine oG (aop_nilCheck rfl rfl rfl rfl rfl ?_)
 refine oG (qF (.rp [.one, .one, .one, .q eU8 ps]) (.rp [.q eU8 ps]) ft47_3 sz37 ?_)
 refine oG (qL (.q eU8 ps) ag37 ?_)
 refine oG (qJ (r_over ps oo) bd39 ?_)
 refine mG (.b (!(ps.any (fun b : Int => b != 0)))) ?_
 refine rU (upd none_ 2 (.b (!(ps.any (fun b : Int => b != 0))))) noOb ?_
 refine awp_ret ?_
 exact fret (av := .v (.bool (!(ps.any (fun b : Int => b != 0))))) rfl rfl rfl
end Go.Lo
