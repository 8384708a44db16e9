/- Walks of Go functions in the logic of values: what the law reaches. -/
import Derived.Test.YtdeajfldegcdaaaPFnLs4
set_option linter.unusedVariables false
set_option linter.unusedSimpArgs false
set_option maxRecDepth 10000
set_option maxHeartbeats 16000000
namespace Go.Lo
open Go.Proofs
abbrev Z7h (nn : Int) (e : List Act) : Nat → AV := (upd (upd none_ 1 (.v (.int .u8 nn))) 2 (.q eAc e))
abbrev Z7g (e : List Act) : Nat → AV := (upd (upd none_ 2 (.q eAc e)) 9 (.pt 1 0))
abbrev Z7e (e : List Act) : Nat → AV := (upd (upd (upd none_ 2 (.q eAc e)) 6 (.b false)) 7 (.pt 52 0))
abbrev Z7c : LObj := ⟨[.v (.pointer none)], 69, 1⟩
abbrev Z7b (e : List Act) : Nat → AV := (upd (upd none_ 2 (.q eAc e)) 7 (.pt 6 0))
abbrev Z7a (d : Draft) : List AV := [.v (.int .u8 d.form), .v (.int .u8 d.len), .v (.int .u8 d.speed), .v (.int .u16 d.mute), .v (.int .u16 d.wait), .v (.int .u8 d.cancel), .v (.int .u8 d.stay), .v (.int .u8 d.jn), .q eUL d.rs]
abbrev Z7f (d : Draft) : Nat → OSt := (updO noOb 51 (.live ⟨(Z7a d), 25, 1⟩))
abbrev Z7d (d : Draft) : Nat → OSt := (updO (Z7f d) 52 (.live ⟨[vN, vN, vN, vN, vN, .i 0, .i 0, .i 0, .i 0, .i 0], 33, 1⟩))
theorem l15_RouteLoose (d : Draft) (nn : Int) (e : List Act) (hd : DraftOk d) (hnn : 0 ≤ nn ∧ nn ≤ 255) (hac : e.length ≤ maxLen) (g : ∀ y, y ∈ e → ActOk y) : Fn Try.prog 4 [.agg [.v (.int .u8 d.form), .v (.int .u8 d.len), .v (.int .u8 d.speed), .v (.int .u16 d.mute), .v (.int .u16 d.wait), .v (.int .u8 d.cancel), .v (.int .u8 d.stay), .v (.int .u8 d.jn), .ro d.rs.length (enc eUL d.rs)], .v (.int .u8 nn), .ro e.length (enc eAc e)] (.v (.bool true)) := by
 have hd1 := hd.form
 have hd2 := hd.len
 have hd3 := hd.speed
 have hd4 := hd.mute
 have hd5 := hd.wait
 have hd6 := hd.cancel
 have hd7 := hd.stay
 have hd8 := hd.jn
 have hd9 := hd.n
 have hmx : maxLen = 9223372036854775807 := rfl
 have hel := mkEnds_len d.form
 have hsl := mkSecs_len d.form d.len
 have hpl := mkPts_len d.form
 refine fnE_of_body (N := 221) Try.func4 rfl rfl (resOf1 rfl) (by simp) (fun w0 X hL_ => ?_)
 refine seqR ?_
 refine oG (qW 51 ?_)
 refine mG (.b false) ?_
 refine op0 ?_
 refine awp_seq ?_
 refine seqR ?_
 refine oG (qJ (l15_done) bd6 ?_)
 refine oG (aop_not rfl rfl rfl rfl ?_)
 refine mG (.b false) ?_
 refine opY rfl rfl rfl rfl (aop_ldB (cells' := (Z7a d)) rfl rfl rfl ag25 sz25 rfl rfl rfl rfl ?_)
 refine opY rfl rfl rfl rfl (callW_ (r04_Small d.rs oo) rfl rfl rfl rfl rfl bd7 lS ?_)
 refine opY rfl rfl rfl rfl (aop_not rfl rfl rfl rfl ?_)
 refine oG (aop_pick (b := false) (av := .b (!(smallB d.rs))) rfl rfl rfl rfl rfl ?_)
 refine mG (.b (!(smallB d.rs))) ?_
 refine aops_grp 4 36 (.b ((!(smallB d.rs)) || (!(smL e)))) ?_ ?_
 ·refine (Bool.eq_false_or_eq_true (!(smallB d.rs))).elim (fun hg1 => ?_) (fun hg1 => ?_)
  ·skip
   have hf2 := not_t hg1
   refine nG hg1 ?_
   refine nG hg1 ?_
   refine nG hg1 ?_
   refine oG (qP (!(smallB d.rs)) (.b true) hg1 ?_)
   refine op0 ?_
   exact imp_env (lee_both 36 _ _ (by rw [hg1] <;> rfl) lO)
  have hf3 := not_f hg1
  refine oY hg1 (qM (.q eAc e) ?_)
  refine oY hg1 (qJ (l15_small e hac g) bd14 ?_)
  refine oY hg1 (aop_not rfl rfl rfl rfl ?_)
  refine oG (qP (!(smallB d.rs)) (.b (!(smL e))) hg1 ?_)
  refine op0 ?_
  exact imp_env (lee_both 36 _ _ (by rw [hg1] <;> rfl) lO)
 refine op0 ?_
 refine rT (upd (upd (upd (Z7h nn e) 3 (.pt 51 0)) 6 (.b false)) 36 (.b ((!(smallB d.rs)) || (!(smL e))))) (Z7f d) ?_
 refine awp_cond ((!(smallB d.rs)) || (!(smL e))) rfl rfl (fun hc0 => ?_) (fun hc0 => ?_)
 ·skip
  refine seqR ?_
  refine oG (qJ (l15_done) bd6 ?_)
  refine mG (.b true) ?_
  refine op0 ?_
  refine awp_ret ?_
  exact fret (av := .v (.bool true)) rfl rfl rfl
 obtain ⟨hf4a, hf4b⟩ := or_f hc0
 have hf5 := not_f hf4a
 have hf6 := not_f hf4b
 have hsm : smallB d.rs = true := by cases h : smallB d.rs <;> simp [h] at hc0 ⊢
 have hsa : smL e = true := by cases h : smL e <;> simp [h] at hc0 ⊢
 obtain ⟨ha1, _⟩ := sm_iff hsa
 have hr := small_rs hsm hd.rs
 have hL := full_ok d.form d.len d.jn d.rs
 have hnd := full_nodup d.form d.len d.rs
 have hfu := r05_Full d.form d.len d.speed d.mute d.wait d.cancel d.stay d.jn d.rs hd1 hd2 hd3 hd4 hd5 hd6 hd7 hd8 hr.1 hr.2
 have hck := chk_full d.form d.len
 have hT := top_full d.form d.len
 have hwk := full_wk d.form d.len d.rs
 have hcn : 0 ≤ 1 + d.cancel ∧ 1 + d.cancel ≤ 65536 := by omega
 obtain ⟨ss, h_ss⟩ : ∃ y_, y_ = mkSecs d.form d.len := ⟨_, rfl⟩
 obtain ⟨pa, h_pa⟩ : ∃ y_, y_ = mkParts d.form d.jn := ⟨_, rfl⟩
 obtain ⟨pp, h_pp⟩ : ∃ y_, y_ = mkPts d.form := ⟨_, rfl⟩
 obtain ⟨rr, h_rr⟩ : ∃ y_, y_ = fullRoutes d.form d.len d.rs := ⟨_, rfl⟩
 obtain ⟨cn, h_cn⟩ : ∃ y_, y_ = 1 + d.cancel := ⟨_, rfl⟩
 rw [← h_ss, ← h_pa, ← h_pp, ← h_rr] at hL
 rw [← h_ss, ← h_pa, ← h_pp, ← h_rr, ← h_cn] at hfu
 rw [← h_rr] at hnd
 rw [← h_ss, ← h_pp] at hck hT
 rw [← h_ss, ← h_pp, ← h_rr] at hwk
 rw [← h_cn] at hcn
 have hq1 := hL.h1
 have hq2 := hL.hs
 have hq3 := hL.hp
 have hq4 := hL.hpa
 have hq5 := hL.hro
 have hq6 := hL.hpl
 have hq7 := hL.hpo
 refine awp_skip ?_
 refine seqR ?_
 refine oG (qLB (Z7a d) ag25 sz25 ?_)
 refine oG (qJ (show Fn Try.prog 8 [.agg (Z7a d)] (.agg [.one, .q eSec ss, .q eIL pa, .q ePnt pp, .q eIL rr, .i (1 + d.speed % (2 * (10 * (1 + d.len % 20)))), .i (1 + d.mute % 1000), .i (1 + d.wait % 1000), .i cn, .i (d.stay % 4)]) from hfu) bd8 ?_)
 refine oG (aop_alloc 52 rfl rfl rfl rfl ze33 rfl ?_)
 refine oG (qS sz33 ?_)
 refine rU (upd (upd (Z7h nn e) 6 (.b false)) 7 (.pt 52 0)) (updO (Z7d d) 52 (.live ⟨[.one, .q eSec ss, .q eIL pa, .q ePnt pp, .q eIL rr, .i (1 + d.speed % (2 * (10 * (1 + d.len % 20)))), .i (1 + d.mute % 1000), .i (1 + d.wait % 1000), .i cn, .i (d.stay % 4)], 33, 1⟩)) ?_
 refine awp_seq ?_
 refine seqR ?_
 refine fG (.pt 52 4) ft33_4 sz30 ?_
 refine oG (qL (.q eIL rr) ag30 ?_)
 refine oG (qN ut30 ?_)
 refine bG ((.bool ((rr.length : Int) == 0))) ?_
 refine rU (upd (upd (upd (Z7h nn e) 6 (.b false)) 7 (.pt 52 0)) 43 (.b ((rr.length : Int) == 0))) (updO (Z7d d) 52 (.live ⟨[.one, .q eSec ss, .q eIL pa, .q ePnt pp, .q eIL rr, .i (1 + d.speed % (2 * (10 * (1 + d.len % 20)))), .i (1 + d.mute % 1000), .i (1 + d.wait % 1000), .i cn, .i (d.stay % 4)], 33, 1⟩)) ?_
 refine awp_cond ((rr.length : Int) == 0) rfl rfl (fun hc1 => ?_) (fun hc1 => ?_)
 ·skip
  have hf7 := (beq_iff_eq).1 hc1
  refine seqR ?_
  refine mG (.b true) ?_
  refine op0 ?_
  refine awp_ret ?_
  exact fret (av := .v (.bool true)) rfl rfl rfl
 have hf8 := (beq_eq_false_iff_ne).1 hc1
 have hrr0 : ¬ (rr.length : Int) = 0 := by simp at hc1; omega
 obtain ⟨kk, h_kk⟩ : ∃ y_, y_ = (nn % (rr.length : Int)) := ⟨_, rfl⟩
 have hkr : 0 ≤ kk ∧ kk < (rr.length : Int) := by rw [h_kk]; exact ⟨Int.emod_nonneg nn hrr0, Int.emod_lt_of_pos nn om⟩
 obtain ⟨hk0, hk1, hk2, hk3, hk4, hk5⟩ := setR_ok (r := kk) hL hT hck hwk hnd hkr
 have hpq := pth_len (routes := rr) (r := kk)
 have hfl := parts_nd d.form d.jn
 rw [← h_pa] at hfl
 have hpj : ∀ j, j < (pthR rr kk).length → 0 ≤ partI pa ((pthR rr kk).getD j 0) := fun j hj => by have := hk3 _ (getD_mem (l := (pthR rr kk)) (k := j) 0 hj); exact (hq7 _ this.1 this.2).1
 refine awp_skip ?_
 refine seqR ?_
 refine mG (.v (.int .u8 nn)) ?_
 refine oG (aop_conv' rfl rfl rfl ut5 ut3 rfl (IntWalk.i64_in _ om) ?_)
 refine fG (.pt 52 4) ft33_4 sz30 ?_
 refine oG (qL (.q eIL rr) ag30 ?_)
 refine oG (qN ut30 ?_)
 refine oG (aop_binI (u := (.int .i64 kk)) rfl rfl rfl rfl rfl (by show _ ≠ _; omega) ((remI om).trans (by rw [h_kk])) ?_)
 refine mG (.i kk) ?_
 refine rU (upd (Z7e e) 8 (.i kk)) (updO (Z7d d) 52 (.live ⟨[.one, .q eSec ss, .q eIL pa, .q ePnt pp, .q eIL rr, .i (1 + d.speed % (2 * (10 * (1 + d.len % 20)))), .i (1 + d.mute % 1000), .i (1 + d.wait % 1000), .i cn, .i (d.stay % 4)], 33, 1⟩)) ?_
 refine seqR ?_
 refine oG (qLB [.one, .q eSec ss, .q eIL pa, .q ePnt pp, .q eIL rr, .i (1 + d.speed % (2 * (10 * (1 + d.len % 20)))), .i (1 + d.mute % 1000), .i (1 + d.wait % 1000), .i cn, .i (d.stay % 4)] ag33 sz33 ?_)
 refine oG (callN_ 53 (r_New ss pa pp rr cn) rfl rfl rfl rfl rfl bd9 (fun _ => lS) newsN1 (free1 rfl) rfl rfl ?_)
 refine mG (.pt 53 0) ?_
 refine op0 ?_
 refine seqR ?_
 refine mG (.pt 53 0) ?_
 refine mG (.i kk) ?_
 refine fG (.pt 52 1) ft33_1 sz29 ?_
 refine oG (qL (.q eSec ss) ag29 ?_)
 refine oG (qN ut29 ?_)
 refine oG (aop_makeRoE (n := ss.length) (f := eU8) (0 : Int) rfl rfl rfl ut37 in5 rfl rfl rfl rfl om om rfl ?_)
 refine oG (callG_ false [53] [54, 55, 56] (r_SetN ss pa pp rr cn kk 1 (List.replicate ss.length 0) om om om (by rw [List.length_replicate]; omega) hk0 om (fun s h => (hk3 s h).1) hk4 hk5) rfl rfl rfl rfl rfl bd10 (by decide) ⟨giv_no (o := ⟨[.one, .q eSec ss, .q eIL pa, .q ePnt pp, .q eIL rr, .one, .one, .one, .i cn, .one, .rp [.one, .q eSec ss, .q eIL pa, .q ePnt pp, .one, .one, .one, .one, .one, .one], vN], 65, 1⟩) rfl rfl, trivial⟩ ⟨(arg_own (.pt _ _ (by simp)) rfl), (arg_no (a := .i kk)), (arg_no (a := .i 1)), (arg_no (a := .q eU8 (List.replicate ss.length (0 : Int)))), (arg_no (a := vN)), (arg_no (a := vN)), trivial⟩ rfl ⟨rfl, rfl, rfl, trivial⟩ (fun h => by cases h) (am_no (a := .tup [.q eB (moveL ([] : List Bool) (movesL (paL ss pp (rr.getD kk.toNat [])) ([] : List Bool))), .i 0])) (place_cons (ost_map (lm_cons (am_no (a := .one)) (lm_cons (am_no (a := .q eSec ss)) (lm_cons (am_no (a := .q eIL pa)) (lm_cons (am_no (a := .q ePnt pp)) (lm_cons (am_no (a := .q eIL rr)) (lm_cons (am_no (a := .one)) (lm_cons (am_no (a := .one)) (lm_cons (am_no (a := .one)) (lm_cons (am_no (a := .i cn)) (lm_cons (am_no (a := .one)) (lm_cons (am_no (a := .rp [.one, .q eSec ss, .q eIL pa, .q ePnt pp, .one, .one, .one, .one, .one, .one])) (lm_cons rfl lm_nil))))))))))))) (place_cons (ost_map (lm_cons rfl lm_nil)) (place_cons (ost_map (lm_cons (am_no (a := .i kk)) (lm_cons (am_no (a := .i 1)) (lm_cons (am_no (a := .i (-1))) (lm_cons rfl lm_nil))))) (place_cons (ost_no (cs := (enc eU8 (List.replicate (pthR rr kk).length (1 : Int))))) place_nil)))) ?_)
 refine mG (.tup [.q eB (moveL ([] : List Bool) (movesL (paL ss pp (rr.getD kk.toNat [])) ([] : List Bool))), .i 0]) ?_
 refine oG (qE ?_)
 refine oG (qE ?_)
 refine mG (.q eB (moveL ([] : List Bool) (movesL (paL ss pp (rr.getD kk.toNat [])) ([] : List Bool)))) ?_
 refine mG (.i 0) ?_
 refine rU (upd (upd (upd (Z7e e) 8 (.i kk)) 9 (.pt 53 0)) 11 (.i 0)) (updO (updO (updO (updO (updO (updO (Z7d d) 52 (.live ⟨[.one, .q eSec ss, .q eIL pa, .q ePnt pp, .q eIL rr, .i (1 + d.speed % (2 * (10 * (1 + d.len % 20)))), .i (1 + d.mute % 1000), .i (1 + d.wait % 1000), .i cn, .i (d.stay % 4)], 33, 1⟩)) 53 (.live ⟨[.one, .q eSec ss, .q eIL pa, .q ePnt pp, .q eIL rr, .one, .one, .one, .i cn, .one, .rp [.one, .q eSec ss, .q eIL pa, .q ePnt pp, .one, .one, .one, .one, .one, .one], vN], 65, 1⟩)) 53 (.live ⟨[.one, .q eSec ss, .q eIL pa, .q ePnt pp, .q eIL rr, .one, .one, .one, .i cn, .one, .rp [.one, .q eSec ss, .q eIL pa, .q ePnt pp, .one, .one, .one, .one, .one, .one], .sl 54 0 1], 65, 1⟩)) 54 (.live ⟨[.pt 55 0], 69, 1⟩)) 55 (.live ⟨[.i kk, .i 1, .i (-1), .sl 56 0 ((List.replicate (pthR rr kk).length (1 : Int)).length)], 47, 1⟩)) 56 (.live ⟨(enc eU8 (List.replicate (pthR rr kk).length (1 : Int))), 5, 1⟩)) ?_
 refine awp_seq ?_
 refine seqR ?_
 refine mG (.i 0) ?_
 refine bG ((.bool false)) ?_
 refine op0 ?_
 refine awp_cond false rfl rfl (fun h => by cases h) (fun _ => ?_)
 refine awp_skip ?_
 refine seqCut ⟨(upd (upd (upd (Z7e e) 8 (.i kk)) 9 (.pt 53 0)) 12 (.q eI (pthR rr kk))), (updO (updO (updO (updO (updO (Z7f d) 52 (.live ⟨[.one, .q eSec ss, .q eIL pa, .q ePnt pp, .q eIL rr, .i (1 + d.speed % (2 * (10 * (1 + d.len % 20)))), .i (1 + d.mute % 1000), .i (1 + d.wait % 1000), .i cn, .i (d.stay % 4)], 33, 1⟩)) 53 (.live ⟨[.one, .q eSec ss, .q eIL pa, .q ePnt pp, .q eIL rr, .one, .one, .one, .i cn, .one, .rp [.one, .q eSec ss, .q eIL pa, .q ePnt pp, .one, .one, .one, .one, .one, .one], .sl 54 0 1], 65, 1⟩)) 54 (.live ⟨[.pt 55 0], 69, 1⟩)) 55 (.live ⟨[.i kk, .i 1, .i (-1), .sl 56 0 ((List.replicate (pthR rr kk).length (1 : Int)).length)], 47, 1⟩)) 56 (.live ⟨(enc eU8 (List.replicate (pthR rr kk).length (1 : Int))), 5, 1⟩))⟩ ?_ ?_
 ·skip
  refine regR ?_
  refine fG (.pt 52 4) ft33_4 sz30 ?_
  refine oG (qL (.q eIL rr) ag30 ?_)
  refine mG (.i kk) ?_
  refine oG (aop_ixI [] rfl rfl rfl ut30 sz42 rfl rfl (fun _ => rfl) rfl om oo ?_)
  refine oG (qL (.q eI (rr.getD kk.toNat [])) ag42 ?_)
  refine oG (aop_sliceRoN (l := 1) (hgh := ((rr.getD kk.toNat []).length)) (cells' := enc eI ((rr.getD kk.toNat []).drop 1)) (((rr.getD kk.toNat []).drop 1)).length rfl rfl rfl ut42 sz3 rfl ⟨_, rfl⟩ rfl oo oo (sliceE1 (f := eI) (fun _ => rfl) _ _ _ rfl) oz ?_)
  refine mG (.q eI ((rr.getD kk.toNat []).drop 1)) ?_
  refine op0 ?_
  show Imp _ _ _
  exact iL [(51, 51), (52, 52), (53, 53), (54, 54), (55, 55), (56, 56)] [((51, 51), .live _), ((52, 52), .live _), ((53, 53), .live _), ((54, 54), .live _), ((55, 55), .live _), ((56, 56), .live _)] ⟨row_no rfl rfl, row_no rfl rfl, row_map (o := ⟨[.one, .q eSec ss, .q eIL pa, .q ePnt pp, .q eIL rr, .one, .one, .one, .i cn, .one, .rp [.one, .q eSec ss, .q eIL pa, .q ePnt pp, .one, .one, .one, .one, .one, .one], .sl 54 0 1], 65, 1⟩) rfl (om_ (lm_cons (am_no (a := .one)) (lm_cons (am_no (a := .q eSec ss)) (lm_cons (am_no (a := .q eIL pa)) (lm_cons (am_no (a := .q ePnt pp)) (lm_cons (am_no (a := .q eIL rr)) (lm_cons (am_no (a := .one)) (lm_cons (am_no (a := .one)) (lm_cons (am_no (a := .one)) (lm_cons (am_no (a := .i cn)) (lm_cons (am_no (a := .one)) (lm_cons (am_no (a := .rp [.one, .q eSec ss, .q eIL pa, .q ePnt pp, .one, .one, .one, .one, .one, .one])) (lm_cons rfl lm_nil))))))))))))) (oks_cons (ok_no (a := .one)) (oks_cons (ok_no (a := .q eSec ss)) (oks_cons (ok_no (a := .q eIL pa)) (oks_cons (ok_no (a := .q ePnt pp)) (oks_cons (ok_no (a := .q eIL rr)) (oks_cons (ok_no (a := .one)) (oks_cons (ok_no (a := .one)) (oks_cons (ok_no (a := .one)) (oks_cons (ok_no (a := .i cn)) (oks_cons (ok_no (a := .one)) (oks_cons (ok_no (a := .rp [.one, .q eSec ss, .q eIL pa, .q ePnt pp, .one, .one, .one, .one, .one, .one])) (oks_cons (.sl _ _ _ (by simp)) oks_nil)))))))))))), row_map (o := ⟨[.pt 55 0], 69, 1⟩) rfl (om_ (lm_cons rfl lm_nil)) (oks_cons (.pt _ _ (by simp)) oks_nil), row_map (o := ⟨[.i kk, .i 1, .i (-1), .sl 56 0 ((List.replicate (pthR rr kk).length (1 : Int)).length)], 47, 1⟩) rfl (om_ (lm_cons (am_no (a := .i kk)) (lm_cons (am_no (a := .i 1)) (lm_cons (am_no (a := .i (-1))) (lm_cons rfl lm_nil))))) (oks_cons (ok_no (a := .i kk)) (oks_cons (ok_no (a := .i 1)) (oks_cons (ok_no (a := .i (-1))) (oks_cons (.sl _ _ _ (by simp)) oks_nil)))), row_no rfl rfl, trivial⟩
 refine seqR ?_
 refine mG (.q eI (pthR rr kk)) ?_
 refine oG (qN ut42 ?_)
 refine oG (aop_makeE (n := (pthR rr kk).length) (f := eB) 57 (false : Bool) rfl rfl rfl ut38 in4 rfl rfl rfl rfl om om rfl rfl ?_)
 refine mG (.sl 57 0 ((List.replicate ((pthR rr kk).length) (false : Bool)).length)) ?_
 refine rU (upd (upd (upd (upd (Z7e e) 8 (.i kk)) 9 (.pt 53 0)) 12 (.q eI (pthR rr kk))) 13 (.sl 57 0 ((List.replicate ((pthR rr kk).length) (false : Bool)).length))) (updO (updO (updO (updO (updO (updO (Z7f d) 52 (.live ⟨[.one, .q eSec ss, .q eIL pa, .q ePnt pp, .q eIL rr, .i (1 + d.speed % (2 * (10 * (1 + d.len % 20)))), .i (1 + d.mute % 1000), .i (1 + d.wait % 1000), .i cn, .i (d.stay % 4)], 33, 1⟩)) 53 (.live ⟨[.one, .q eSec ss, .q eIL pa, .q ePnt pp, .q eIL rr, .one, .one, .one, .i cn, .one, .rp [.one, .q eSec ss, .q eIL pa, .q ePnt pp, .one, .one, .one, .one, .one, .one], .sl 54 0 1], 65, 1⟩)) 54 (.live ⟨[.pt 55 0], 69, 1⟩)) 55 (.live ⟨[.i kk, .i 1, .i (-1), .sl 56 0 ((List.replicate (pthR rr kk).length (1 : Int)).length)], 47, 1⟩)) 56 (.live ⟨(enc eU8 (List.replicate (pthR rr kk).length (1 : Int))), 5, 1⟩)) 57 (.live ⟨(enc eB (List.replicate ((pthR rr kk).length) (false : Bool))), 4, 1⟩)) ?_
 refine seqR ?_
 refine mG (.i (-1)) ?_
 refine op0 ?_
 refine awp_seq ?_
 refine seqR ?_
 refine mG (.i 0) ?_
 refine op0 ?_
 refine awp_block ?_
 refine awp_countA (fun i => ⟨(upd (upd (upd (upd (upd (upd (Z7b e) 8 (.i kk)) 9 (.pt 1 0)) 12 (.q eI (pthR rr kk))) 13 (.sl 5 0 ((pthR rr kk).length))) 14 (.i (lcC (⟨rr, pa, ss.length, kk, cn, e⟩ : Lz) i))) 15 (.i (i : Int))), (updO (updO (updO (updO (updO (updO noOb 1 (.live ⟨[.one, .q eSec ss, .q eIL pa, .q ePnt pp, .q eIL rr, .one, .one, .one, .i cn, .one, .rp [.one, .q eSec ss, .q eIL pa, .q ePnt pp, .one, .one, .one, .one, .one, .one], .sl 2 0 1], 65, 1⟩)) 2 (.live ⟨[.pt 3 0], 69, 1⟩)) 3 (.live ⟨[.i kk, .i 1, .i (lcE (⟨rr, pa, ss.length, kk, cn, e⟩ : Lz) i), .sl 4 0 ((lcP (⟨rr, pa, ss.length, kk, cn, e⟩ : Lz) i).length)], 47, 1⟩)) 4 (.live ⟨(enc eU8 (lcP (⟨rr, pa, ss.length, kk, cn, e⟩ : Lz) i)), 5, 1⟩)) 5 (.live ⟨(enc eB (lcU (⟨rr, pa, ss.length, kk, cn, e⟩ : Lz) i)), 4, 1⟩)) 6 (.live ⟨[.one, .q eSec ss, .q eIL pa, .q ePnt pp, .q eIL rr, .i (1 + d.speed % (2 * (10 * (1 + d.len % 20)))), .i (1 + d.mute % 1000), .i (1 + d.wait % 1000), .i cn, .i (d.stay % 4)], 33, 1⟩))⟩) (fun i => ⟨(upd (Z7g e) 15 (.i (i : Int))), (updO (updO noOb 1 (.live ⟨[.one, .q eSec ss, .q eIL pa, .q ePnt pp, .q eIL rr, .one, .one, .one, .i cn, .one, .rp [.one, .q eSec ss, .q eIL pa, .q ePnt pp, .one, .one, .one, .one, .one, .one], .sl 2 0 0], 65, 1⟩)) 2 (.live Z7c))⟩) (e.length) ?_ (fun i hk_i => ?_) (fun i hk_i => ?_)
 ·skip
  exact iL [(53, 1), (54, 2), (55, 3), (56, 4), (57, 5), (52, 6)] [((53, 1), .live _), ((54, 2), .live _), ((55, 3), .live _), ((56, 4), .live _), ((57, 5), .live _), ((52, 6), .live _)] ⟨row_map (o := ⟨[.one, .q eSec ss, .q eIL pa, .q ePnt pp, .q eIL rr, .one, .one, .one, .i cn, .one, .rp [.one, .q eSec ss, .q eIL pa, .q ePnt pp, .one, .one, .one, .one, .one, .one], .sl 54 0 1], 65, 1⟩) rfl (om_ (lm_cons (am_no (a := .one)) (lm_cons (am_no (a := .q eSec ss)) (lm_cons (am_no (a := .q eIL pa)) (lm_cons (am_no (a := .q ePnt pp)) (lm_cons (am_no (a := .q eIL rr)) (lm_cons (am_no (a := .one)) (lm_cons (am_no (a := .one)) (lm_cons (am_no (a := .one)) (lm_cons (am_no (a := .i cn)) (lm_cons (am_no (a := .one)) (lm_cons (am_no (a := .rp [.one, .q eSec ss, .q eIL pa, .q ePnt pp, .one, .one, .one, .one, .one, .one])) (lm_cons rfl lm_nil))))))))))))) (oks_cons (ok_no (a := .one)) (oks_cons (ok_no (a := .q eSec ss)) (oks_cons (ok_no (a := .q eIL pa)) (oks_cons (ok_no (a := .q ePnt pp)) (oks_cons (ok_no (a := .q eIL rr)) (oks_cons (ok_no (a := .one)) (oks_cons (ok_no (a := .one)) (oks_cons (ok_no (a := .one)) (oks_cons (ok_no (a := .i cn)) (oks_cons (ok_no (a := .one)) (oks_cons (ok_no (a := .rp [.one, .q eSec ss, .q eIL pa, .q ePnt pp, .one, .one, .one, .one, .one, .one])) (oks_cons (.sl _ _ _ (by simp)) oks_nil)))))))))))), row_map (o := ⟨[.pt 55 0], 69, 1⟩) rfl (om_ (lm_cons rfl lm_nil)) (oks_cons (.pt _ _ (by simp)) oks_nil), row_map (o := ⟨[.i kk, .i 1, .i (-1), .sl 56 0 ((List.replicate (pthR rr kk).length (1 : Int)).length)], 47, 1⟩) rfl (om_ (lm_cons (am_no (a := .i kk)) (lm_cons (am_no (a := .i 1)) (lm_cons (am_no (a := .i (-1))) (lm_cons rfl lm_nil))))) (oks_cons (ok_no (a := .i kk)) (oks_cons (ok_no (a := .i 1)) (oks_cons (ok_no (a := .i (-1))) (oks_cons (.sl _ _ _ (by simp)) oks_nil)))), row_no rfl rfl, row_no rfl rfl, row_no rfl rfl, trivial⟩ (he := (sS rfl (sS rfl (sM (by exact congrArg (AV.sl 5 0) List.length_replicate) (sS rfl (sM rfl (sS rfl (sM rfl (sS rfl sr_none)))))))))
 ·skip
  have hcr := lcC_r (L := (⟨rr, pa, ss.length, kk, cn, e⟩ : Lz)) i
  have hcr1 := lcC_r (L := (⟨rr, pa, ss.length, kk, cn, e⟩ : Lz)) (i + 1)
  have hpl1 : (lcP (⟨rr, pa, ss.length, kk, cn, e⟩ : Lz) i).length = (pthR rr kk).length := lcP_len i
  have hpl2 : (lcP (⟨rr, pa, ss.length, kk, cn, e⟩ : Lz) (i + 1)).length = (pthR rr kk).length := lcP_len (i + 1)
  have hul1 : (lcU (⟨rr, pa, ss.length, kk, cn, e⟩ : Lz) i).length = (pthR rr kk).length := lcU_len i
  refine awp_seq ?_
  refine seqR ?_
  refine mG (.i (i : Int)) ?_
  refine mG (.q eAc e) ?_
  refine oG (qN ut50 ?_)
  refine bG ((.bool (decide ((i : Int) < (e.length : Int))))) ?_
  refine rU (upd (upd (upd (upd (upd (upd (upd (Z7b e) 8 (.i kk)) 9 (.pt 1 0)) 12 (.q eI (pthR rr kk))) 13 (.sl 5 0 ((pthR rr kk).length))) 14 (.i (lcC (⟨rr, pa, ss.length, kk, cn, e⟩ : Lz) i))) 15 (.i (i : Int))) 76 (.b (decide ((i : Int) < (e.length : Int))))) (updO (updO (updO (updO (updO (updO noOb 1 (.live ⟨[.one, .q eSec ss, .q eIL pa, .q ePnt pp, .q eIL rr, .one, .one, .one, .i cn, .one, .rp [.one, .q eSec ss, .q eIL pa, .q ePnt pp, .one, .one, .one, .one, .one, .one], .sl 2 0 1], 65, 1⟩)) 2 (.live ⟨[.pt 3 0], 69, 1⟩)) 3 (.live ⟨[.i kk, .i 1, .i (lcE (⟨rr, pa, ss.length, kk, cn, e⟩ : Lz) i), .sl 4 0 ((lcP (⟨rr, pa, ss.length, kk, cn, e⟩ : Lz) i).length)], 47, 1⟩)) 4 (.live ⟨(enc eU8 (lcP (⟨rr, pa, ss.length, kk, cn, e⟩ : Lz) i)), 5, 1⟩)) 5 (.live ⟨(enc eB (lcU (⟨rr, pa, ss.length, kk, cn, e⟩ : Lz) i)), 4, 1⟩)) 6 (.live ⟨[.one, .q eSec ss, .q eIL pa, .q ePnt pp, .q eIL rr, .i (1 + d.speed % (2 * (10 * (1 + d.len % 20)))), .i (1 + d.mute % 1000), .i (1 + d.wait % 1000), .i cn, .i (d.stay % 4)], 33, 1⟩)) ?_
  refine awp_cond (decide ((i : Int) < (e.length : Int))) rfl rfl (fun hc3 => ?_) (fun hc3 => ?_)
  ·skip
   have hf9 := of_decide_eq_true hc3
   have hxi := g _ (getD_mem (l := e) (k := i) dAc om)
   have hxd := hxi.dw
   have hsl_ := stL_len (x := (e.getD i dAc)) (k := ss.length)
   have hol_ := owL_len (x := (e.getD i dAc)) (k := pa.length)
   refine awp_skip ?_
   refine awp_seq ?_
   refine awp_block ?_
   refine seqR ?_
   refine mG (.pt 1 0) ?_
   refine oG (callG_ true [] [58, 59] (r_LocksO kk 1 (lcE (⟨rr, pa, ss.length, kk, cn, e⟩ : Lz) i) (lcP (⟨rr, pa, ss.length, kk, cn, e⟩ : Lz) i) om) rfl rfl rfl rfl rfl bd12 (by decide) trivial ⟨(arg_lent (lend_pt rfl (lends_cons (lend_n (av := .one)) (lends_cons (.one _ rfl) (lends_cons (.one _ rfl) (lends_cons (.one _ rfl) (lends_cons (.one _ rfl) (lends_cons (lend_n (av := .one)) (lends_cons (lend_n (av := .one)) (lends_cons (lend_n (av := .one)) (lends_cons (.one _ rfl) (lends_cons (lend_n (av := .one)) (lends_cons (.one _ rfl) (lends_cons (lend_rowX (o := ⟨[.pt 3 0], 69, 1⟩) rfl (lends_cons (lend_pt rfl (lends_cons (lend_n (av := .i kk)) (lends_cons (lend_n (av := .i 1)) (lends_cons (lend_n (av := .i (lcE (⟨rr, pa, ss.length, kk, cn, e⟩ : Lz) i))) (lends_cons (lend_s (id := 4) (n := (lcP (⟨rr, pa, ss.length, kk, cn, e⟩ : Lz) i).length) (o := ⟨(enc eU8 (lcP (⟨rr, pa, ss.length, kk, cn, e⟩ : Lz) i)), 5, 1⟩) rfl (enc_len (fun _ => rfl) (by first | rfl | (simp; done)))) lends_nil))))) lends_nil) rfl) lends_nil)))))))))))))), trivial⟩ rfl ⟨rfl, rfl, trivial⟩ (fun _ => ⟨.sl _ _ _ trivial, ⟨(by intro c hc; simp at hc; rcases hc with rfl | rfl | rfl | rfl <;> constructor <;> trivial), ⟨(fun c hc => ((inferInstance : FlatL (enc eU8 (lcP (⟨rr, pa, ss.length, kk, cn, e⟩ : Lz) i))).out c hc).mono (fun _ h => h.elim) id), trivial⟩⟩⟩) rfl (place_cons (ost_map (lm_cons (am_no (a := .i kk)) (lm_cons (am_no (a := .i 1)) (lm_cons (am_no (a := .i (lcE (⟨rr, pa, ss.length, kk, cn, e⟩ : Lz) i))) (lm_cons rfl lm_nil))))) (place_cons (ost_no (cs := (enc eU8 (lcP (⟨rr, pa, ss.length, kk, cn, e⟩ : Lz) i)))) place_nil)) ?_)
   refine mG (.sl 58 0 1) ?_
   refine op0 ?_
   refine awp_seq ?_
   refine seqR ?_
   refine mG (.sl 58 0 1) ?_
   refine oG (aop_len rfl rfl rfl rfl ut44 (len_sl rfl) ?_)
   refine bG ((.bool ((1 : Int) == 0))) ?_
   refine rU (upd (upd (upd (upd (upd (upd (upd (upd (Z7b e) 8 (.i kk)) 9 (.pt 1 0)) 12 (.q eI (pthR rr kk))) 13 (.sl 5 0 ((pthR rr kk).length))) 14 (.i (lcC (⟨rr, pa, ss.length, kk, cn, e⟩ : Lz) i))) 15 (.i (i : Int))) 16 (.sl 58 0 1)) 83 (.b ((1 : Int) == 0))) (updO (updO (updO (updO (updO (updO (updO (updO noOb 1 (.live ⟨[.one, .q eSec ss, .q eIL pa, .q ePnt pp, .q eIL rr, .one, .one, .one, .i cn, .one, .rp [.one, .q eSec ss, .q eIL pa, .q ePnt pp, .one, .one, .one, .one, .one, .one], .sl 2 0 1], 65, 1⟩)) 2 (.live ⟨[.pt 3 0], 69, 1⟩)) 3 (.live ⟨[.i kk, .i 1, .i (lcE (⟨rr, pa, ss.length, kk, cn, e⟩ : Lz) i), .sl 4 0 ((lcP (⟨rr, pa, ss.length, kk, cn, e⟩ : Lz) i).length)], 47, 1⟩)) 4 (.live ⟨(enc eU8 (lcP (⟨rr, pa, ss.length, kk, cn, e⟩ : Lz) i)), 5, 1⟩)) 5 (.live ⟨(enc eB (lcU (⟨rr, pa, ss.length, kk, cn, e⟩ : Lz) i)), 4, 1⟩)) 6 (.live ⟨[.one, .q eSec ss, .q eIL pa, .q ePnt pp, .q eIL rr, .i (1 + d.speed % (2 * (10 * (1 + d.len % 20)))), .i (1 + d.mute % 1000), .i (1 + d.wait % 1000), .i cn, .i (d.stay % 4)], 33, 1⟩)) 58 (.live ⟨[.i kk, .i 1, .i (lcE (⟨rr, pa, ss.length, kk, cn, e⟩ : Lz) i), .sl 59 0 ((lcP (⟨rr, pa, ss.length, kk, cn, e⟩ : Lz) i).length)], 47, 4⟩)) 59 (.live ⟨(enc eU8 (lcP (⟨rr, pa, ss.length, kk, cn, e⟩ : Lz) i)), 5, 1⟩)) ?_
   refine awp_cond ((1 : Int) == 0) rfl rfl (fun hc4 => ?_) (fun hc4 => ?_)
   ·skip
    have hf10 := (beq_iff_eq).1 hc4
    refine seqR ?_
    refine mG (.b true) ?_
    refine op0 ?_
    refine awp_ret ?_
    exact fret (av := .v (.bool true)) rfl rfl rfl
   have hf11 := (beq_eq_false_iff_ne).1 hc4
   refine awp_skip ?_
   refine seqR ?_
   refine mG (.i (i : Int)) ?_
   refine oG (qB (.int .i64 (3 * (i : Int))) (mulI om) ?_)
   refine mG (.i (3 * (i : Int))) ?_
   refine op0 ?_
   refine awp_seq ?_
   refine seqR ?_
   refine mG (.q eAc e) ?_
   refine mG (.i (i : Int)) ?_
   refine oG (qX dAc ut50 sz53 ?_)
   refine oG (qF (.rp (([.v (.int .u8 ((e.getD i dAc).dw)), .v (.int .u8 ((e.getD i dAc).n)), .v (.int .u8 ((e.getD i dAc).tr)), .ro ((e.getD i dAc).sts.length) (enc eU8 ((e.getD i dAc).sts)), .ro ((e.getD i dAc).ow.length) (enc eU8 ((e.getD i dAc).ow)), .ro ((e.getD i dAc).rt.length) (enc eB ((e.getD i dAc).rt)), .ro ((e.getD i dAc).sp.length) (enc eU8 ((e.getD i dAc).sp)), .v (.int .u8 ((e.getD i dAc).tk))] : List AV) ++ ((enc eAc e).drop ((i + 1) * 8)))) (.rp (([.v (.int .u8 ((e.getD i dAc).dw)), .v (.int .u8 ((e.getD i dAc).n)), .v (.int .u8 ((e.getD i dAc).tr)), .ro ((e.getD i dAc).sts.length) (enc eU8 ((e.getD i dAc).sts)), .ro ((e.getD i dAc).ow.length) (enc eU8 ((e.getD i dAc).ow)), .ro ((e.getD i dAc).rt.length) (enc eB ((e.getD i dAc).rt)), .ro ((e.getD i dAc).sp.length) (enc eU8 ((e.getD i dAc).sp)), .v (.int .u8 ((e.getD i dAc).tk))] : List AV) ++ ((enc eAc e).drop ((i + 1) * 8)))) ft53_0 sz5 ?_)
   refine oG (qL (.v (.int .u8 ((e.getD i dAc).dw))) ag5 ?_)
   refine oG (aop_binI (u := (.int .u8 (((e.getD i dAc).dw) % 8))) rfl rfl rfl rfl rfl (by show _ ≠ _; decide) (remI om) ?_)
   refine bG ((.bool ((((e.getD i dAc).dw) % 8) == 0))) ?_
   refine mG (.b ((((e.getD i dAc).dw) % 8) == 0)) ?_
   refine aops_grp 3 96 (.b (((((e.getD i dAc).dw) % 8) == 0) && (decide ((lcC (⟨rr, pa, ss.length, kk, cn, e⟩ : Lz) i) < 0)))) ?_ ?_
   ·refine (Bool.eq_false_or_eq_true ((((e.getD i dAc).dw) % 8) == 0)).elim (fun hg12 => ?_) (fun hg12 => ?_)
    ·skip
     have hf13 := (beq_iff_eq).1 hg12
     refine oY hg12 (qM (.i (lcC (⟨rr, pa, ss.length, kk, cn, e⟩ : Lz) i)) ?_)
     refine oY hg12 (qB (.bool (decide ((lcC (⟨rr, pa, ss.length, kk, cn, e⟩ : Lz) i) < 0))) rfl ?_)
     refine oG (qP ((((e.getD i dAc).dw) % 8) == 0) (.b (decide ((lcC (⟨rr, pa, ss.length, kk, cn, e⟩ : Lz) i) < 0))) hg12 ?_)
     refine op0 ?_
     exact imp_env (lee_both 96 _ _ (by rw [hg12] <;> rfl) lO)
    have hf14 := (beq_eq_false_iff_ne).1 hg12
    refine nG hg12 ?_
    refine nG hg12 ?_
    refine oG (qP ((((e.getD i dAc).dw) % 8) == 0) (.b false) hg12 ?_)
    refine op0 ?_
    exact imp_env (lee_both 96 _ _ (by rw [hg12] <;> rfl) lO)
   refine op0 ?_
   refine rT (upd (upd (upd (upd (upd (upd (upd (upd (upd (Z7b e) 8 (.i kk)) 9 (.pt 1 0)) 12 (.q eI (pthR rr kk))) 13 (.sl 5 0 ((pthR rr kk).length))) 14 (.i (lcC (⟨rr, pa, ss.length, kk, cn, e⟩ : Lz) i))) 15 (.i (i : Int))) 16 (.sl 58 0 1)) 17 (.i (3 * (i : Int)))) 96 (.b (((((e.getD i dAc).dw) % 8) == 0) && (decide ((lcC (⟨rr, pa, ss.length, kk, cn, e⟩ : Lz) i) < 0))))) (updO (updO (updO (updO (updO (updO (updO (updO noOb 1 (.live ⟨[.one, .q eSec ss, .q eIL pa, .q ePnt pp, .q eIL rr, .one, .one, .one, .i cn, .one, .rp [.one, .q eSec ss, .q eIL pa, .q ePnt pp, .one, .one, .one, .one, .one, .one], .sl 2 0 1], 65, 1⟩)) 2 (.live ⟨[.pt 3 0], 69, 1⟩)) 3 (.live ⟨[.i kk, .i 1, .i (lcE (⟨rr, pa, ss.length, kk, cn, e⟩ : Lz) i), .sl 4 0 ((lcP (⟨rr, pa, ss.length, kk, cn, e⟩ : Lz) i).length)], 47, 1⟩)) 4 (.live ⟨(enc eU8 (lcP (⟨rr, pa, ss.length, kk, cn, e⟩ : Lz) i)), 5, 1⟩)) 5 (.live ⟨(enc eB (lcU (⟨rr, pa, ss.length, kk, cn, e⟩ : Lz) i)), 4, 1⟩)) 6 (.live ⟨[.one, .q eSec ss, .q eIL pa, .q ePnt pp, .q eIL rr, .i (1 + d.speed % (2 * (10 * (1 + d.len % 20)))), .i (1 + d.mute % 1000), .i (1 + d.wait % 1000), .i cn, .i (d.stay % 4)], 33, 1⟩)) 58 (.live ⟨[.i kk, .i 1, .i (lcE (⟨rr, pa, ss.length, kk, cn, e⟩ : Lz) i), .sl 59 0 ((lcP (⟨rr, pa, ss.length, kk, cn, e⟩ : Lz) i).length)], 47, 4⟩)) 59 (.live ⟨(enc eU8 (lcP (⟨rr, pa, ss.length, kk, cn, e⟩ : Lz) i)), 5, 1⟩)) ?_
   refine cutG ⟨(upd (upd (upd (upd (upd (upd (upd (upd (Z7b e) 8 (.i kk)) 9 (.pt 1 0)) 12 (.q eI (pthR rr kk))) 13 (.sl 5 0 ((pthR rr kk).length))) 14 (.i (lcC (⟨rr, pa, ss.length, kk, cn, e⟩ : Lz) (i + 1)))) 15 (.i (i : Int))) 16 (.sl 7 0 1)) 17 (.i (3 * (i : Int)))), (updO (updO (updO (updO (updO (updO (updO (updO noOb 1 (.live ⟨[.one, .q eSec ss, .q eIL pa, .q ePnt pp, .q eIL rr, .one, .one, .one, .i cn, .one, .rp [.one, .q eSec ss, .q eIL pa, .q ePnt pp, .one, .one, .one, .one, .one, .one], .sl 2 0 1], 65, 1⟩)) 2 (.live ⟨[.pt 3 0], 69, 1⟩)) 3 (.live ⟨[.i kk, .i 1, .i (lcE (⟨rr, pa, ss.length, kk, cn, e⟩ : Lz) (i + 1)), .sl 4 0 ((lcP (⟨rr, pa, ss.length, kk, cn, e⟩ : Lz) i).length)], 47, 1⟩)) 4 (.live ⟨(enc eU8 (lcP (⟨rr, pa, ss.length, kk, cn, e⟩ : Lz) i)), 5, 1⟩)) 5 (.live ⟨(enc eB (lcU (⟨rr, pa, ss.length, kk, cn, e⟩ : Lz) i)), 4, 1⟩)) 6 (.live ⟨[.one, .q eSec ss, .q eIL pa, .q ePnt pp, .q eIL rr, .i (1 + d.speed % (2 * (10 * (1 + d.len % 20)))), .i (1 + d.mute % 1000), .i (1 + d.wait % 1000), .i cn, .i (d.stay % 4)], 33, 1⟩)) 7 (.live ⟨[.i kk, .i 1, .i (lcE (⟨rr, pa, ss.length, kk, cn, e⟩ : Lz) i), .sl 8 0 ((lcP (⟨rr, pa, ss.length, kk, cn, e⟩ : Lz) i).length)], 47, 4⟩)) 8 (.live ⟨(enc eU8 (lcP (⟨rr, pa, ss.length, kk, cn, e⟩ : Lz) i)), 5, 1⟩))⟩ (fun s h => h) ?_ ?_
   ·skip
    refine awp_cond (((((e.getD i dAc).dw) % 8) == 0) && (decide ((lcC (⟨rr, pa, ss.length, kk, cn, e⟩ : Lz) i) < 0))) rfl rfl (fun hc5 => ?_) (fun hc5 => ?_)
    ·skip
     obtain ⟨hf15a, hf15b⟩ := and_t hc5
     have hf16 := (beq_iff_eq).1 hf15a
     have hf17 := of_decide_eq_true hf15b
     refine awp_seq ?_
     refine seqR ?_
     refine mG (.pt 1 0) ?_
     refine mG (.i kk) ?_
     refine mG (.i (3 * (i : Int))) ?_
     refine oG (callG_ false [1, 2, 3, 4] [] (r_CanO ss pa pp rr cn kk 1 (lcE (⟨rr, pa, ss.length, kk, cn, e⟩ : Lz) i) (lcP (⟨rr, pa, ss.length, kk, cn, e⟩ : Lz) i) (3 * (i : Int)) om hk0 om hcn) rfl rfl rfl rfl rfl bd15 (by decide) ⟨giv_map (o := ⟨[.one, .q eSec ss, .q eIL pa, .q ePnt pp, .q eIL rr, .one, .one, .one, .i cn, .one, .rp [.one, .q eSec ss, .q eIL pa, .q ePnt pp, .one, .one, .one, .one, .one, .one], .sl 2 0 1], 65, 1⟩) rfl (om_ (lm_cons (am_no (a := .one)) (lm_cons (am_no (a := .q eSec ss)) (lm_cons (am_no (a := .q eIL pa)) (lm_cons (am_no (a := .q ePnt pp)) (lm_cons (am_no (a := .q eIL rr)) (lm_cons (am_no (a := .one)) (lm_cons (am_no (a := .one)) (lm_cons (am_no (a := .one)) (lm_cons (am_no (a := .i cn)) (lm_cons (am_no (a := .one)) (lm_cons (am_no (a := .rp [.one, .q eSec ss, .q eIL pa, .q ePnt pp, .one, .one, .one, .one, .one, .one])) (lm_cons rfl lm_nil))))))))))))) (oks_cons (ok_no (a := .one)) (oks_cons (ok_no (a := .q eSec ss)) (oks_cons (ok_no (a := .q eIL pa)) (oks_cons (ok_no (a := .q ePnt pp)) (oks_cons (ok_no (a := .q eIL rr)) (oks_cons (ok_no (a := .one)) (oks_cons (ok_no (a := .one)) (oks_cons (ok_no (a := .one)) (oks_cons (ok_no (a := .i cn)) (oks_cons (ok_no (a := .one)) (oks_cons (ok_no (a := .rp [.one, .q eSec ss, .q eIL pa, .q ePnt pp, .one, .one, .one, .one, .one, .one])) (oks_cons (.sl _ _ _ (by simp)) oks_nil)))))))))))), giv_map (o := ⟨[.pt 3 0], 69, 1⟩) rfl (om_ (lm_cons rfl lm_nil)) (oks_cons (.pt _ _ (by simp)) oks_nil), giv_map (o := ⟨[.i kk, .i 1, .i (lcE (⟨rr, pa, ss.length, kk, cn, e⟩ : Lz) i), .sl 4 0 ((lcP (⟨rr, pa, ss.length, kk, cn, e⟩ : Lz) i).length)], 47, 1⟩) rfl (om_ (lm_cons (am_no (a := .i kk)) (lm_cons (am_no (a := .i 1)) (lm_cons (am_no (a := .i (lcE (⟨rr, pa, ss.length, kk, cn, e⟩ : Lz) i))) (lm_cons rfl lm_nil))))) (oks_cons (ok_no (a := .i kk)) (oks_cons (ok_no (a := .i 1)) (oks_cons (ok_no (a := .i (lcE (⟨rr, pa, ss.length, kk, cn, e⟩ : Lz) i))) (oks_cons (.sl _ _ _ (by simp)) oks_nil)))), giv_no (o := ⟨(enc eU8 (lcP (⟨rr, pa, ss.length, kk, cn, e⟩ : Lz) i)), 5, 1⟩) rfl rfl, trivial⟩ ⟨(arg_own (.pt _ _ (by simp)) rfl), (arg_no (a := .i kk)), (arg_no (a := .i (3 * (i : Int)))), trivial⟩ rfl trivial (fun h => by cases h) (am_no (a := .i 0)) (place_cons (ost_map (lm_cons (am_no (a := .one)) (lm_cons (am_no (a := .q eSec ss)) (lm_cons (am_no (a := .q eIL pa)) (lm_cons (am_no (a := .q ePnt pp)) (lm_cons (am_no (a := .q eIL rr)) (lm_cons (am_no (a := .one)) (lm_cons (am_no (a := .one)) (lm_cons (am_no (a := .one)) (lm_cons (am_no (a := .i cn)) (lm_cons (am_no (a := .one)) (lm_cons (am_no (a := .rp [.one, .q eSec ss, .q eIL pa, .q ePnt pp, .one, .one, .one, .one, .one, .one])) (lm_cons rfl lm_nil))))))))))))) (place_cons (ost_map (lm_cons rfl lm_nil)) (place_cons (ost_map (lm_cons (am_no (a := .i kk)) (lm_cons (am_no (a := .i 1)) (lm_cons (am_no (a := .i (if (lcE (⟨rr, pa, ss.length, kk, cn, e⟩ : Lz) i) < 0 then (3 * (i : Int)) + cn else (lcE (⟨rr, pa, ss.length, kk, cn, e⟩ : Lz) i)))) (lm_cons rfl lm_nil))))) (place_cons (ost_no (cs := (enc eU8 (lcP (⟨rr, pa, ss.length, kk, cn, e⟩ : Lz) i)))) place_nil)))) ?_)
     refine bG ((.bool false)) ?_
     refine rU (upd (upd (upd (upd (upd (upd (upd (upd (upd (Z7b e) 8 (.i kk)) 9 (.pt 1 0)) 12 (.q eI (pthR rr kk))) 13 (.sl 5 0 ((pthR rr kk).length))) 14 (.i (lcC (⟨rr, pa, ss.length, kk, cn, e⟩ : Lz) i))) 15 (.i (i : Int))) 16 (.sl 58 0 1)) 17 (.i (3 * (i : Int)))) 101 (.b false)) (updO (updO (updO (updO (updO (updO (updO (updO (updO (updO (updO (updO noOb 1 (.live ⟨[.one, .q eSec ss, .q eIL pa, .q ePnt pp, .q eIL rr, .one, .one, .one, .i cn, .one, .rp [.one, .q eSec ss, .q eIL pa, .q ePnt pp, .one, .one, .one, .one, .one, .one], .sl 2 0 1], 65, 1⟩)) 2 (.live ⟨[.pt 3 0], 69, 1⟩)) 3 (.live ⟨[.i kk, .i 1, .i (lcE (⟨rr, pa, ss.length, kk, cn, e⟩ : Lz) i), .sl 4 0 ((lcP (⟨rr, pa, ss.length, kk, cn, e⟩ : Lz) i).length)], 47, 1⟩)) 4 (.live ⟨(enc eU8 (lcP (⟨rr, pa, ss.length, kk, cn, e⟩ : Lz) i)), 5, 1⟩)) 5 (.live ⟨(enc eB (lcU (⟨rr, pa, ss.length, kk, cn, e⟩ : Lz) i)), 4, 1⟩)) 6 (.live ⟨[.one, .q eSec ss, .q eIL pa, .q ePnt pp, .q eIL rr, .i (1 + d.speed % (2 * (10 * (1 + d.len % 20)))), .i (1 + d.mute % 1000), .i (1 + d.wait % 1000), .i cn, .i (d.stay % 4)], 33, 1⟩)) 58 (.live ⟨[.i kk, .i 1, .i (lcE (⟨rr, pa, ss.length, kk, cn, e⟩ : Lz) i), .sl 59 0 ((lcP (⟨rr, pa, ss.length, kk, cn, e⟩ : Lz) i).length)], 47, 4⟩)) 59 (.live ⟨(enc eU8 (lcP (⟨rr, pa, ss.length, kk, cn, e⟩ : Lz) i)), 5, 1⟩)) 1 (.live ⟨[.one, .q eSec ss, .q eIL pa, .q ePnt pp, .q eIL rr, .one, .one, .one, .i cn, .one, .rp [.one, .q eSec ss, .q eIL pa, .q ePnt pp, .one, .one, .one, .one, .one, .one], .sl 2 0 1], 65, 1⟩)) 2 (.live ⟨[.pt 3 0], 69, 1⟩)) 3 (.live ⟨[.i kk, .i 1, .i (if (lcE (⟨rr, pa, ss.length, kk, cn, e⟩ : Lz) i) < 0 then (3 * (i : Int)) + cn else (lcE (⟨rr, pa, ss.length, kk, cn, e⟩ : Lz) i)), .sl 4 0 ((lcP (⟨rr, pa, ss.length, kk, cn, e⟩ : Lz) i).length)], 47, 1⟩)) 4 (.live ⟨(enc eU8 (lcP (⟨rr, pa, ss.length, kk, cn, e⟩ : Lz) i)), 5, 1⟩)) ?_
     refine awp_cond false rfl rfl (fun h => by cases h) (fun _ => ?_)
     refine awp_skip ?_
     refine regR ?_
     refine mG (.i (3 * (i : Int))) ?_
     refine mG (.i (3 * (i : Int))) ?_
     refine op0 ?_
     show Imp _ _ _
     exact iL [(1, 1), (2, 2), (3, 3), (4, 4), (5, 5), (6, 6), (58, 7), (59, 8)] [((1, 1), .live _), ((2, 2), .live _), ((3, 3), .live _), ((4, 4), .live _), ((5, 5), .live _), ((6, 6), .live _), ((58, 7), .live _), ((59, 8), .live _)] ⟨row_map (o := ⟨[.one, .q eSec ss, .q eIL pa, .q ePnt pp, .q eIL rr, .one, .one, .one, .i cn, .one, .rp [.one, .q eSec ss, .q eIL pa, .q ePnt pp, .one, .one, .one, .one, .one, .one], .sl 2 0 1], 65, 1⟩) rfl (om_ (lm_cons (am_no (a := .one)) (lm_cons (am_no (a := .q eSec ss)) (lm_cons (am_no (a := .q eIL pa)) (lm_cons (am_no (a := .q ePnt pp)) (lm_cons (am_no (a := .q eIL rr)) (lm_cons (am_no (a := .one)) (lm_cons (am_no (a := .one)) (lm_cons (am_no (a := .one)) (lm_cons (am_no (a := .i cn)) (lm_cons (am_no (a := .one)) (lm_cons (am_no (a := .rp [.one, .q eSec ss, .q eIL pa, .q ePnt pp, .one, .one, .one, .one, .one, .one])) (lm_cons rfl lm_nil))))))))))))) (oks_cons (ok_no (a := .one)) (oks_cons (ok_no (a := .q eSec ss)) (oks_cons (ok_no (a := .q eIL pa)) (oks_cons (ok_no (a := .q ePnt pp)) (oks_cons (ok_no (a := .q eIL rr)) (oks_cons (ok_no (a := .one)) (oks_cons (ok_no (a := .one)) (oks_cons (ok_no (a := .one)) (oks_cons (ok_no (a := .i cn)) (oks_cons (ok_no (a := .one)) (oks_cons (ok_no (a := .rp [.one, .q eSec ss, .q eIL pa, .q ePnt pp, .one, .one, .one, .one, .one, .one])) (oks_cons (.sl _ _ _ (by simp)) oks_nil)))))))))))), row_map (o := ⟨[.pt 3 0], 69, 1⟩) rfl (om_ (lm_cons rfl lm_nil)) (oks_cons (.pt _ _ (by simp)) oks_nil), row_map (o := ⟨[.i kk, .i 1, .i (if (lcE (⟨rr, pa, ss.length, kk, cn, e⟩ : Lz) i) < 0 then (3 * (i : Int)) + cn else (lcE (⟨rr, pa, ss.length, kk, cn, e⟩ : Lz) i)), .sl 4 0 ((lcP (⟨rr, pa, ss.length, kk, cn, e⟩ : Lz) i).length)], 47, 1⟩) rfl (congrArg (fun e_ : Int => LObj.mk [.i kk, .i 1, .i e_, .sl 4 0 (lcP (⟨rr, pa, ss.length, kk, cn, e⟩ : Lz) i).length] 47 1) (by first | exact lcE_t hc5 | exact lcE_f hc5)) (oks_cons (ok_no (a := .i kk)) (oks_cons (ok_no (a := .i 1)) (oks_cons (ok_no (a := .i (if (lcE (⟨rr, pa, ss.length, kk, cn, e⟩ : Lz) i) < 0 then (3 * (i : Int)) + cn else (lcE (⟨rr, pa, ss.length, kk, cn, e⟩ : Lz) i)))) (oks_cons (.sl _ _ _ (by simp)) oks_nil)))), row_no rfl rfl, row_no rfl rfl, row_no rfl rfl, row_map (o := ⟨[.i kk, .i 1, .i (lcE (⟨rr, pa, ss.length, kk, cn, e⟩ : Lz) i), .sl 59 0 ((lcP (⟨rr, pa, ss.length, kk, cn, e⟩ : Lz) i).length)], 47, 4⟩) rfl (om_ (lm_cons (am_no (a := .i kk)) (lm_cons (am_no (a := .i 1)) (lm_cons (am_no (a := .i (lcE (⟨rr, pa, ss.length, kk, cn, e⟩ : Lz) i))) (lm_cons rfl lm_nil))))) (oks_cons (ok_no (a := .i kk)) (oks_cons (ok_no (a := .i 1)) (oks_cons (ok_no (a := .i (lcE (⟨rr, pa, ss.length, kk, cn, e⟩ : Lz) i))) (oks_cons (.sl _ _ _ (by simp)) oks_nil)))), row_no rfl rfl, trivial⟩ (he := (sS rfl (sM rfl (sS rfl (sS (by exact congrArg (fun n_ : Int => AV.v (.int .i64 n_)) (by first | exact lcC_t hc5 | exact lcC_f hc5)) (sM rfl (sS rfl (sM rfl (sS rfl (sM rfl (sS rfl sr_none)))))))))))
    refine awp_skip ?_
    show Imp _ _ _
    exact iL [(1, 1), (2, 2), (3, 3), (4, 4), (5, 5), (6, 6), (58, 7), (59, 8)] [((1, 1), .live _), ((2, 2), .live _), ((3, 3), .live _), ((4, 4), .live _), ((5, 5), .live _), ((6, 6), .live _), ((58, 7), .live _), ((59, 8), .live _)] ⟨row_map (o := ⟨[.one, .q eSec ss, .q eIL pa, .q ePnt pp, .q eIL rr, .one, .one, .one, .i cn, .one, .rp [.one, .q eSec ss, .q eIL pa, .q ePnt pp, .one, .one, .one, .one, .one, .one], .sl 2 0 1], 65, 1⟩) rfl (om_ (lm_cons (am_no (a := .one)) (lm_cons (am_no (a := .q eSec ss)) (lm_cons (am_no (a := .q eIL pa)) (lm_cons (am_no (a := .q ePnt pp)) (lm_cons (am_no (a := .q eIL rr)) (lm_cons (am_no (a := .one)) (lm_cons (am_no (a := .one)) (lm_cons (am_no (a := .one)) (lm_cons (am_no (a := .i cn)) (lm_cons (am_no (a := .one)) (lm_cons (am_no (a := .rp [.one, .q eSec ss, .q eIL pa, .q ePnt pp, .one, .one, .one, .one, .one, .one])) (lm_cons rfl lm_nil))))))))))))) (oks_cons (ok_no (a := .one)) (oks_cons (ok_no (a := .q eSec ss)) (oks_cons (ok_no (a := .q eIL pa)) (oks_cons (ok_no (a := .q ePnt pp)) (oks_cons (ok_no (a := .q eIL rr)) (oks_cons (ok_no (a := .one)) (oks_cons (ok_no (a := .one)) (oks_cons (ok_no (a := .one)) (oks_cons (ok_no (a := .i cn)) (oks_cons (ok_no (a := .one)) (oks_cons (ok_no (a := .rp [.one, .q eSec ss, .q eIL pa, .q ePnt pp, .one, .one, .one, .one, .one, .one])) (oks_cons (.sl _ _ _ (by simp)) oks_nil)))))))))))), row_map (o := ⟨[.pt 3 0], 69, 1⟩) rfl (om_ (lm_cons rfl lm_nil)) (oks_cons (.pt _ _ (by simp)) oks_nil), row_map (o := ⟨[.i kk, .i 1, .i (lcE (⟨rr, pa, ss.length, kk, cn, e⟩ : Lz) i), .sl 4 0 ((lcP (⟨rr, pa, ss.length, kk, cn, e⟩ : Lz) i).length)], 47, 1⟩) rfl (congrArg (fun e_ : Int => LObj.mk [.i kk, .i 1, .i e_, .sl 4 0 (lcP (⟨rr, pa, ss.length, kk, cn, e⟩ : Lz) i).length] 47 1) (by first | exact lcE_t hc5 | exact lcE_f hc5)) (oks_cons (ok_no (a := .i kk)) (oks_cons (ok_no (a := .i 1)) (oks_cons (ok_no (a := .i (lcE (⟨rr, pa, ss.length, kk, cn, e⟩ : Lz) i))) (oks_cons (.sl _ _ _ (by simp)) oks_nil)))), row_no rfl rfl, row_no rfl rfl, row_no rfl rfl, row_map (o := ⟨[.i kk, .i 1, .i (lcE (⟨rr, pa, ss.length, kk, cn, e⟩ : Lz) i), .sl 59 0 ((lcP (⟨rr, pa, ss.length, kk, cn, e⟩ : Lz) i).length)], 47, 4⟩) rfl (om_ (lm_cons (am_no (a := .i kk)) (lm_cons (am_no (a := .i 1)) (lm_cons (am_no (a := .i (lcE (⟨rr, pa, ss.length, kk, cn, e⟩ : Lz) i))) (lm_cons rfl lm_nil))))) (oks_cons (ok_no (a := .i kk)) (oks_cons (ok_no (a := .i 1)) (oks_cons (ok_no (a := .i (lcE (⟨rr, pa, ss.length, kk, cn, e⟩ : Lz) i))) (oks_cons (.sl _ _ _ (by simp)) oks_nil)))), row_no rfl rfl, trivial⟩ (he := (sS rfl (sM rfl (sS rfl (sS (by exact congrArg (fun n_ : Int => AV.v (.int .i64 n_)) (by first | exact lcC_t hc5 | exact lcC_f hc5)) (sM rfl (sS rfl (sM rfl (sS rfl (sM rfl (sS rfl sr_none)))))))))))
   refine awp_seq ?_
   refine aD 12 [(114, .q eI (owL (e.getD i dAc) pa.length)), (113, .agg [.v (.int .u8 ((e.getD i dAc).dw)), .v (.int .u8 ((e.getD i dAc).n)), .v (.int .u8 ((e.getD i dAc).tr)), .ro ((e.getD i dAc).sts.length) (enc eU8 ((e.getD i dAc).sts)), .ro ((e.getD i dAc).ow.length) (enc eU8 ((e.getD i dAc).ow)), .ro ((e.getD i dAc).rt.length) (enc eB ((e.getD i dAc).rt)), .ro ((e.getD i dAc).sp.length) (enc eU8 ((e.getD i dAc).sp)), .v (.int .u8 ((e.getD i dAc).tk))]), (112, .rp (([.v (.int .u8 ((e.getD i dAc).dw)), .v (.int .u8 ((e.getD i dAc).n)), .v (.int .u8 ((e.getD i dAc).tr)), .ro ((e.getD i dAc).sts.length) (enc eU8 ((e.getD i dAc).sts)), .ro ((e.getD i dAc).ow.length) (enc eU8 ((e.getD i dAc).ow)), .ro ((e.getD i dAc).rt.length) (enc eB ((e.getD i dAc).rt)), .ro ((e.getD i dAc).sp.length) (enc eU8 ((e.getD i dAc).sp)), .v (.int .u8 ((e.getD i dAc).tk))] : List AV) ++ ((enc eAc e).drop ((i + 1) * 8)))), (111, .i (i : Int)), (110, .q eAc e), (109, .agg [.one, .q eSec ss, .q eIL pa, .q ePnt pp, .q eIL rr, .i (1 + d.speed % (2 * (10 * (1 + d.len % 20)))), .i (1 + d.mute % 1000), .i (1 + d.wait % 1000), .i cn, .i (d.stay % 4)]), (108, .q eU8 (stL (e.getD i dAc) ss.length)), (107, .agg [.v (.int .u8 ((e.getD i dAc).dw)), .v (.int .u8 ((e.getD i dAc).n)), .v (.int .u8 ((e.getD i dAc).tr)), .ro ((e.getD i dAc).sts.length) (enc eU8 ((e.getD i dAc).sts)), .ro ((e.getD i dAc).ow.length) (enc eU8 ((e.getD i dAc).ow)), .ro ((e.getD i dAc).rt.length) (enc eB ((e.getD i dAc).rt)), .ro ((e.getD i dAc).sp.length) (enc eU8 ((e.getD i dAc).sp)), .v (.int .u8 ((e.getD i dAc).tk))]), (106, .rp (([.v (.int .u8 ((e.getD i dAc).dw)), .v (.int .u8 ((e.getD i dAc).n)), .v (.int .u8 ((e.getD i dAc).tr)), .ro ((e.getD i dAc).sts.length) (enc eU8 ((e.getD i dAc).sts)), .ro ((e.getD i dAc).ow.length) (enc eU8 ((e.getD i dAc).ow)), .ro ((e.getD i dAc).rt.length) (enc eB ((e.getD i dAc).rt)), .ro ((e.getD i dAc).sp.length) (enc eU8 ((e.getD i dAc).sp)), .v (.int .u8 ((e.getD i dAc).tk))] : List AV) ++ ((enc eAc e).drop ((i + 1) * 8)))), (105, .i (i : Int)), (104, .q eAc e), (103, .agg [.one, .q eSec ss, .q eIL pa, .q ePnt pp, .q eIL rr, .i (1 + d.speed % (2 * (10 * (1 + d.len % 20)))), .i (1 + d.mute % 1000), .i (1 + d.wait % 1000), .i cn, .i (d.stay % 4)])] mixed ?_ ?_
   ·refine ⟨?_, ?_, ?_, ?_, ?_, ?_, ?_, ?_, ?_, ?_, ?_, ?_, trivial⟩
    ·exact sLB [.one, .q eSec ss, .q eIL pa, .q ePnt pp, .q eIL rr, .i (1 + d.speed % (2 * (10 * (1 + d.len % 20)))), .i (1 + d.mute % 1000), .i (1 + d.wait % 1000), .i cn, .i (d.stay % 4)] ag33 sz33
    ·exact sMv
    ·exact sMv
    ·exact (sIx dAc ut50 sz53)
    ·exact dW 107 fun st hob hE => aop_ldB (cells' := [.v (.int .u8 ((e.getD i dAc).dw)), .v (.int .u8 ((e.getD i dAc).n)), .v (.int .u8 ((e.getD i dAc).tr)), .ro ((e.getD i dAc).sts.length) (enc eU8 ((e.getD i dAc).sts)), .ro ((e.getD i dAc).ow.length) (enc eU8 ((e.getD i dAc).ow)), .ro ((e.getD i dAc).rt.length) (enc eB ((e.getD i dAc).rt)), .ro ((e.getD i dAc).sp.length) (enc eU8 ((e.getD i dAc).sp)), .v (.int .u8 ((e.getD i dAc).tk))]) rfl rfl rfl ag53 sz53 (hE 106 rfl) rfl rfl rfl (by rw [hob]; rfl)
    ·exact sC (l15_states ss (e.getD i dAc) om hxi) bd16
    ·exact sLB [.one, .q eSec ss, .q eIL pa, .q ePnt pp, .q eIL rr, .i (1 + d.speed % (2 * (10 * (1 + d.len % 20)))), .i (1 + d.mute % 1000), .i (1 + d.wait % 1000), .i cn, .i (d.stay % 4)] ag33 sz33
    ·exact sMv
    ·exact sMv
    ·exact (sIx dAc ut50 sz53)
    ·exact dW 113 fun st hob hE => aop_ldB (cells' := [.v (.int .u8 ((e.getD i dAc).dw)), .v (.int .u8 ((e.getD i dAc).n)), .v (.int .u8 ((e.getD i dAc).tr)), .ro ((e.getD i dAc).sts.length) (enc eU8 ((e.getD i dAc).sts)), .ro ((e.getD i dAc).ow.length) (enc eU8 ((e.getD i dAc).ow)), .ro ((e.getD i dAc).rt.length) (enc eB ((e.getD i dAc).rt)), .ro ((e.getD i dAc).sp.length) (enc eU8 ((e.getD i dAc).sp)), .v (.int .u8 ((e.getD i dAc).tk))]) rfl rfl rfl ag53 sz53 (hE 112 rfl) rfl rfl rfl (by rw [hob]; rfl)
    exact sC (l15_owners pa (e.getD i dAc) om hxi) bd17
   refine mG (.q eU8 (stL (e.getD i dAc) ss.length)) ?_
   refine mG (.q eI (owL (e.getD i dAc) pa.length)) ?_
   refine op0 ?_
   refine (Bool.eq_false_or_eq_true ((lcP (⟨rr, pa, ss.length, kk, cn, e⟩ : Lz) (i + 1)).any fun b => b != 0)).elim (fun hany => ?_) (fun hany => ?_)
   ·skip
    refine seqR ?_
    refine mG (.pt 1 0) ?_
    refine mG (.i (3 * (i : Int))) ?_
    refine mG (.q eU8 (stL (e.getD i dAc) ss.length)) ?_
    refine mG (.q eI (owL (e.getD i dAc) pa.length)) ?_
    refine oG (callG_ false [1, 2, 3, 4] [] (r_StepOq ss pa pp rr cn kk 1 (lcE (⟨rr, pa, ss.length, kk, cn, e⟩ : Lz) (i + 1)) (lcP (⟨rr, pa, ss.length, kk, cn, e⟩ : Lz) i) (3 * (i : Int)) (stL (e.getD i dAc) ss.length) (owL (e.getD i dAc) pa.length) (lcP (⟨rr, pa, ss.length, kk, cn, e⟩ : Lz) (i + 1)) om hkr om om om hq6 (by rw [stL_len]; omega) (by rw [owL_len]; omega) (by rw [stL_len]; exact hk3) (by rw [stL_len, owL_len]; exact hq7) rfl hany) rfl rfl rfl rfl rfl bd11 (by decide) ⟨giv_map (o := ⟨[.one, .q eSec ss, .q eIL pa, .q ePnt pp, .q eIL rr, .one, .one, .one, .i cn, .one, .rp [.one, .q eSec ss, .q eIL pa, .q ePnt pp, .one, .one, .one, .one, .one, .one], .sl 2 0 1], 65, 1⟩) rfl (om_ (lm_cons (am_no (a := .one)) (lm_cons (am_no (a := .q eSec ss)) (lm_cons (am_no (a := .q eIL pa)) (lm_cons (am_no (a := .q ePnt pp)) (lm_cons (am_no (a := .q eIL rr)) (lm_cons (am_no (a := .one)) (lm_cons (am_no (a := .one)) (lm_cons (am_no (a := .one)) (lm_cons (am_no (a := .i cn)) (lm_cons (am_no (a := .one)) (lm_cons (am_no (a := .rp [.one, .q eSec ss, .q eIL pa, .q ePnt pp, .one, .one, .one, .one, .one, .one])) (lm_cons rfl lm_nil))))))))))))) (oks_cons (ok_no (a := .one)) (oks_cons (ok_no (a := .q eSec ss)) (oks_cons (ok_no (a := .q eIL pa)) (oks_cons (ok_no (a := .q ePnt pp)) (oks_cons (ok_no (a := .q eIL rr)) (oks_cons (ok_no (a := .one)) (oks_cons (ok_no (a := .one)) (oks_cons (ok_no (a := .one)) (oks_cons (ok_no (a := .i cn)) (oks_cons (ok_no (a := .one)) (oks_cons (ok_no (a := .rp [.one, .q eSec ss, .q eIL pa, .q ePnt pp, .one, .one, .one, .one, .one, .one])) (oks_cons (.sl _ _ _ (by simp)) oks_nil)))))))))))), giv_map (o := ⟨[.pt 3 0], 69, 1⟩) rfl (om_ (lm_cons rfl lm_nil)) (oks_cons (.pt _ _ (by simp)) oks_nil), giv_map (o := ⟨[.i kk, .i 1, .i (lcE (⟨rr, pa, ss.length, kk, cn, e⟩ : Lz) (i + 1)), .sl 4 0 ((lcP (⟨rr, pa, ss.length, kk, cn, e⟩ : Lz) i).length)], 47, 1⟩) rfl (om_ (lm_cons (am_no (a := .i kk)) (lm_cons (am_no (a := .i 1)) (lm_cons (am_no (a := .i (lcE (⟨rr, pa, ss.length, kk, cn, e⟩ : Lz) (i + 1)))) (lm_cons rfl lm_nil))))) (oks_cons (ok_no (a := .i kk)) (oks_cons (ok_no (a := .i 1)) (oks_cons (ok_no (a := .i (lcE (⟨rr, pa, ss.length, kk, cn, e⟩ : Lz) (i + 1)))) (oks_cons (.sl _ _ _ (by simp)) oks_nil)))), giv_no (o := ⟨(enc eU8 (lcP (⟨rr, pa, ss.length, kk, cn, e⟩ : Lz) i)), 5, 1⟩) rfl rfl, trivial⟩ ⟨(arg_own (.pt _ _ (by simp)) rfl), (arg_no (a := .i (3 * (i : Int)))), (arg_no (a := .q eU8 (stL (e.getD i dAc) ss.length))), (arg_no (a := .q eI (owL (e.getD i dAc) pa.length))), trivial⟩ rfl trivial (fun h => by cases h) (am_no (a := .tup [])) (place_cons (ost_map (lm_cons (am_no (a := .one)) (lm_cons (am_no (a := .q eSec ss)) (lm_cons (am_no (a := .q eIL pa)) (lm_cons (am_no (a := .q ePnt pp)) (lm_cons (am_no (a := .q eIL rr)) (lm_cons (am_no (a := .one)) (lm_cons (am_no (a := .one)) (lm_cons (am_no (a := .one)) (lm_cons (am_no (a := .i cn)) (lm_cons (am_no (a := .one)) (lm_cons (am_no (a := .rp [.one, .q eSec ss, .q eIL pa, .q ePnt pp, .one, .one, .one, .one, .one, .one])) (lm_cons rfl lm_nil))))))))))))) (place_cons (ost_map (lm_cons rfl lm_nil)) (place_cons (ost_map (lm_cons (am_no (a := .i kk)) (lm_cons (am_no (a := .i 1)) (lm_cons (am_no (a := .i (lcE (⟨rr, pa, ss.length, kk, cn, e⟩ : Lz) (i + 1)))) (lm_cons rfl lm_nil))))) (place_cons (ost_no (cs := (enc eU8 (lcP (⟨rr, pa, ss.length, kk, cn, e⟩ : Lz) (i + 1))))) place_nil)))) ?_)
    refine rU (upd (upd (upd (upd (upd (upd (upd (upd (upd (upd (Z7b e) 8 (.i kk)) 9 (.pt 1 0)) 12 (.q eI (pthR rr kk))) 13 (.sl 5 0 ((pthR rr kk).length))) 14 (.i (lcC (⟨rr, pa, ss.length, kk, cn, e⟩ : Lz) (i + 1)))) 15 (.i (i : Int))) 16 (.sl 7 0 1)) 17 (.i (3 * (i : Int)))) 18 (.q eU8 (stL (e.getD i dAc) ss.length))) 19 (.q eI (owL (e.getD i dAc) pa.length))) (updO (updO (updO (updO (updO (updO (updO (updO (updO (updO (updO (updO noOb 1 (.live ⟨[.one, .q eSec ss, .q eIL pa, .q ePnt pp, .q eIL rr, .one, .one, .one, .i cn, .one, .rp [.one, .q eSec ss, .q eIL pa, .q ePnt pp, .one, .one, .one, .one, .one, .one], .sl 2 0 1], 65, 1⟩)) 2 (.live ⟨[.pt 3 0], 69, 1⟩)) 3 (.live ⟨[.i kk, .i 1, .i (lcE (⟨rr, pa, ss.length, kk, cn, e⟩ : Lz) (i + 1)), .sl 4 0 ((lcP (⟨rr, pa, ss.length, kk, cn, e⟩ : Lz) i).length)], 47, 1⟩)) 4 (.live ⟨(enc eU8 (lcP (⟨rr, pa, ss.length, kk, cn, e⟩ : Lz) i)), 5, 1⟩)) 5 (.live ⟨(enc eB (lcU (⟨rr, pa, ss.length, kk, cn, e⟩ : Lz) i)), 4, 1⟩)) 6 (.live ⟨[.one, .q eSec ss, .q eIL pa, .q ePnt pp, .q eIL rr, .i (1 + d.speed % (2 * (10 * (1 + d.len % 20)))), .i (1 + d.mute % 1000), .i (1 + d.wait % 1000), .i cn, .i (d.stay % 4)], 33, 1⟩)) 7 (.live ⟨[.i kk, .i 1, .i (lcE (⟨rr, pa, ss.length, kk, cn, e⟩ : Lz) i), .sl 8 0 ((lcP (⟨rr, pa, ss.length, kk, cn, e⟩ : Lz) i).length)], 47, 4⟩)) 8 (.live ⟨(enc eU8 (lcP (⟨rr, pa, ss.length, kk, cn, e⟩ : Lz) i)), 5, 1⟩)) 1 (.live ⟨[.one, .q eSec ss, .q eIL pa, .q ePnt pp, .q eIL rr, .one, .one, .one, .i cn, .one, .rp [.one, .q eSec ss, .q eIL pa, .q ePnt pp, .one, .one, .one, .one, .one, .one], .sl 2 0 1], 65, 1⟩)) 2 (.live ⟨[.pt 3 0], 69, 1⟩)) 3 (.live ⟨[.i kk, .i 1, .i (lcE (⟨rr, pa, ss.length, kk, cn, e⟩ : Lz) (i + 1)), .sl 4 0 ((lcP (⟨rr, pa, ss.length, kk, cn, e⟩ : Lz) (i + 1)).length)], 47, 1⟩)) 4 (.live ⟨(enc eU8 (lcP (⟨rr, pa, ss.length, kk, cn, e⟩ : Lz) (i + 1))), 5, 1⟩)) ?_
    refine seqR ?_
    refine mG (.pt 1 0) ?_
    refine oG (callG_ true [] [60, 61] (r_LocksO kk 1 (lcE (⟨rr, pa, ss.length, kk, cn, e⟩ : Lz) (i + 1)) (lcP (⟨rr, pa, ss.length, kk, cn, e⟩ : Lz) (i + 1)) om) rfl rfl rfl rfl rfl bd12 (by decide) trivial ⟨(arg_lent (lend_pt rfl (lends_cons (lend_n (av := .one)) (lends_cons (.one _ rfl) (lends_cons (.one _ rfl) (lends_cons (.one _ rfl) (lends_cons (.one _ rfl) (lends_cons (lend_n (av := .one)) (lends_cons (lend_n (av := .one)) (lends_cons (lend_n (av := .one)) (lends_cons (.one _ rfl) (lends_cons (lend_n (av := .one)) (lends_cons (.one _ rfl) (lends_cons (lend_rowX (o := ⟨[.pt 3 0], 69, 1⟩) rfl (lends_cons (lend_pt rfl (lends_cons (lend_n (av := .i kk)) (lends_cons (lend_n (av := .i 1)) (lends_cons (lend_n (av := .i (lcE (⟨rr, pa, ss.length, kk, cn, e⟩ : Lz) (i + 1)))) (lends_cons (lend_s (id := 4) (n := (lcP (⟨rr, pa, ss.length, kk, cn, e⟩ : Lz) (i + 1)).length) (o := ⟨(enc eU8 (lcP (⟨rr, pa, ss.length, kk, cn, e⟩ : Lz) (i + 1))), 5, 1⟩) rfl (enc_len (fun _ => rfl) (by first | rfl | (simp; done)))) lends_nil))))) lends_nil) rfl) lends_nil)))))))))))))), trivial⟩ rfl ⟨rfl, rfl, trivial⟩ (fun _ => ⟨.sl _ _ _ trivial, ⟨(by intro c hc; simp at hc; rcases hc with rfl | rfl | rfl | rfl <;> constructor <;> trivial), ⟨(fun c hc => ((inferInstance : FlatL (enc eU8 (lcP (⟨rr, pa, ss.length, kk, cn, e⟩ : Lz) (i + 1)))).out c hc).mono (fun _ h => h.elim) id), trivial⟩⟩⟩) rfl (place_cons (ost_map (lm_cons (am_no (a := .i kk)) (lm_cons (am_no (a := .i 1)) (lm_cons (am_no (a := .i (lcE (⟨rr, pa, ss.length, kk, cn, e⟩ : Lz) (i + 1)))) (lm_cons rfl lm_nil))))) (place_cons (ost_no (cs := (enc eU8 (lcP (⟨rr, pa, ss.length, kk, cn, e⟩ : Lz) (i + 1))))) place_nil)) ?_)
    refine mG (.sl 60 0 1) ?_
    refine op0 ?_
    refine seqR ?_
    refine mG (.i 0) ?_
    refine rU (upd (upd (upd (upd (upd (upd (upd (upd (upd (upd (upd (upd (Z7b e) 8 (.i kk)) 9 (.pt 1 0)) 12 (.q eI (pthR rr kk))) 13 (.sl 5 0 ((pthR rr kk).length))) 14 (.i (lcC (⟨rr, pa, ss.length, kk, cn, e⟩ : Lz) (i + 1)))) 15 (.i (i : Int))) 16 (.sl 7 0 1)) 17 (.i (3 * (i : Int)))) 18 (.q eU8 (stL (e.getD i dAc) ss.length))) 19 (.q eI (owL (e.getD i dAc) pa.length))) 20 (.sl 60 0 1)) 21 (.i 0)) (updO (updO (updO (updO (updO (updO (updO (updO (updO (updO (updO (updO (updO (updO noOb 1 (.live ⟨[.one, .q eSec ss, .q eIL pa, .q ePnt pp, .q eIL rr, .one, .one, .one, .i cn, .one, .rp [.one, .q eSec ss, .q eIL pa, .q ePnt pp, .one, .one, .one, .one, .one, .one], .sl 2 0 1], 65, 1⟩)) 2 (.live ⟨[.pt 3 0], 69, 1⟩)) 3 (.live ⟨[.i kk, .i 1, .i (lcE (⟨rr, pa, ss.length, kk, cn, e⟩ : Lz) (i + 1)), .sl 4 0 ((lcP (⟨rr, pa, ss.length, kk, cn, e⟩ : Lz) i).length)], 47, 1⟩)) 4 (.live ⟨(enc eU8 (lcP (⟨rr, pa, ss.length, kk, cn, e⟩ : Lz) i)), 5, 1⟩)) 5 (.live ⟨(enc eB (lcU (⟨rr, pa, ss.length, kk, cn, e⟩ : Lz) i)), 4, 1⟩)) 6 (.live ⟨[.one, .q eSec ss, .q eIL pa, .q ePnt pp, .q eIL rr, .i (1 + d.speed % (2 * (10 * (1 + d.len % 20)))), .i (1 + d.mute % 1000), .i (1 + d.wait % 1000), .i cn, .i (d.stay % 4)], 33, 1⟩)) 7 (.live ⟨[.i kk, .i 1, .i (lcE (⟨rr, pa, ss.length, kk, cn, e⟩ : Lz) i), .sl 8 0 ((lcP (⟨rr, pa, ss.length, kk, cn, e⟩ : Lz) i).length)], 47, 4⟩)) 8 (.live ⟨(enc eU8 (lcP (⟨rr, pa, ss.length, kk, cn, e⟩ : Lz) i)), 5, 1⟩)) 1 (.live ⟨[.one, .q eSec ss, .q eIL pa, .q ePnt pp, .q eIL rr, .one, .one, .one, .i cn, .one, .rp [.one, .q eSec ss, .q eIL pa, .q ePnt pp, .one, .one, .one, .one, .one, .one], .sl 2 0 1], 65, 1⟩)) 2 (.live ⟨[.pt 3 0], 69, 1⟩)) 3 (.live ⟨[.i kk, .i 1, .i (lcE (⟨rr, pa, ss.length, kk, cn, e⟩ : Lz) (i + 1)), .sl 4 0 ((lcP (⟨rr, pa, ss.length, kk, cn, e⟩ : Lz) (i + 1)).length)], 47, 1⟩)) 4 (.live ⟨(enc eU8 (lcP (⟨rr, pa, ss.length, kk, cn, e⟩ : Lz) (i + 1))), 5, 1⟩)) 60 (.live ⟨[.i kk, .i 1, .i (lcE (⟨rr, pa, ss.length, kk, cn, e⟩ : Lz) (i + 1)), .sl 61 0 ((lcP (⟨rr, pa, ss.length, kk, cn, e⟩ : Lz) (i + 1)).length)], 47, 4⟩)) 61 (.live ⟨(enc eU8 (lcP (⟨rr, pa, ss.length, kk, cn, e⟩ : Lz) (i + 1))), 5, 1⟩)) ?_
    refine awp_block ?_
    refine awp_countI (fun j => ⟨(upd (upd (upd (upd (upd (upd (upd (upd (upd (upd (upd (upd (Z7b e) 8 (.i kk)) 9 (.pt 1 0)) 12 (.q eI (pthR rr kk))) 13 (.sl 5 0 ((pthR rr kk).length))) 14 (.i (lcC (⟨rr, pa, ss.length, kk, cn, e⟩ : Lz) (i + 1)))) 15 (.i (i : Int))) 16 (.sl 7 0 1)) 17 (.i (3 * (i : Int)))) 18 (.q eU8 (stL (e.getD i dAc) ss.length))) 19 (.q eI (owL (e.getD i dAc) pa.length))) 20 (.sl 9 0 1)) 21 (.i (j : Int))), (updO (updO (updO (updO (updO (updO (updO (updO (updO (updO noOb 1 (.live ⟨[.one, .q eSec ss, .q eIL pa, .q ePnt pp, .q eIL rr, .one, .one, .one, .i cn, .one, .rp [.one, .q eSec ss, .q eIL pa, .q ePnt pp, .one, .one, .one, .one, .one, .one], .sl 2 0 1], 65, 1⟩)) 2 (.live ⟨[.pt 3 0], 69, 1⟩)) 3 (.live ⟨[.i kk, .i 1, .i (lcE (⟨rr, pa, ss.length, kk, cn, e⟩ : Lz) (i + 1)), .sl 4 0 ((lcP (⟨rr, pa, ss.length, kk, cn, e⟩ : Lz) (i + 1)).length)], 47, 1⟩)) 4 (.live ⟨(enc eU8 (lcP (⟨rr, pa, ss.length, kk, cn, e⟩ : Lz) (i + 1))), 5, 1⟩)) 5 (.live ⟨(enc eB (usJ (⟨rr, pa, ss.length, kk, cn, e⟩ : Lz) i (lcU (⟨rr, pa, ss.length, kk, cn, e⟩ : Lz) i) j)), 4, 1⟩)) 6 (.live ⟨[.one, .q eSec ss, .q eIL pa, .q ePnt pp, .q eIL rr, .i (1 + d.speed % (2 * (10 * (1 + d.len % 20)))), .i (1 + d.mute % 1000), .i (1 + d.wait % 1000), .i cn, .i (d.stay % 4)], 33, 1⟩)) 7 (.live ⟨[.i kk, .i 1, .i (lcE (⟨rr, pa, ss.length, kk, cn, e⟩ : Lz) i), .sl 8 0 ((lcP (⟨rr, pa, ss.length, kk, cn, e⟩ : Lz) i).length)], 47, 4⟩)) 8 (.live ⟨(enc eU8 (lcP (⟨rr, pa, ss.length, kk, cn, e⟩ : Lz) i)), 5, 1⟩)) 9 (.live ⟨[.i kk, .i 1, .i (lcE (⟨rr, pa, ss.length, kk, cn, e⟩ : Lz) (i + 1)), .sl 10 0 ((lcP (⟨rr, pa, ss.length, kk, cn, e⟩ : Lz) (i + 1)).length)], 47, 4⟩)) 10 (.live ⟨(enc eU8 (lcP (⟨rr, pa, ss.length, kk, cn, e⟩ : Lz) (i + 1))), 5, 1⟩))⟩) (fun j => True) ((pthR rr kk).length) ?_ trivial (fun j hk_j hinv => ?_)
    ·skip
     exact iL [(1, 1), (2, 2), (3, 3), (4, 4), (5, 5), (6, 6), (7, 7), (8, 8), (60, 9), (61, 10)] [((1, 1), .live _), ((2, 2), .live _), ((3, 3), .live _), ((4, 4), .live _), ((5, 5), .live _), ((6, 6), .live _), ((7, 7), .live _), ((8, 8), .live _), ((60, 9), .live _), ((61, 10), .live _)] ⟨row_map (o := ⟨[.one, .q eSec ss, .q eIL pa, .q ePnt pp, .q eIL rr, .one, .one, .one, .i cn, .one, .rp [.one, .q eSec ss, .q eIL pa, .q ePnt pp, .one, .one, .one, .one, .one, .one], .sl 2 0 1], 65, 1⟩) rfl (om_ (lm_cons (am_no (a := .one)) (lm_cons (am_no (a := .q eSec ss)) (lm_cons (am_no (a := .q eIL pa)) (lm_cons (am_no (a := .q ePnt pp)) (lm_cons (am_no (a := .q eIL rr)) (lm_cons (am_no (a := .one)) (lm_cons (am_no (a := .one)) (lm_cons (am_no (a := .one)) (lm_cons (am_no (a := .i cn)) (lm_cons (am_no (a := .one)) (lm_cons (am_no (a := .rp [.one, .q eSec ss, .q eIL pa, .q ePnt pp, .one, .one, .one, .one, .one, .one])) (lm_cons rfl lm_nil))))))))))))) (oks_cons (ok_no (a := .one)) (oks_cons (ok_no (a := .q eSec ss)) (oks_cons (ok_no (a := .q eIL pa)) (oks_cons (ok_no (a := .q ePnt pp)) (oks_cons (ok_no (a := .q eIL rr)) (oks_cons (ok_no (a := .one)) (oks_cons (ok_no (a := .one)) (oks_cons (ok_no (a := .one)) (oks_cons (ok_no (a := .i cn)) (oks_cons (ok_no (a := .one)) (oks_cons (ok_no (a := .rp [.one, .q eSec ss, .q eIL pa, .q ePnt pp, .one, .one, .one, .one, .one, .one])) (oks_cons (.sl _ _ _ (by simp)) oks_nil)))))))))))), row_map (o := ⟨[.pt 3 0], 69, 1⟩) rfl (om_ (lm_cons rfl lm_nil)) (oks_cons (.pt _ _ (by simp)) oks_nil), row_map (o := ⟨[.i kk, .i 1, .i (lcE (⟨rr, pa, ss.length, kk, cn, e⟩ : Lz) (i + 1)), .sl 4 0 ((lcP (⟨rr, pa, ss.length, kk, cn, e⟩ : Lz) (i + 1)).length)], 47, 1⟩) rfl (om_ (lm_cons (am_no (a := .i kk)) (lm_cons (am_no (a := .i 1)) (lm_cons (am_no (a := .i (lcE (⟨rr, pa, ss.length, kk, cn, e⟩ : Lz) (i + 1)))) (lm_cons rfl lm_nil))))) (oks_cons (ok_no (a := .i kk)) (oks_cons (ok_no (a := .i 1)) (oks_cons (ok_no (a := .i (lcE (⟨rr, pa, ss.length, kk, cn, e⟩ : Lz) (i + 1)))) (oks_cons (.sl _ _ _ (by simp)) oks_nil)))), row_no rfl rfl, row_no rfl rfl, row_no rfl rfl, row_map (o := ⟨[.i kk, .i 1, .i (lcE (⟨rr, pa, ss.length, kk, cn, e⟩ : Lz) i), .sl 8 0 ((lcP (⟨rr, pa, ss.length, kk, cn, e⟩ : Lz) i).length)], 47, 4⟩) rfl (om_ (lm_cons (am_no (a := .i kk)) (lm_cons (am_no (a := .i 1)) (lm_cons (am_no (a := .i (lcE (⟨rr, pa, ss.length, kk, cn, e⟩ : Lz) i))) (lm_cons rfl lm_nil))))) (oks_cons (ok_no (a := .i kk)) (oks_cons (ok_no (a := .i 1)) (oks_cons (ok_no (a := .i (lcE (⟨rr, pa, ss.length, kk, cn, e⟩ : Lz) i))) (oks_cons (.sl _ _ _ (by simp)) oks_nil)))), row_no rfl rfl, row_map (o := ⟨[.i kk, .i 1, .i (lcE (⟨rr, pa, ss.length, kk, cn, e⟩ : Lz) (i + 1)), .sl 61 0 ((lcP (⟨rr, pa, ss.length, kk, cn, e⟩ : Lz) (i + 1)).length)], 47, 4⟩) rfl (om_ (lm_cons (am_no (a := .i kk)) (lm_cons (am_no (a := .i 1)) (lm_cons (am_no (a := .i (lcE (⟨rr, pa, ss.length, kk, cn, e⟩ : Lz) (i + 1)))) (lm_cons rfl lm_nil))))) (oks_cons (ok_no (a := .i kk)) (oks_cons (ok_no (a := .i 1)) (oks_cons (ok_no (a := .i (lcE (⟨rr, pa, ss.length, kk, cn, e⟩ : Lz) (i + 1)))) (oks_cons (.sl _ _ _ (by simp)) oks_nil)))), row_no rfl rfl, trivial⟩
    have huj := usJ_len (L := (⟨rr, pa, ss.length, kk, cn, e⟩ : Lz)) (us := (lcU (⟨rr, pa, ss.length, kk, cn, e⟩ : Lz) i)) i j
    refine awp_seq ?_
    refine seqR ?_
    refine mG (.i (j : Int)) ?_
    refine mG (.q eI (pthR rr kk)) ?_
    refine oG (qN ut42 ?_)
    refine bG ((.bool (decide ((j : Int) < ((pthR rr kk).length : Int))))) ?_
    refine rU (upd (upd (upd (upd (upd (upd (upd (upd (upd (upd (upd (upd (upd (Z7b e) 8 (.i kk)) 9 (.pt 1 0)) 12 (.q eI (pthR rr kk))) 13 (.sl 5 0 ((pthR rr kk).length))) 14 (.i (lcC (⟨rr, pa, ss.length, kk, cn, e⟩ : Lz) (i + 1)))) 15 (.i (i : Int))) 16 (.sl 7 0 1)) 17 (.i (3 * (i : Int)))) 18 (.q eU8 (stL (e.getD i dAc) ss.length))) 19 (.q eI (owL (e.getD i dAc) pa.length))) 20 (.sl 9 0 1)) 21 (.i (j : Int))) 125 (.b (decide ((j : Int) < ((pthR rr kk).length : Int))))) (updO (updO (updO (updO (updO (updO (updO (updO (updO (updO noOb 1 (.live ⟨[.one, .q eSec ss, .q eIL pa, .q ePnt pp, .q eIL rr, .one, .one, .one, .i cn, .one, .rp [.one, .q eSec ss, .q eIL pa, .q ePnt pp, .one, .one, .one, .one, .one, .one], .sl 2 0 1], 65, 1⟩)) 2 (.live ⟨[.pt 3 0], 69, 1⟩)) 3 (.live ⟨[.i kk, .i 1, .i (lcE (⟨rr, pa, ss.length, kk, cn, e⟩ : Lz) (i + 1)), .sl 4 0 ((lcP (⟨rr, pa, ss.length, kk, cn, e⟩ : Lz) (i + 1)).length)], 47, 1⟩)) 4 (.live ⟨(enc eU8 (lcP (⟨rr, pa, ss.length, kk, cn, e⟩ : Lz) (i + 1))), 5, 1⟩)) 5 (.live ⟨(enc eB (usJ (⟨rr, pa, ss.length, kk, cn, e⟩ : Lz) i (lcU (⟨rr, pa, ss.length, kk, cn, e⟩ : Lz) i) j)), 4, 1⟩)) 6 (.live ⟨[.one, .q eSec ss, .q eIL pa, .q ePnt pp, .q eIL rr, .i (1 + d.speed % (2 * (10 * (1 + d.len % 20)))), .i (1 + d.mute % 1000), .i (1 + d.wait % 1000), .i cn, .i (d.stay % 4)], 33, 1⟩)) 7 (.live ⟨[.i kk, .i 1, .i (lcE (⟨rr, pa, ss.length, kk, cn, e⟩ : Lz) i), .sl 8 0 ((lcP (⟨rr, pa, ss.length, kk, cn, e⟩ : Lz) i).length)], 47, 4⟩)) 8 (.live ⟨(enc eU8 (lcP (⟨rr, pa, ss.length, kk, cn, e⟩ : Lz) i)), 5, 1⟩)) 9 (.live ⟨[.i kk, .i 1, .i (lcE (⟨rr, pa, ss.length, kk, cn, e⟩ : Lz) (i + 1)), .sl 10 0 ((lcP (⟨rr, pa, ss.length, kk, cn, e⟩ : Lz) (i + 1)).length)], 47, 4⟩)) 10 (.live ⟨(enc eU8 (lcP (⟨rr, pa, ss.length, kk, cn, e⟩ : Lz) (i + 1))), 5, 1⟩)) ?_
    refine awp_cond (decide ((j : Int) < ((pthR rr kk).length : Int))) rfl rfl (fun hc7 => ?_) (fun hc7 => ?_)
    ·skip
     have hf18 := of_decide_eq_true hc7
     have hsj := hk3 _ (getD_mem (l := (pthR rr kk)) (k := j) 0 om)
     have hpij := hq7 _ hsj.1 hsj.2
     refine awp_skip ?_
     refine awp_seq ?_
     refine awp_block ?_
     refine seqR ?_
     refine mG (.sl 9 0 1) ?_
     refine oG (aop_len rfl rfl rfl rfl ut44 (len_sl rfl) ?_)
     refine bG ((.bool ((1 : Int) == 0))) ?_
     refine mG (.b ((1 : Int) == 0)) ?_
     refine aops_grp 9 140 (.b (((1 : Int) == 0) || (((lcP (⟨rr, pa, ss.length, kk, cn, e⟩ : Lz) (i + 1)).getD j 0) == 0))) ?_ ?_
     ·refine (Bool.eq_false_or_eq_true ((1 : Int) == 0)).elim (fun hg19 => ?_) (fun hg19 => ?_)
      ·skip
       have hf20 := (beq_iff_eq).1 hg19
       refine nG hg19 ?_
       refine nG hg19 ?_
       refine nG hg19 ?_
       refine nG hg19 ?_
       refine nG hg19 ?_
       refine nG hg19 ?_
       refine nG hg19 ?_
       refine nG hg19 ?_
       refine oG (qP ((1 : Int) == 0) (.b true) hg19 ?_)
       refine op0 ?_
       exact imp_env (lee_both 140 _ _ (by rw [hg19] <;> rfl) lO)
      have hf21 := (beq_eq_false_iff_ne).1 hg19
      refine oY hg19 (qM (.sl 9 0 1) ?_)
      refine oY hg19 (aop_ixO (k := 0) rfl rfl rfl ut44 sz47 rfl rfl oo ?_)
      refine oY hg19 (qF (.pt 9 0) (.pt 9 3) ft47_3 sz37 ?_)
      refine oY hg19 (qL (.sl 10 0 ((lcP (⟨rr, pa, ss.length, kk, cn, e⟩ : Lz) (i + 1)).length)) ag37 ?_)
      refine oY hg19 (qM (.i (j : Int)) ?_)
      refine oY hg19 (aop_ixO (k := j) rfl rfl rfl ut37 sz5 rfl rfl oo ?_)
      refine oY hg19 (aop_ldO (f := eU8) (l := lcP (⟨rr, pa, ss.length, kk, cn, e⟩ : Lz) (i + 1)) 0 rfl rfl rfl ag5 rfl rfl rfl (fun _ => rfl) oo rfl ?_)
      refine oY hg19 (qB (.bool (((lcP (⟨rr, pa, ss.length, kk, cn, e⟩ : Lz) (i + 1)).getD j 0) == 0)) rfl ?_)
      refine oG (qP ((1 : Int) == 0) (.b (((lcP (⟨rr, pa, ss.length, kk, cn, e⟩ : Lz) (i + 1)).getD j 0) == 0)) hg19 ?_)
      refine op0 ?_
      exact imp_env (lee_both 140 _ _ (by rw [hg19] <;> rfl) lO)
     refine mG (.b (((1 : Int) == 0) || (((lcP (⟨rr, pa, ss.length, kk, cn, e⟩ : Lz) (i + 1)).getD j 0) == 0))) ?_
     refine op0 ?_
     refine rT (upd (upd (upd (upd (upd (upd (upd (upd (upd (upd (upd (upd (upd (Z7b e) 8 (.i kk)) 9 (.pt 1 0)) 12 (.q eI (pthR rr kk))) 13 (.sl 5 0 ((pthR rr kk).length))) 14 (.i (lcC (⟨rr, pa, ss.length, kk, cn, e⟩ : Lz) (i + 1)))) 15 (.i (i : Int))) 16 (.sl 7 0 1)) 17 (.i (3 * (i : Int)))) 18 (.q eU8 (stL (e.getD i dAc) ss.length))) 19 (.q eI (owL (e.getD i dAc) pa.length))) 20 (.sl 9 0 1)) 21 (.i (j : Int))) 22 (.b (((1 : Int) == 0) || (((lcP (⟨rr, pa, ss.length, kk, cn, e⟩ : Lz) (i + 1)).getD j 0) == 0)))) (updO (updO (updO (updO (updO (updO (updO (updO (updO (updO noOb 1 (.live ⟨[.one, .q eSec ss, .q eIL pa, .q ePnt pp, .q eIL rr, .one, .one, .one, .i cn, .one, .rp [.one, .q eSec ss, .q eIL pa, .q ePnt pp, .one, .one, .one, .one, .one, .one], .sl 2 0 1], 65, 1⟩)) 2 (.live ⟨[.pt 3 0], 69, 1⟩)) 3 (.live ⟨[.i kk, .i 1, .i (lcE (⟨rr, pa, ss.length, kk, cn, e⟩ : Lz) (i + 1)), .sl 4 0 ((lcP (⟨rr, pa, ss.length, kk, cn, e⟩ : Lz) (i + 1)).length)], 47, 1⟩)) 4 (.live ⟨(enc eU8 (lcP (⟨rr, pa, ss.length, kk, cn, e⟩ : Lz) (i + 1))), 5, 1⟩)) 5 (.live ⟨(enc eB (usJ (⟨rr, pa, ss.length, kk, cn, e⟩ : Lz) i (lcU (⟨rr, pa, ss.length, kk, cn, e⟩ : Lz) i) j)), 4, 1⟩)) 6 (.live ⟨[.one, .q eSec ss, .q eIL pa, .q ePnt pp, .q eIL rr, .i (1 + d.speed % (2 * (10 * (1 + d.len % 20)))), .i (1 + d.mute % 1000), .i (1 + d.wait % 1000), .i cn, .i (d.stay % 4)], 33, 1⟩)) 7 (.live ⟨[.i kk, .i 1, .i (lcE (⟨rr, pa, ss.length, kk, cn, e⟩ : Lz) i), .sl 8 0 ((lcP (⟨rr, pa, ss.length, kk, cn, e⟩ : Lz) i).length)], 47, 4⟩)) 8 (.live ⟨(enc eU8 (lcP (⟨rr, pa, ss.length, kk, cn, e⟩ : Lz) i)), 5, 1⟩)) 9 (.live ⟨[.i kk, .i 1, .i (lcE (⟨rr, pa, ss.length, kk, cn, e⟩ : Lz) (i + 1)), .sl 10 0 ((lcP (⟨rr, pa, ss.length, kk, cn, e⟩ : Lz) (i + 1)).length)], 47, 4⟩)) 10 (.live ⟨(enc eU8 (lcP (⟨rr, pa, ss.length, kk, cn, e⟩ : Lz) (i + 1))), 5, 1⟩)) ?_
     refine awp_seq ?_
     refine seqR ?_
     refine mG (.sl 7 0 1) ?_
     refine oG (aop_ixO (k := 0) rfl rfl rfl ut44 sz47 rfl rfl oo ?_)
     refine fG (.pt 7 3) ft47_3 sz37 ?_
     refine oG (qL (.sl 8 0 ((lcP (⟨rr, pa, ss.length, kk, cn, e⟩ : Lz) i).length)) ag37 ?_)
     refine mG (.i (j : Int)) ?_
     refine oG (aop_ixO (k := j) rfl rfl rfl ut37 sz5 rfl rfl oo ?_)
     refine oG (aop_ldO (f := eU8) (l := lcP (⟨rr, pa, ss.length, kk, cn, e⟩ : Lz) i) 0 rfl rfl rfl ag5 rfl rfl rfl (fun _ => rfl) oo rfl ?_)
     refine bG ((.bool (((lcP (⟨rr, pa, ss.length, kk, cn, e⟩ : Lz) i).getD j 0) == 0))) ?_
     refine rU (upd (upd (upd (upd (upd (upd (upd (upd (upd (upd (upd (upd (upd (upd (Z7b e) 8 (.i kk)) 9 (.pt 1 0)) 12 (.q eI (pthR rr kk))) 13 (.sl 5 0 ((pthR rr kk).length))) 14 (.i (lcC (⟨rr, pa, ss.length, kk, cn, e⟩ : Lz) (i + 1)))) 15 (.i (i : Int))) 16 (.sl 7 0 1)) 17 (.i (3 * (i : Int)))) 18 (.q eU8 (stL (e.getD i dAc) ss.length))) 19 (.q eI (owL (e.getD i dAc) pa.length))) 20 (.sl 9 0 1)) 21 (.i (j : Int))) 22 (.b (((1 : Int) == 0) || (((lcP (⟨rr, pa, ss.length, kk, cn, e⟩ : Lz) (i + 1)).getD j 0) == 0)))) 148 (.b (((lcP (⟨rr, pa, ss.length, kk, cn, e⟩ : Lz) i).getD j 0) == 0))) (updO (updO (updO (updO (updO (updO (updO (updO (updO (updO noOb 1 (.live ⟨[.one, .q eSec ss, .q eIL pa, .q ePnt pp, .q eIL rr, .one, .one, .one, .i cn, .one, .rp [.one, .q eSec ss, .q eIL pa, .q ePnt pp, .one, .one, .one, .one, .one, .one], .sl 2 0 1], 65, 1⟩)) 2 (.live ⟨[.pt 3 0], 69, 1⟩)) 3 (.live ⟨[.i kk, .i 1, .i (lcE (⟨rr, pa, ss.length, kk, cn, e⟩ : Lz) (i + 1)), .sl 4 0 ((lcP (⟨rr, pa, ss.length, kk, cn, e⟩ : Lz) (i + 1)).length)], 47, 1⟩)) 4 (.live ⟨(enc eU8 (lcP (⟨rr, pa, ss.length, kk, cn, e⟩ : Lz) (i + 1))), 5, 1⟩)) 5 (.live ⟨(enc eB (usJ (⟨rr, pa, ss.length, kk, cn, e⟩ : Lz) i (lcU (⟨rr, pa, ss.length, kk, cn, e⟩ : Lz) i) j)), 4, 1⟩)) 6 (.live ⟨[.one, .q eSec ss, .q eIL pa, .q ePnt pp, .q eIL rr, .i (1 + d.speed % (2 * (10 * (1 + d.len % 20)))), .i (1 + d.mute % 1000), .i (1 + d.wait % 1000), .i cn, .i (d.stay % 4)], 33, 1⟩)) 7 (.live ⟨[.i kk, .i 1, .i (lcE (⟨rr, pa, ss.length, kk, cn, e⟩ : Lz) i), .sl 8 0 ((lcP (⟨rr, pa, ss.length, kk, cn, e⟩ : Lz) i).length)], 47, 4⟩)) 8 (.live ⟨(enc eU8 (lcP (⟨rr, pa, ss.length, kk, cn, e⟩ : Lz) i)), 5, 1⟩)) 9 (.live ⟨[.i kk, .i 1, .i (lcE (⟨rr, pa, ss.length, kk, cn, e⟩ : Lz) (i + 1)), .sl 10 0 ((lcP (⟨rr, pa, ss.length, kk, cn, e⟩ : Lz) (i + 1)).length)], 47, 4⟩)) 10 (.live ⟨(enc eU8 (lcP (⟨rr, pa, ss.length, kk, cn, e⟩ : Lz) (i + 1))), 5, 1⟩)) ?_
     refine awp_cond (((lcP (⟨rr, pa, ss.length, kk, cn, e⟩ : Lz) i).getD j 0) == 0) rfl rfl (fun hc8 => ?_) (fun hc8 => ?_)
     ·skip
      have hf22 := (beq_iff_eq).1 hc8
      have hw0 : (lcP (⟨rr, pa, ss.length, kk, cn, e⟩ : Lz) i).getD j 0 = 0 := (beq_iff_eq).1 hc8
      refine awp_exit ?_
      refine regR ?_
      refine mG (.i (j : Int)) ?_
      refine oG (qB (.int .i64 ((j + 1 : Nat) : Int)) (addN om) ?_)
      refine mG (.i ((j + 1 : Nat) : Int)) ?_
      refine op0 ?_
      show _ ∧ _
      have hs_ : (usJ (⟨rr, pa, ss.length, kk, cn, e⟩ : Lz) i (lcU (⟨rr, pa, ss.length, kk, cn, e⟩ : Lz) i) (j + 1)) = (usJ (⟨rr, pa, ss.length, kk, cn, e⟩ : Lz) i (lcU (⟨rr, pa, ss.length, kk, cn, e⟩ : Lz) i) j) := by show (if _ then _ else _) = _; rw [if_pos hw0]
      refine ⟨by omega, trivial, ?_⟩
      exact iL [(1, 1), (2, 2), (3, 3), (4, 4), (5, 5), (6, 6), (7, 7), (8, 8), (9, 9), (10, 10)] [((1, 1), .live _), ((2, 2), .live _), ((3, 3), .live _), ((4, 4), .live _), ((5, 5), .live _), ((6, 6), .live _), ((7, 7), .live _), ((8, 8), .live _), ((9, 9), .live _), ((10, 10), .live _)] ⟨row_map (o := ⟨[.one, .q eSec ss, .q eIL pa, .q ePnt pp, .q eIL rr, .one, .one, .one, .i cn, .one, .rp [.one, .q eSec ss, .q eIL pa, .q ePnt pp, .one, .one, .one, .one, .one, .one], .sl 2 0 1], 65, 1⟩) rfl (om_ (lm_cons (am_no (a := .one)) (lm_cons (am_no (a := .q eSec ss)) (lm_cons (am_no (a := .q eIL pa)) (lm_cons (am_no (a := .q ePnt pp)) (lm_cons (am_no (a := .q eIL rr)) (lm_cons (am_no (a := .one)) (lm_cons (am_no (a := .one)) (lm_cons (am_no (a := .one)) (lm_cons (am_no (a := .i cn)) (lm_cons (am_no (a := .one)) (lm_cons (am_no (a := .rp [.one, .q eSec ss, .q eIL pa, .q ePnt pp, .one, .one, .one, .one, .one, .one])) (lm_cons rfl lm_nil))))))))))))) (oks_cons (ok_no (a := .one)) (oks_cons (ok_no (a := .q eSec ss)) (oks_cons (ok_no (a := .q eIL pa)) (oks_cons (ok_no (a := .q ePnt pp)) (oks_cons (ok_no (a := .q eIL rr)) (oks_cons (ok_no (a := .one)) (oks_cons (ok_no (a := .one)) (oks_cons (ok_no (a := .one)) (oks_cons (ok_no (a := .i cn)) (oks_cons (ok_no (a := .one)) (oks_cons (ok_no (a := .rp [.one, .q eSec ss, .q eIL pa, .q ePnt pp, .one, .one, .one, .one, .one, .one])) (oks_cons (.sl _ _ _ (by simp)) oks_nil)))))))))))), row_map (o := ⟨[.pt 3 0], 69, 1⟩) rfl (om_ (lm_cons rfl lm_nil)) (oks_cons (.pt _ _ (by simp)) oks_nil), row_map (o := ⟨[.i kk, .i 1, .i (lcE (⟨rr, pa, ss.length, kk, cn, e⟩ : Lz) (i + 1)), .sl 4 0 ((lcP (⟨rr, pa, ss.length, kk, cn, e⟩ : Lz) (i + 1)).length)], 47, 1⟩) rfl (om_ (lm_cons (am_no (a := .i kk)) (lm_cons (am_no (a := .i 1)) (lm_cons (am_no (a := .i (lcE (⟨rr, pa, ss.length, kk, cn, e⟩ : Lz) (i + 1)))) (lm_cons rfl lm_nil))))) (oks_cons (ok_no (a := .i kk)) (oks_cons (ok_no (a := .i 1)) (oks_cons (ok_no (a := .i (lcE (⟨rr, pa, ss.length, kk, cn, e⟩ : Lz) (i + 1)))) (oks_cons (.sl _ _ _ (by simp)) oks_nil)))), row_no rfl rfl, row_no rfl (by exact congrArg (fun l_ => LObj.mk (enc eB l_) 4 1) hs_), row_no rfl rfl, row_map (o := ⟨[.i kk, .i 1, .i (lcE (⟨rr, pa, ss.length, kk, cn, e⟩ : Lz) i), .sl 8 0 ((lcP (⟨rr, pa, ss.length, kk, cn, e⟩ : Lz) i).length)], 47, 4⟩) rfl (om_ (lm_cons (am_no (a := .i kk)) (lm_cons (am_no (a := .i 1)) (lm_cons (am_no (a := .i (lcE (⟨rr, pa, ss.length, kk, cn, e⟩ : Lz) i))) (lm_cons rfl lm_nil))))) (oks_cons (ok_no (a := .i kk)) (oks_cons (ok_no (a := .i 1)) (oks_cons (ok_no (a := .i (lcE (⟨rr, pa, ss.length, kk, cn, e⟩ : Lz) i))) (oks_cons (.sl _ _ _ (by simp)) oks_nil)))), row_no rfl rfl, row_map (o := ⟨[.i kk, .i 1, .i (lcE (⟨rr, pa, ss.length, kk, cn, e⟩ : Lz) (i + 1)), .sl 10 0 ((lcP (⟨rr, pa, ss.length, kk, cn, e⟩ : Lz) (i + 1)).length)], 47, 4⟩) rfl (om_ (lm_cons (am_no (a := .i kk)) (lm_cons (am_no (a := .i 1)) (lm_cons (am_no (a := .i (lcE (⟨rr, pa, ss.length, kk, cn, e⟩ : Lz) (i + 1)))) (lm_cons rfl lm_nil))))) (oks_cons (ok_no (a := .i kk)) (oks_cons (ok_no (a := .i 1)) (oks_cons (ok_no (a := .i (lcE (⟨rr, pa, ss.length, kk, cn, e⟩ : Lz) (i + 1)))) (oks_cons (.sl _ _ _ (by simp)) oks_nil)))), row_no rfl rfl, trivial⟩
     have hf23 := (beq_eq_false_iff_ne).1 hc8
     have hlq_ := lastP_lt (parts := pa) (s := (pthR rr kk).getD j 0) pa.length om
     have hw0 : ¬ (lcP (⟨rr, pa, ss.length, kk, cn, e⟩ : Lz) i).getD j 0 = 0 := (beq_eq_false_iff_ne).1 hc8
     refine awp_skip ?_
     refine awp_seq ?_
     refine seqR ?_
     refine mG (.b (((1 : Int) == 0) || (((lcP (⟨rr, pa, ss.length, kk, cn, e⟩ : Lz) (i + 1)).getD j 0) == 0))) ?_
     refine mG (.b (((1 : Int) == 0) || (((lcP (⟨rr, pa, ss.length, kk, cn, e⟩ : Lz) (i + 1)).getD j 0) == 0))) ?_
     refine aops_grp 28 178 (.b ((((1 : Int) == 0) || (((lcP (⟨rr, pa, ss.length, kk, cn, e⟩ : Lz) (i + 1)).getD j 0) == 0)) && ((((stL (e.getD i dAc) ss.length).getD ((pthR rr kk).getD j 0).toNat 0) != 0) || ((!((usJ (⟨rr, pa, ss.length, kk, cn, e⟩ : Lz) i (lcU (⟨rr, pa, ss.length, kk, cn, e⟩ : Lz) i) j).getD j false)) && ((decide ((lcC (⟨rr, pa, ss.length, kk, cn, e⟩ : Lz) (i + 1)) < 0)) || (decide ((3 * (i : Int)) < ((lcC (⟨rr, pa, ss.length, kk, cn, e⟩ : Lz) (i + 1)) + cn)))))))) ?_ ?_
     ·refine (Bool.eq_false_or_eq_true (((1 : Int) == 0) || (((lcP (⟨rr, pa, ss.length, kk, cn, e⟩ : Lz) (i + 1)).getD j 0) == 0))).elim (fun hg24 => ?_) (fun hg24 => ?_)
      ·skip
       refine oY hg24 (qM (.q eU8 (stL (e.getD i dAc) ss.length)) ?_)
       refine oY hg24 (qM (.q eI (pthR rr kk)) ?_)
       refine oY hg24 (qM (.i (j : Int)) ?_)
       refine oY hg24 (qX (0 : Int) ut42 sz3 ?_)
       refine oY hg24 (qL (.i ((pthR rr kk).getD j 0)) ag3 ?_)
       refine oY hg24 (aop_ixI 0 rfl rfl rfl ut37 sz5 rfl rfl (fun _ => rfl) rfl om oo ?_)
       refine oY hg24 (qL (.v (.int .u8 ((stL (e.getD i dAc) ss.length).getD ((pthR rr kk).getD j 0).toNat 0))) ag5 ?_)
       refine oY hg24 (qB (.bool (((stL (e.getD i dAc) ss.length).getD ((pthR rr kk).getD j 0).toNat 0) != 0)) rfl ?_)
       refine oY hg24 (qM (.b (((stL (e.getD i dAc) ss.length).getD ((pthR rr kk).getD j 0).toNat 0) != 0)) ?_)
       refine aops_grp 18 177 (.b ((((stL (e.getD i dAc) ss.length).getD ((pthR rr kk).getD j 0).toNat 0) != 0) || ((!((usJ (⟨rr, pa, ss.length, kk, cn, e⟩ : Lz) i (lcU (⟨rr, pa, ss.length, kk, cn, e⟩ : Lz) i) j).getD j false)) && ((decide ((lcC (⟨rr, pa, ss.length, kk, cn, e⟩ : Lz) (i + 1)) < 0)) || (decide ((3 * (i : Int)) < ((lcC (⟨rr, pa, ss.length, kk, cn, e⟩ : Lz) (i + 1)) + cn))))))) ?_ ?_
       ·refine (Bool.eq_false_or_eq_true (((stL (e.getD i dAc) ss.length).getD ((pthR rr kk).getD j 0).toNat 0) != 0)).elim (fun hg25 => ?_) (fun hg25 => ?_)
        ·skip
         have hf26 := (bne_iff_ne).1 hg25
         refine nG hg25 ?_
         refine nG hg25 ?_
         refine nG hg25 ?_
         refine nG hg25 ?_
         refine nG hg25 ?_
         refine nG hg25 ?_
         refine opN rfl rfl rfl rfl (by intro h; cases h) rfl rfl ?_
         refine opN rfl rfl rfl rfl (by intro h; cases h) rfl rfl ?_
         refine opN rfl rfl rfl rfl (by intro h; cases h) rfl rfl ?_
         refine opN rfl rfl rfl rfl (by intro h; cases h) rfl rfl ?_
         refine opN rfl rfl rfl rfl (by intro h; cases h) rfl rfl ?_
         refine opN rfl rfl rfl rfl (by intro h; cases h) rfl rfl ?_
         refine opN rfl rfl rfl rfl (by intro h; cases h) rfl rfl ?_
         refine opN rfl rfl rfl rfl (by intro h; cases h) rfl rfl ?_
         refine opN rfl rfl rfl rfl (by intro h; cases h) rfl rfl ?_
         refine opN rfl rfl rfl rfl (by intro h; cases h) rfl rfl ?_
         refine nG hg25 ?_
         refine oY hg24 (qP (((stL (e.getD i dAc) ss.length).getD ((pthR rr kk).getD j 0).toNat 0) != 0) (.b true) hg25 ?_)
         refine op0 ?_
         exact imp_env (lee_both 177 _ _ (by rw [hg25] <;> rfl) lO)
        have hf27 := (bne_eq_false_iff_eq).1 hg25
        refine oY hg25 (qM (.sl 5 0 ((pthR rr kk).length)) ?_)
        refine oY hg25 (qM (.i (j : Int)) ?_)
        refine oY hg25 (aop_ixO (k := j) rfl rfl rfl ut38 sz4 rfl rfl oo ?_)
        refine oY hg25 (aop_ldO (f := eB) (l := usJ (⟨rr, pa, ss.length, kk, cn, e⟩ : Lz) i (lcU (⟨rr, pa, ss.length, kk, cn, e⟩ : Lz) i) j) false rfl rfl rfl ag4 rfl rfl rfl (fun _ => rfl) oo rfl ?_)
        refine oY hg25 (aop_not rfl rfl rfl rfl ?_)
        refine oY hg25 (qM (.b (!((usJ (⟨rr, pa, ss.length, kk, cn, e⟩ : Lz) i (lcU (⟨rr, pa, ss.length, kk, cn, e⟩ : Lz) i) j).getD j false))) ?_)
        refine aops_grp 11 176 (.b ((!((usJ (⟨rr, pa, ss.length, kk, cn, e⟩ : Lz) i (lcU (⟨rr, pa, ss.length, kk, cn, e⟩ : Lz) i) j).getD j false)) && ((decide ((lcC (⟨rr, pa, ss.length, kk, cn, e⟩ : Lz) (i + 1)) < 0)) || (decide ((3 * (i : Int)) < ((lcC (⟨rr, pa, ss.length, kk, cn, e⟩ : Lz) (i + 1)) + cn)))))) ?_ ?_
        ·refine (Bool.eq_false_or_eq_true (!((usJ (⟨rr, pa, ss.length, kk, cn, e⟩ : Lz) i (lcU (⟨rr, pa, ss.length, kk, cn, e⟩ : Lz) i) j).getD j false))).elim (fun hg28 => ?_) (fun hg28 => ?_)
         ·skip
          have hf29 := not_t hg28
          refine oY hg28 (qM (.i (lcC (⟨rr, pa, ss.length, kk, cn, e⟩ : Lz) (i + 1))) ?_)
          refine oY hg28 (qB (.bool (decide ((lcC (⟨rr, pa, ss.length, kk, cn, e⟩ : Lz) (i + 1)) < 0))) rfl ?_)
          refine oY hg28 (qM (.b (decide ((lcC (⟨rr, pa, ss.length, kk, cn, e⟩ : Lz) (i + 1)) < 0))) ?_)
          refine aops_grp 7 175 (.b ((decide ((lcC (⟨rr, pa, ss.length, kk, cn, e⟩ : Lz) (i + 1)) < 0)) || (decide ((3 * (i : Int)) < ((lcC (⟨rr, pa, ss.length, kk, cn, e⟩ : Lz) (i + 1)) + cn))))) ?_ ?_
          ·refine (Bool.eq_false_or_eq_true (decide ((lcC (⟨rr, pa, ss.length, kk, cn, e⟩ : Lz) (i + 1)) < 0))).elim (fun hg30 => ?_) (fun hg30 => ?_)
           ·skip
            have hf31 := of_decide_eq_true hg30
            refine nG hg30 ?_
            refine nG hg30 ?_
            refine nG hg30 ?_
            refine nG hg30 ?_
            refine nG hg30 ?_
            refine nG hg30 ?_
            refine oY hg28 (qP (decide ((lcC (⟨rr, pa, ss.length, kk, cn, e⟩ : Lz) (i + 1)) < 0)) (.b true) hg30 ?_)
            refine op0 ?_
            exact imp_env (lee_both 175 _ _ (by rw [hg30] <;> rfl) lO)
           have hf32 := of_decide_eq_false hg30
           refine oY hg30 (qM (.i (3 * (i : Int))) ?_)
           refine oY hg30 (qM (.i (lcC (⟨rr, pa, ss.length, kk, cn, e⟩ : Lz) (i + 1))) ?_)
           refine oY hg30 (qF (.pt 6 0) (.pt 6 8) ft33_8 sz2 ?_)
           refine oY hg30 (qL (.i cn) ag2 ?_)
           refine oY hg30 (qB (.int .i64 ((lcC (⟨rr, pa, ss.length, kk, cn, e⟩ : Lz) (i + 1)) + cn)) (addI om) ?_)
           refine oY hg30 (qB (.bool (decide ((3 * (i : Int)) < ((lcC (⟨rr, pa, ss.length, kk, cn, e⟩ : Lz) (i + 1)) + cn)))) rfl ?_)
           refine oY hg28 (qP (decide ((lcC (⟨rr, pa, ss.length, kk, cn, e⟩ : Lz) (i + 1)) < 0)) (.b (decide ((3 * (i : Int)) < ((lcC (⟨rr, pa, ss.length, kk, cn, e⟩ : Lz) (i + 1)) + cn)))) hg30 ?_)
           refine op0 ?_
           exact imp_env (lee_both 175 _ _ (by rw [hg30] <;> rfl) lO)
          refine oY hg25 (qP (!((usJ (⟨rr, pa, ss.length, kk, cn, e⟩ : Lz) i (lcU (⟨rr, pa, ss.length, kk, cn, e⟩ : Lz) i) j).getD j false)) (.b ((decide ((lcC (⟨rr, pa, ss.length, kk, cn, e⟩ : Lz) (i + 1)) < 0)) || (decide ((3 * (i : Int)) < ((lcC (⟨rr, pa, ss.length, kk, cn, e⟩ : Lz) (i + 1)) + cn))))) hg28 ?_)
          refine op0 ?_
          exact imp_env (lee_both 176 _ _ (by rw [hg28] <;> rfl) lO)
         have hf33 := not_f hg28
         refine nG hg28 ?_
         refine nG hg28 ?_
         refine nG hg28 ?_
         refine opN rfl rfl rfl rfl (by intro h; cases h) rfl rfl ?_
         refine opN rfl rfl rfl rfl (by intro h; cases h) rfl rfl ?_
         refine opN rfl rfl rfl rfl (by intro h; cases h) rfl rfl ?_
         refine opN rfl rfl rfl rfl (by intro h; cases h) rfl rfl ?_
         refine opN rfl rfl rfl rfl (by intro h; cases h) rfl rfl ?_
         refine opN rfl rfl rfl rfl (by intro h; cases h) rfl rfl ?_
         refine nG hg28 ?_
         refine oY hg25 (qP (!((usJ (⟨rr, pa, ss.length, kk, cn, e⟩ : Lz) i (lcU (⟨rr, pa, ss.length, kk, cn, e⟩ : Lz) i) j).getD j false)) (.b false) hg28 ?_)
         refine op0 ?_
         exact imp_env (lee_both 176 _ _ (by rw [hg28] <;> rfl) lO)
        refine oY hg24 (qP (((stL (e.getD i dAc) ss.length).getD ((pthR rr kk).getD j 0).toNat 0) != 0) (.b ((!((usJ (⟨rr, pa, ss.length, kk, cn, e⟩ : Lz) i (lcU (⟨rr, pa, ss.length, kk, cn, e⟩ : Lz) i) j).getD j false)) && ((decide ((lcC (⟨rr, pa, ss.length, kk, cn, e⟩ : Lz) (i + 1)) < 0)) || (decide ((3 * (i : Int)) < ((lcC (⟨rr, pa, ss.length, kk, cn, e⟩ : Lz) (i + 1)) + cn)))))) hg25 ?_)
        refine op0 ?_
        exact imp_env (lee_both 177 _ _ (by rw [hg25] <;> rfl) lO)
       refine oG (qP (((1 : Int) == 0) || (((lcP (⟨rr, pa, ss.length, kk, cn, e⟩ : Lz) (i + 1)).getD j 0) == 0)) (.b ((((stL (e.getD i dAc) ss.length).getD ((pthR rr kk).getD j 0).toNat 0) != 0) || ((!((usJ (⟨rr, pa, ss.length, kk, cn, e⟩ : Lz) i (lcU (⟨rr, pa, ss.length, kk, cn, e⟩ : Lz) i) j).getD j false)) && ((decide ((lcC (⟨rr, pa, ss.length, kk, cn, e⟩ : Lz) (i + 1)) < 0)) || (decide ((3 * (i : Int)) < ((lcC (⟨rr, pa, ss.length, kk, cn, e⟩ : Lz) (i + 1)) + cn))))))) hg24 ?_)
       refine op0 ?_
       exact imp_env (lee_both 178 _ _ (by rw [hg24] <;> rfl) lO)
      obtain ⟨hf34a, hf34b⟩ := or_f hg24
      have hf35 := (beq_eq_false_iff_ne).1 hf34a
      have hf36 := (beq_eq_false_iff_ne).1 hf34b
      refine nG hg24 ?_
      refine nG hg24 ?_
      refine nG hg24 ?_
      refine nG hg24 ?_
      refine nG hg24 ?_
      refine nG hg24 ?_
      refine nG hg24 ?_
      refine nG hg24 ?_
      refine nG hg24 ?_
      refine opN rfl rfl rfl rfl (by intro h; cases h) rfl rfl ?_
      refine opN rfl rfl rfl rfl (by intro h; cases h) rfl rfl ?_
      refine opN rfl rfl rfl rfl (by intro h; cases h) rfl rfl ?_
      refine opN rfl rfl rfl rfl (by intro h; cases h) rfl rfl ?_
      refine opN rfl rfl rfl rfl (by intro h; cases h) rfl rfl ?_
      refine opN rfl rfl rfl rfl (by intro h; cases h) rfl rfl ?_
      refine opN rfl rfl rfl rfl (by intro h; cases h) rfl rfl ?_
      refine opN rfl rfl rfl rfl (by intro h; cases h) rfl rfl ?_
      refine opN rfl rfl rfl rfl (by intro h; cases h) rfl rfl ?_
      refine opN rfl rfl rfl rfl (by intro h; cases h) rfl rfl ?_
      refine opN rfl rfl rfl rfl (by intro h; cases h) rfl rfl ?_
      refine opN rfl rfl rfl rfl (by intro h; cases h) rfl rfl ?_
      refine opN rfl rfl rfl rfl (by intro h; cases h) rfl rfl ?_
      refine opN rfl rfl rfl rfl (by intro h; cases h) rfl rfl ?_
      refine opN rfl rfl rfl rfl (by intro h; cases h) rfl rfl ?_
      refine opN rfl rfl rfl rfl (by intro h; cases h) rfl rfl ?_
      refine opN rfl rfl rfl rfl (by intro h; cases h) rfl rfl ?_
      refine nG hg24 ?_
      refine oG (qP (((1 : Int) == 0) || (((lcP (⟨rr, pa, ss.length, kk, cn, e⟩ : Lz) (i + 1)).getD j 0) == 0)) (.b false) hg24 ?_)
      refine op0 ?_
      exact imp_env (lee_both 178 _ _ (by rw [hg24] <;> rfl) lO)
     refine op0 ?_
     refine awp_cond ((((1 : Int) == 0) || (((lcP (⟨rr, pa, ss.length, kk, cn, e⟩ : Lz) (i + 1)).getD j 0) == 0)) && ((((stL (e.getD i dAc) ss.length).getD ((pthR rr kk).getD j 0).toNat 0) != 0) || ((!((usJ (⟨rr, pa, ss.length, kk, cn, e⟩ : Lz) i (lcU (⟨rr, pa, ss.length, kk, cn, e⟩ : Lz) i) j).getD j false)) && ((decide ((lcC (⟨rr, pa, ss.length, kk, cn, e⟩ : Lz) (i + 1)) < 0)) || (decide ((3 * (i : Int)) < ((lcC (⟨rr, pa, ss.length, kk, cn, e⟩ : Lz) (i + 1)) + cn))))))) rfl rfl (fun hc9 => ?_) (fun hc9 => ?_)
     ·skip
      obtain ⟨hf37a, hf37b⟩ := and_t hc9
      exact absurd (((Bool.and_eq_true _ _).mp hc9).2.symm.trans (lc_bad (L := (⟨rr, pa, ss.length, kk, cn, e⟩ : Lz)) hfl hpj (by show j < (pthR rr kk).length; omega) hw0 ((((Bool.or_eq_true _ _).mp ((Bool.and_eq_true _ _).mp hc9).1)).elim (fun h => absurd h (by decide)) (fun h => beq_iff_eq.1 h)))) (by decide)
     refine awp_skip ?_
     refine seqR ?_
     refine mG (.i 0) ?_
     refine op0 ?_
     refine awp_seq ?_
     refine seqR ?_
     refine mG (.i 0) ?_
     refine rU (upd (upd (upd (upd (upd (upd (upd (upd (upd (upd (upd (upd (upd (upd (upd (Z7b e) 8 (.i kk)) 9 (.pt 1 0)) 12 (.q eI (pthR rr kk))) 13 (.sl 5 0 ((pthR rr kk).length))) 14 (.i (lcC (⟨rr, pa, ss.length, kk, cn, e⟩ : Lz) (i + 1)))) 15 (.i (i : Int))) 16 (.sl 7 0 1)) 17 (.i (3 * (i : Int)))) 18 (.q eU8 (stL (e.getD i dAc) ss.length))) 19 (.q eI (owL (e.getD i dAc) pa.length))) 20 (.sl 9 0 1)) 21 (.i (j : Int))) 22 (.b (((1 : Int) == 0) || (((lcP (⟨rr, pa, ss.length, kk, cn, e⟩ : Lz) (i + 1)).getD j 0) == 0)))) 23 (.i 0)) 24 (.i 0)) (updO (updO (updO (updO (updO (updO (updO (updO (updO (updO noOb 1 (.live ⟨[.one, .q eSec ss, .q eIL pa, .q ePnt pp, .q eIL rr, .one, .one, .one, .i cn, .one, .rp [.one, .q eSec ss, .q eIL pa, .q ePnt pp, .one, .one, .one, .one, .one, .one], .sl 2 0 1], 65, 1⟩)) 2 (.live ⟨[.pt 3 0], 69, 1⟩)) 3 (.live ⟨[.i kk, .i 1, .i (lcE (⟨rr, pa, ss.length, kk, cn, e⟩ : Lz) (i + 1)), .sl 4 0 ((lcP (⟨rr, pa, ss.length, kk, cn, e⟩ : Lz) (i + 1)).length)], 47, 1⟩)) 4 (.live ⟨(enc eU8 (lcP (⟨rr, pa, ss.length, kk, cn, e⟩ : Lz) (i + 1))), 5, 1⟩)) 5 (.live ⟨(enc eB (usJ (⟨rr, pa, ss.length, kk, cn, e⟩ : Lz) i (lcU (⟨rr, pa, ss.length, kk, cn, e⟩ : Lz) i) j)), 4, 1⟩)) 6 (.live ⟨[.one, .q eSec ss, .q eIL pa, .q ePnt pp, .q eIL rr, .i (1 + d.speed % (2 * (10 * (1 + d.len % 20)))), .i (1 + d.mute % 1000), .i (1 + d.wait % 1000), .i cn, .i (d.stay % 4)], 33, 1⟩)) 7 (.live ⟨[.i kk, .i 1, .i (lcE (⟨rr, pa, ss.length, kk, cn, e⟩ : Lz) i), .sl 8 0 ((lcP (⟨rr, pa, ss.length, kk, cn, e⟩ : Lz) i).length)], 47, 4⟩)) 8 (.live ⟨(enc eU8 (lcP (⟨rr, pa, ss.length, kk, cn, e⟩ : Lz) i)), 5, 1⟩)) 9 (.live ⟨[.i kk, .i 1, .i (lcE (⟨rr, pa, ss.length, kk, cn, e⟩ : Lz) (i + 1)), .sl 10 0 ((lcP (⟨rr, pa, ss.length, kk, cn, e⟩ : Lz) (i + 1)).length)], 47, 4⟩)) 10 (.live ⟨(enc eU8 (lcP (⟨rr, pa, ss.length, kk, cn, e⟩ : Lz) (i + 1))), 5, 1⟩)) ?_
     refine awp_block ?_
     refine awp_countI (fun q => ⟨(upd (upd (upd (upd (upd (upd (upd (upd (upd (upd (upd (upd (upd (upd (upd (Z7b e) 8 (.i kk)) 9 (.pt 1 0)) 12 (.q eI (pthR rr kk))) 13 (.sl 5 0 ((pthR rr kk).length))) 14 (.i (lcC (⟨rr, pa, ss.length, kk, cn, e⟩ : Lz) (i + 1)))) 15 (.i (i : Int))) 16 (.sl 7 0 1)) 17 (.i (3 * (i : Int)))) 18 (.q eU8 (stL (e.getD i dAc) ss.length))) 19 (.q eI (owL (e.getD i dAc) pa.length))) 20 (.sl 9 0 1)) 21 (.i (j : Int))) 22 (.b (((1 : Int) == 0) || (((lcP (⟨rr, pa, ss.length, kk, cn, e⟩ : Lz) (i + 1)).getD j 0) == 0)))) 23 (.i (lastP pa ((pthR rr kk).getD j 0) q))) 24 (.i (q : Int))), (updO (updO (updO (updO (updO (updO (updO (updO (updO (updO noOb 1 (.live ⟨[.one, .q eSec ss, .q eIL pa, .q ePnt pp, .q eIL rr, .one, .one, .one, .i cn, .one, .rp [.one, .q eSec ss, .q eIL pa, .q ePnt pp, .one, .one, .one, .one, .one, .one], .sl 2 0 1], 65, 1⟩)) 2 (.live ⟨[.pt 3 0], 69, 1⟩)) 3 (.live ⟨[.i kk, .i 1, .i (lcE (⟨rr, pa, ss.length, kk, cn, e⟩ : Lz) (i + 1)), .sl 4 0 ((lcP (⟨rr, pa, ss.length, kk, cn, e⟩ : Lz) (i + 1)).length)], 47, 1⟩)) 4 (.live ⟨(enc eU8 (lcP (⟨rr, pa, ss.length, kk, cn, e⟩ : Lz) (i + 1))), 5, 1⟩)) 5 (.live ⟨(enc eB (usJ (⟨rr, pa, ss.length, kk, cn, e⟩ : Lz) i (lcU (⟨rr, pa, ss.length, kk, cn, e⟩ : Lz) i) j)), 4, 1⟩)) 6 (.live ⟨[.one, .q eSec ss, .q eIL pa, .q ePnt pp, .q eIL rr, .i (1 + d.speed % (2 * (10 * (1 + d.len % 20)))), .i (1 + d.mute % 1000), .i (1 + d.wait % 1000), .i cn, .i (d.stay % 4)], 33, 1⟩)) 7 (.live ⟨[.i kk, .i 1, .i (lcE (⟨rr, pa, ss.length, kk, cn, e⟩ : Lz) i), .sl 8 0 ((lcP (⟨rr, pa, ss.length, kk, cn, e⟩ : Lz) i).length)], 47, 4⟩)) 8 (.live ⟨(enc eU8 (lcP (⟨rr, pa, ss.length, kk, cn, e⟩ : Lz) i)), 5, 1⟩)) 9 (.live ⟨[.i kk, .i 1, .i (lcE (⟨rr, pa, ss.length, kk, cn, e⟩ : Lz) (i + 1)), .sl 10 0 ((lcP (⟨rr, pa, ss.length, kk, cn, e⟩ : Lz) (i + 1)).length)], 47, 4⟩)) 10 (.live ⟨(enc eU8 (lcP (⟨rr, pa, ss.length, kk, cn, e⟩ : Lz) (i + 1))), 5, 1⟩))⟩) (fun q => True) (pa.length) ?_ trivial (fun q hk_q hinv => ?_)
     ·skip
      exact iL [(1, 1), (2, 2), (3, 3), (4, 4), (5, 5), (6, 6), (7, 7), (8, 8), (9, 9), (10, 10)] [((1, 1), .live _), ((2, 2), .live _), ((3, 3), .live _), ((4, 4), .live _), ((5, 5), .live _), ((6, 6), .live _), ((7, 7), .live _), ((8, 8), .live _), ((9, 9), .live _), ((10, 10), .live _)] ⟨row_map (o := ⟨[.one, .q eSec ss, .q eIL pa, .q ePnt pp, .q eIL rr, .one, .one, .one, .i cn, .one, .rp [.one, .q eSec ss, .q eIL pa, .q ePnt pp, .one, .one, .one, .one, .one, .one], .sl 2 0 1], 65, 1⟩) rfl (om_ (lm_cons (am_no (a := .one)) (lm_cons (am_no (a := .q eSec ss)) (lm_cons (am_no (a := .q eIL pa)) (lm_cons (am_no (a := .q ePnt pp)) (lm_cons (am_no (a := .q eIL rr)) (lm_cons (am_no (a := .one)) (lm_cons (am_no (a := .one)) (lm_cons (am_no (a := .one)) (lm_cons (am_no (a := .i cn)) (lm_cons (am_no (a := .one)) (lm_cons (am_no (a := .rp [.one, .q eSec ss, .q eIL pa, .q ePnt pp, .one, .one, .one, .one, .one, .one])) (lm_cons rfl lm_nil))))))))))))) (oks_cons (ok_no (a := .one)) (oks_cons (ok_no (a := .q eSec ss)) (oks_cons (ok_no (a := .q eIL pa)) (oks_cons (ok_no (a := .q ePnt pp)) (oks_cons (ok_no (a := .q eIL rr)) (oks_cons (ok_no (a := .one)) (oks_cons (ok_no (a := .one)) (oks_cons (ok_no (a := .one)) (oks_cons (ok_no (a := .i cn)) (oks_cons (ok_no (a := .one)) (oks_cons (ok_no (a := .rp [.one, .q eSec ss, .q eIL pa, .q ePnt pp, .one, .one, .one, .one, .one, .one])) (oks_cons (.sl _ _ _ (by simp)) oks_nil)))))))))))), row_map (o := ⟨[.pt 3 0], 69, 1⟩) rfl (om_ (lm_cons rfl lm_nil)) (oks_cons (.pt _ _ (by simp)) oks_nil), row_map (o := ⟨[.i kk, .i 1, .i (lcE (⟨rr, pa, ss.length, kk, cn, e⟩ : Lz) (i + 1)), .sl 4 0 ((lcP (⟨rr, pa, ss.length, kk, cn, e⟩ : Lz) (i + 1)).length)], 47, 1⟩) rfl (om_ (lm_cons (am_no (a := .i kk)) (lm_cons (am_no (a := .i 1)) (lm_cons (am_no (a := .i (lcE (⟨rr, pa, ss.length, kk, cn, e⟩ : Lz) (i + 1)))) (lm_cons rfl lm_nil))))) (oks_cons (ok_no (a := .i kk)) (oks_cons (ok_no (a := .i 1)) (oks_cons (ok_no (a := .i (lcE (⟨rr, pa, ss.length, kk, cn, e⟩ : Lz) (i + 1)))) (oks_cons (.sl _ _ _ (by simp)) oks_nil)))), row_no rfl rfl, row_no rfl rfl, row_no rfl rfl, row_map (o := ⟨[.i kk, .i 1, .i (lcE (⟨rr, pa, ss.length, kk, cn, e⟩ : Lz) i), .sl 8 0 ((lcP (⟨rr, pa, ss.length, kk, cn, e⟩ : Lz) i).length)], 47, 4⟩) rfl (om_ (lm_cons (am_no (a := .i kk)) (lm_cons (am_no (a := .i 1)) (lm_cons (am_no (a := .i (lcE (⟨rr, pa, ss.length, kk, cn, e⟩ : Lz) i))) (lm_cons rfl lm_nil))))) (oks_cons (ok_no (a := .i kk)) (oks_cons (ok_no (a := .i 1)) (oks_cons (ok_no (a := .i (lcE (⟨rr, pa, ss.length, kk, cn, e⟩ : Lz) i))) (oks_cons (.sl _ _ _ (by simp)) oks_nil)))), row_no rfl rfl, row_map (o := ⟨[.i kk, .i 1, .i (lcE (⟨rr, pa, ss.length, kk, cn, e⟩ : Lz) (i + 1)), .sl 10 0 ((lcP (⟨rr, pa, ss.length, kk, cn, e⟩ : Lz) (i + 1)).length)], 47, 4⟩) rfl (om_ (lm_cons (am_no (a := .i kk)) (lm_cons (am_no (a := .i 1)) (lm_cons (am_no (a := .i (lcE (⟨rr, pa, ss.length, kk, cn, e⟩ : Lz) (i + 1)))) (lm_cons rfl lm_nil))))) (oks_cons (ok_no (a := .i kk)) (oks_cons (ok_no (a := .i 1)) (oks_cons (ok_no (a := .i (lcE (⟨rr, pa, ss.length, kk, cn, e⟩ : Lz) (i + 1)))) (oks_cons (.sl _ _ _ (by simp)) oks_nil)))), row_no rfl rfl, trivial⟩
     have hlq := lastP_r (parts := pa) (s := (pthR rr kk).getD j 0) q
     refine awp_seq ?_
     refine seqR ?_
     refine mG (.i (q : Int)) ?_
     refine fG (.pt 6 2) ft33_2 sz30 ?_
     refine oG (qL (.q eIL pa) ag30 ?_)
     refine oG (qN ut30 ?_)
     refine bG ((.bool (decide ((q : Int) < (pa.length : Int))))) ?_
     refine rU (upd (upd (upd (upd (upd (upd (upd (upd (upd (upd (upd (upd (upd (upd (upd (upd (Z7b e) 8 (.i kk)) 9 (.pt 1 0)) 12 (.q eI (pthR rr kk))) 13 (.sl 5 0 ((pthR rr kk).length))) 14 (.i (lcC (⟨rr, pa, ss.length, kk, cn, e⟩ : Lz) (i + 1)))) 15 (.i (i : Int))) 16 (.sl 7 0 1)) 17 (.i (3 * (i : Int)))) 18 (.q eU8 (stL (e.getD i dAc) ss.length))) 19 (.q eI (owL (e.getD i dAc) pa.length))) 20 (.sl 9 0 1)) 21 (.i (j : Int))) 22 (.b (((1 : Int) == 0) || (((lcP (⟨rr, pa, ss.length, kk, cn, e⟩ : Lz) (i + 1)).getD j 0) == 0)))) 23 (.i (lastP pa ((pthR rr kk).getD j 0) q))) 24 (.i (q : Int))) 183 (.b (decide ((q : Int) < (pa.length : Int))))) (updO (updO (updO (updO (updO (updO (updO (updO (updO (updO noOb 1 (.live ⟨[.one, .q eSec ss, .q eIL pa, .q ePnt pp, .q eIL rr, .one, .one, .one, .i cn, .one, .rp [.one, .q eSec ss, .q eIL pa, .q ePnt pp, .one, .one, .one, .one, .one, .one], .sl 2 0 1], 65, 1⟩)) 2 (.live ⟨[.pt 3 0], 69, 1⟩)) 3 (.live ⟨[.i kk, .i 1, .i (lcE (⟨rr, pa, ss.length, kk, cn, e⟩ : Lz) (i + 1)), .sl 4 0 ((lcP (⟨rr, pa, ss.length, kk, cn, e⟩ : Lz) (i + 1)).length)], 47, 1⟩)) 4 (.live ⟨(enc eU8 (lcP (⟨rr, pa, ss.length, kk, cn, e⟩ : Lz) (i + 1))), 5, 1⟩)) 5 (.live ⟨(enc eB (usJ (⟨rr, pa, ss.length, kk, cn, e⟩ : Lz) i (lcU (⟨rr, pa, ss.length, kk, cn, e⟩ : Lz) i) j)), 4, 1⟩)) 6 (.live ⟨[.one, .q eSec ss, .q eIL pa, .q ePnt pp, .q eIL rr, .i (1 + d.speed % (2 * (10 * (1 + d.len % 20)))), .i (1 + d.mute % 1000), .i (1 + d.wait % 1000), .i cn, .i (d.stay % 4)], 33, 1⟩)) 7 (.live ⟨[.i kk, .i 1, .i (lcE (⟨rr, pa, ss.length, kk, cn, e⟩ : Lz) i), .sl 8 0 ((lcP (⟨rr, pa, ss.length, kk, cn, e⟩ : Lz) i).length)], 47, 4⟩)) 8 (.live ⟨(enc eU8 (lcP (⟨rr, pa, ss.length, kk, cn, e⟩ : Lz) i)), 5, 1⟩)) 9 (.live ⟨[.i kk, .i 1, .i (lcE (⟨rr, pa, ss.length, kk, cn, e⟩ : Lz) (i + 1)), .sl 10 0 ((lcP (⟨rr, pa, ss.length, kk, cn, e⟩ : Lz) (i + 1)).length)], 47, 4⟩)) 10 (.live ⟨(enc eU8 (lcP (⟨rr, pa, ss.length, kk, cn, e⟩ : Lz) (i + 1))), 5, 1⟩)) ?_
     refine awp_cond (decide ((q : Int) < (pa.length : Int))) rfl rfl (fun hc10 => ?_) (fun hc10 => ?_)
     ·skip
      have hf38 := of_decide_eq_true hc10
      refine awp_skip ?_
      refine awp_seq ?_
      refine awp_block ?_
      refine awp_seq ?_
      refine aD 10 [(195, .b (decide (((pthR rr kk).getD j 0) ∈ (pa.getD q [])))), (194, .i ((pthR rr kk).getD j 0)), (193, .rp (([.i ((pthR rr kk).getD j 0)] : List AV) ++ ((enc eI (pthR rr kk)).drop ((j + 1) * 1)))), (192, .i (j : Int)), (191, .q eI (pthR rr kk)), (190, .q eI (pa.getD q [])), (189, .rp (([.q eI (pa.getD q [])] : List AV) ++ ((enc eIL pa).drop ((q + 1) * 1)))), (188, .i (q : Int)), (187, .q eIL pa), (186, .pt 6 2)] mixed ?_ ?_
      ·refine ⟨?_, ?_, ?_, ?_, ?_, ?_, ?_, ?_, ?_, ?_, trivial⟩
       ·exact sF (.pt 6 0) (.pt 6 2) ft33_2 sz30
       ·exact sL ag30
       ·exact sMv
       ·exact (sIx ([] : List Int) ut30 sz42)
       ·exact (sLd ag42)
       ·exact sMv
       ·exact sMv
       ·exact (sIx (0 : Int) ut42 sz3)
       ·exact (sLd ag3)
       exact dW 195 fun st hob hE => call_ (r01_Has (pa.getD q []) ((pthR rr kk).getD j 0) (by have := hq6 _ (getD_mem (l := pa) (k := q) [] om); omega)) rfl rfl rfl rfl rfl bd18 (by show [st.env 190, st.env 194] ++ _ = _; rw [hE 190 rfl, hE 194 rfl]; rfl) (by rw [hob]; rfl)
      refine op0 ?_
      refine awp_cond (decide (((pthR rr kk).getD j 0) ∈ (pa.getD q []))) rfl rfl (fun hc11 => ?_) (fun hc11 => ?_)
      ·skip
       refine regR ?_
       refine mG (.i (q : Int)) ?_
       refine mG (.i (q : Int)) ?_
       refine op0 ?_
       refine regR ?_
       refine mG (.i (q : Int)) ?_
       refine oG (qB (.int .i64 ((q + 1 : Nat) : Int)) (addN om) ?_)
       refine mG (.i ((q + 1 : Nat) : Int)) ?_
       refine op0 ?_
       show _ ∧ _
       refine ⟨by omega, trivial, ?_⟩
       exact iL [(1, 1), (2, 2), (3, 3), (4, 4), (5, 5), (6, 6), (7, 7), (8, 8), (9, 9), (10, 10)] [((1, 1), .live _), ((2, 2), .live _), ((3, 3), .live _), ((4, 4), .live _), ((5, 5), .live _), ((6, 6), .live _), ((7, 7), .live _), ((8, 8), .live _), ((9, 9), .live _), ((10, 10), .live _)] ⟨row_map (o := ⟨[.one, .q eSec ss, .q eIL pa, .q ePnt pp, .q eIL rr, .one, .one, .one, .i cn, .one, .rp [.one, .q eSec ss, .q eIL pa, .q ePnt pp, .one, .one, .one, .one, .one, .one], .sl 2 0 1], 65, 1⟩) rfl (om_ (lm_cons (am_no (a := .one)) (lm_cons (am_no (a := .q eSec ss)) (lm_cons (am_no (a := .q eIL pa)) (lm_cons (am_no (a := .q ePnt pp)) (lm_cons (am_no (a := .q eIL rr)) (lm_cons (am_no (a := .one)) (lm_cons (am_no (a := .one)) (lm_cons (am_no (a := .one)) (lm_cons (am_no (a := .i cn)) (lm_cons (am_no (a := .one)) (lm_cons (am_no (a := .rp [.one, .q eSec ss, .q eIL pa, .q ePnt pp, .one, .one, .one, .one, .one, .one])) (lm_cons rfl lm_nil))))))))))))) (oks_cons (ok_no (a := .one)) (oks_cons (ok_no (a := .q eSec ss)) (oks_cons (ok_no (a := .q eIL pa)) (oks_cons (ok_no (a := .q ePnt pp)) (oks_cons (ok_no (a := .q eIL rr)) (oks_cons (ok_no (a := .one)) (oks_cons (ok_no (a := .one)) (oks_cons (ok_no (a := .one)) (oks_cons (ok_no (a := .i cn)) (oks_cons (ok_no (a := .one)) (oks_cons (ok_no (a := .rp [.one, .q eSec ss, .q eIL pa, .q ePnt pp, .one, .one, .one, .one, .one, .one])) (oks_cons (.sl _ _ _ (by simp)) oks_nil)))))))))))), row_map (o := ⟨[.pt 3 0], 69, 1⟩) rfl (om_ (lm_cons rfl lm_nil)) (oks_cons (.pt _ _ (by simp)) oks_nil), row_map (o := ⟨[.i kk, .i 1, .i (lcE (⟨rr, pa, ss.length, kk, cn, e⟩ : Lz) (i + 1)), .sl 4 0 ((lcP (⟨rr, pa, ss.length, kk, cn, e⟩ : Lz) (i + 1)).length)], 47, 1⟩) rfl (om_ (lm_cons (am_no (a := .i kk)) (lm_cons (am_no (a := .i 1)) (lm_cons (am_no (a := .i (lcE (⟨rr, pa, ss.length, kk, cn, e⟩ : Lz) (i + 1)))) (lm_cons rfl lm_nil))))) (oks_cons (ok_no (a := .i kk)) (oks_cons (ok_no (a := .i 1)) (oks_cons (ok_no (a := .i (lcE (⟨rr, pa, ss.length, kk, cn, e⟩ : Lz) (i + 1)))) (oks_cons (.sl _ _ _ (by simp)) oks_nil)))), row_no rfl rfl, row_no rfl rfl, row_no rfl rfl, row_map (o := ⟨[.i kk, .i 1, .i (lcE (⟨rr, pa, ss.length, kk, cn, e⟩ : Lz) i), .sl 8 0 ((lcP (⟨rr, pa, ss.length, kk, cn, e⟩ : Lz) i).length)], 47, 4⟩) rfl (om_ (lm_cons (am_no (a := .i kk)) (lm_cons (am_no (a := .i 1)) (lm_cons (am_no (a := .i (lcE (⟨rr, pa, ss.length, kk, cn, e⟩ : Lz) i))) (lm_cons rfl lm_nil))))) (oks_cons (ok_no (a := .i kk)) (oks_cons (ok_no (a := .i 1)) (oks_cons (ok_no (a := .i (lcE (⟨rr, pa, ss.length, kk, cn, e⟩ : Lz) i))) (oks_cons (.sl _ _ _ (by simp)) oks_nil)))), row_no rfl rfl, row_map (o := ⟨[.i kk, .i 1, .i (lcE (⟨rr, pa, ss.length, kk, cn, e⟩ : Lz) (i + 1)), .sl 10 0 ((lcP (⟨rr, pa, ss.length, kk, cn, e⟩ : Lz) (i + 1)).length)], 47, 4⟩) rfl (om_ (lm_cons (am_no (a := .i kk)) (lm_cons (am_no (a := .i 1)) (lm_cons (am_no (a := .i (lcE (⟨rr, pa, ss.length, kk, cn, e⟩ : Lz) (i + 1)))) (lm_cons rfl lm_nil))))) (oks_cons (ok_no (a := .i kk)) (oks_cons (ok_no (a := .i 1)) (oks_cons (ok_no (a := .i (lcE (⟨rr, pa, ss.length, kk, cn, e⟩ : Lz) (i + 1)))) (oks_cons (.sl _ _ _ (by simp)) oks_nil)))), row_no rfl rfl, trivial⟩ (he := (sS rfl (sS (by exact congrArg (fun n_ : Int => AV.v (.int .i64 n_)) (show (q : Int) = lastP pa ((pthR rr kk).getD j 0) (q + 1) from (if_pos (of_decide_eq_true hc11)).symm)) (sS rfl (sS rfl (sM rfl (sS rfl (sS rfl (sS rfl (sM rfl (sS rfl (sS rfl (sM rfl (sS rfl (sM rfl (sS rfl (sM rfl (sS rfl sr_none))))))))))))))))))
      refine awp_skip ?_
      refine regR ?_
      refine mG (.i (q : Int)) ?_
      refine oG (qB (.int .i64 ((q + 1 : Nat) : Int)) (addN om) ?_)
      refine mG (.i ((q + 1 : Nat) : Int)) ?_
      refine op0 ?_
      show _ ∧ _
      refine ⟨by omega, trivial, ?_⟩
      exact iL [(1, 1), (2, 2), (3, 3), (4, 4), (5, 5), (6, 6), (7, 7), (8, 8), (9, 9), (10, 10)] [((1, 1), .live _), ((2, 2), .live _), ((3, 3), .live _), ((4, 4), .live _), ((5, 5), .live _), ((6, 6), .live _), ((7, 7), .live _), ((8, 8), .live _), ((9, 9), .live _), ((10, 10), .live _)] ⟨row_map (o := ⟨[.one, .q eSec ss, .q eIL pa, .q ePnt pp, .q eIL rr, .one, .one, .one, .i cn, .one, .rp [.one, .q eSec ss, .q eIL pa, .q ePnt pp, .one, .one, .one, .one, .one, .one], .sl 2 0 1], 65, 1⟩) rfl (om_ (lm_cons (am_no (a := .one)) (lm_cons (am_no (a := .q eSec ss)) (lm_cons (am_no (a := .q eIL pa)) (lm_cons (am_no (a := .q ePnt pp)) (lm_cons (am_no (a := .q eIL rr)) (lm_cons (am_no (a := .one)) (lm_cons (am_no (a := .one)) (lm_cons (am_no (a := .one)) (lm_cons (am_no (a := .i cn)) (lm_cons (am_no (a := .one)) (lm_cons (am_no (a := .rp [.one, .q eSec ss, .q eIL pa, .q ePnt pp, .one, .one, .one, .one, .one, .one])) (lm_cons rfl lm_nil))))))))))))) (oks_cons (ok_no (a := .one)) (oks_cons (ok_no (a := .q eSec ss)) (oks_cons (ok_no (a := .q eIL pa)) (oks_cons (ok_no (a := .q ePnt pp)) (oks_cons (ok_no (a := .q eIL rr)) (oks_cons (ok_no (a := .one)) (oks_cons (ok_no (a := .one)) (oks_cons (ok_no (a := .one)) (oks_cons (ok_no (a := .i cn)) (oks_cons (ok_no (a := .one)) (oks_cons (ok_no (a := .rp [.one, .q eSec ss, .q eIL pa, .q ePnt pp, .one, .one, .one, .one, .one, .one])) (oks_cons (.sl _ _ _ (by simp)) oks_nil)))))))))))), row_map (o := ⟨[.pt 3 0], 69, 1⟩) rfl (om_ (lm_cons rfl lm_nil)) (oks_cons (.pt _ _ (by simp)) oks_nil), row_map (o := ⟨[.i kk, .i 1, .i (lcE (⟨rr, pa, ss.length, kk, cn, e⟩ : Lz) (i + 1)), .sl 4 0 ((lcP (⟨rr, pa, ss.length, kk, cn, e⟩ : Lz) (i + 1)).length)], 47, 1⟩) rfl (om_ (lm_cons (am_no (a := .i kk)) (lm_cons (am_no (a := .i 1)) (lm_cons (am_no (a := .i (lcE (⟨rr, pa, ss.length, kk, cn, e⟩ : Lz) (i + 1)))) (lm_cons rfl lm_nil))))) (oks_cons (ok_no (a := .i kk)) (oks_cons (ok_no (a := .i 1)) (oks_cons (ok_no (a := .i (lcE (⟨rr, pa, ss.length, kk, cn, e⟩ : Lz) (i + 1)))) (oks_cons (.sl _ _ _ (by simp)) oks_nil)))), row_no rfl rfl, row_no rfl rfl, row_no rfl rfl, row_map (o := ⟨[.i kk, .i 1, .i (lcE (⟨rr, pa, ss.length, kk, cn, e⟩ : Lz) i), .sl 8 0 ((lcP (⟨rr, pa, ss.length, kk, cn, e⟩ : Lz) i).length)], 47, 4⟩) rfl (om_ (lm_cons (am_no (a := .i kk)) (lm_cons (am_no (a := .i 1)) (lm_cons (am_no (a := .i (lcE (⟨rr, pa, ss.length, kk, cn, e⟩ : Lz) i))) (lm_cons rfl lm_nil))))) (oks_cons (ok_no (a := .i kk)) (oks_cons (ok_no (a := .i 1)) (oks_cons (ok_no (a := .i (lcE (⟨rr, pa, ss.length, kk, cn, e⟩ : Lz) i))) (oks_cons (.sl _ _ _ (by simp)) oks_nil)))), row_no rfl rfl, row_map (o := ⟨[.i kk, .i 1, .i (lcE (⟨rr, pa, ss.length, kk, cn, e⟩ : Lz) (i + 1)), .sl 10 0 ((lcP (⟨rr, pa, ss.length, kk, cn, e⟩ : Lz) (i + 1)).length)], 47, 4⟩) rfl (om_ (lm_cons (am_no (a := .i kk)) (lm_cons (am_no (a := .i 1)) (lm_cons (am_no (a := .i (lcE (⟨rr, pa, ss.length, kk, cn, e⟩ : Lz) (i + 1)))) (lm_cons rfl lm_nil))))) (oks_cons (ok_no (a := .i kk)) (oks_cons (ok_no (a := .i 1)) (oks_cons (ok_no (a := .i (lcE (⟨rr, pa, ss.length, kk, cn, e⟩ : Lz) (i + 1)))) (oks_cons (.sl _ _ _ (by simp)) oks_nil)))), row_no rfl rfl, trivial⟩ (he := (sS rfl (sS (by exact congrArg (fun n_ : Int => AV.v (.int .i64 n_)) (show lastP pa ((pthR rr kk).getD j 0) q = lastP pa ((pthR rr kk).getD j 0) (q + 1) from (if_neg (of_decide_eq_false hc11)).symm)) (sS rfl (sS rfl (sM rfl (sS rfl (sS rfl (sS rfl (sM rfl (sS rfl (sS rfl (sM rfl (sS rfl (sM rfl (sS rfl (sM rfl (sS rfl sr_none))))))))))))))))))
     have hf39 := of_decide_eq_false hc10
     have hlqq : lastP pa ((pthR rr kk).getD j 0) q < (pa.length : Int) := by rw [show q = pa.length by omega]; exact hlq_
     refine awp_exit ?_
     refine regR ?_
     refine mG (.sl 5 0 ((pthR rr kk).length)) ?_
     refine mG (.i (j : Int)) ?_
     refine mG (.sl 5 0 ((pthR rr kk).length)) ?_
     refine mG (.i (j : Int)) ?_
     refine oG (aop_ixO (k := j) rfl rfl rfl ut38 sz4 rfl rfl oo ?_)
     refine oG (aop_ldO (f := eB) (l := usJ (⟨rr, pa, ss.length, kk, cn, e⟩ : Lz) i (lcU (⟨rr, pa, ss.length, kk, cn, e⟩ : Lz) i) j) false rfl rfl rfl ag4 rfl rfl rfl (fun _ => rfl) oo rfl ?_)
     refine mG (.b ((usJ (⟨rr, pa, ss.length, kk, cn, e⟩ : Lz) i (lcU (⟨rr, pa, ss.length, kk, cn, e⟩ : Lz) i) j).getD j false)) ?_
     refine aops_grp 16 219 (.b (((usJ (⟨rr, pa, ss.length, kk, cn, e⟩ : Lz) i (lcU (⟨rr, pa, ss.length, kk, cn, e⟩ : Lz) i) j).getD j false) || ((((stL (e.getD i dAc) ss.length).getD ((pthR rr kk).getD j 0).toNat 0) == 1) && (((owL (e.getD i dAc) pa.length).getD (lastP pa ((pthR rr kk).getD j 0) q).toNat 0) == 1)))) ?_ ?_
     ·refine (Bool.eq_false_or_eq_true ((usJ (⟨rr, pa, ss.length, kk, cn, e⟩ : Lz) i (lcU (⟨rr, pa, ss.length, kk, cn, e⟩ : Lz) i) j).getD j false)).elim (fun hg40 => ?_) (fun hg40 => ?_)
      ·skip
       refine nG hg40 ?_
       refine nG hg40 ?_
       refine nG hg40 ?_
       refine nG hg40 ?_
       refine nG hg40 ?_
       refine nG hg40 ?_
       refine nG hg40 ?_
       refine nG hg40 ?_
       refine nG hg40 ?_
       refine opN rfl rfl rfl rfl (by intro h; cases h) rfl rfl ?_
       refine opN rfl rfl rfl rfl (by intro h; cases h) rfl rfl ?_
       refine opN rfl rfl rfl rfl (by intro h; cases h) rfl rfl ?_
       refine opN rfl rfl rfl rfl (by intro h; cases h) rfl rfl ?_
       refine opN rfl rfl rfl rfl (by intro h; cases h) rfl rfl ?_
       refine nG hg40 ?_
       refine oG (qP ((usJ (⟨rr, pa, ss.length, kk, cn, e⟩ : Lz) i (lcU (⟨rr, pa, ss.length, kk, cn, e⟩ : Lz) i) j).getD j false) (.b true) hg40 ?_)
       refine op0 ?_
       exact imp_env (lee_both 219 _ _ (by rw [hg40] <;> rfl) lO)
      refine oY hg40 (qM (.q eU8 (stL (e.getD i dAc) ss.length)) ?_)
      refine oY hg40 (qM (.q eI (pthR rr kk)) ?_)
      refine oY hg40 (qM (.i (j : Int)) ?_)
      refine oY hg40 (qX (0 : Int) ut42 sz3 ?_)
      refine oY hg40 (qL (.i ((pthR rr kk).getD j 0)) ag3 ?_)
      refine oY hg40 (aop_ixI 0 rfl rfl rfl ut37 sz5 rfl rfl (fun _ => rfl) rfl om oo ?_)
      refine oY hg40 (qL (.v (.int .u8 ((stL (e.getD i dAc) ss.length).getD ((pthR rr kk).getD j 0).toNat 0))) ag5 ?_)
      refine oY hg40 (qB (.bool (((stL (e.getD i dAc) ss.length).getD ((pthR rr kk).getD j 0).toNat 0) == 1)) rfl ?_)
      refine oY hg40 (qM (.b (((stL (e.getD i dAc) ss.length).getD ((pthR rr kk).getD j 0).toNat 0) == 1)) ?_)
      refine aops_grp 6 218 (.b ((((stL (e.getD i dAc) ss.length).getD ((pthR rr kk).getD j 0).toNat 0) == 1) && (((owL (e.getD i dAc) pa.length).getD (lastP pa ((pthR rr kk).getD j 0) q).toNat 0) == 1))) ?_ ?_
      ·refine (Bool.eq_false_or_eq_true (((stL (e.getD i dAc) ss.length).getD ((pthR rr kk).getD j 0).toNat 0) == 1)).elim (fun hg41 => ?_) (fun hg41 => ?_)
       ·skip
        have hf42 := (beq_iff_eq).1 hg41
        refine oY hg41 (qM (.q eI (owL (e.getD i dAc) pa.length)) ?_)
        refine oY hg41 (qM (.i (lastP pa ((pthR rr kk).getD j 0) q)) ?_)
        refine oY hg41 (aop_ixI 0 rfl rfl rfl ut42 sz3 rfl rfl (fun _ => rfl) rfl om oo ?_)
        refine oY hg41 (qL (.i ((owL (e.getD i dAc) pa.length).getD (lastP pa ((pthR rr kk).getD j 0) q).toNat 0)) ag3 ?_)
        refine oY hg41 (qB (.bool (((owL (e.getD i dAc) pa.length).getD (lastP pa ((pthR rr kk).getD j 0) q).toNat 0) == 1)) rfl ?_)
        refine oY hg40 (qP (((stL (e.getD i dAc) ss.length).getD ((pthR rr kk).getD j 0).toNat 0) == 1) (.b (((owL (e.getD i dAc) pa.length).getD (lastP pa ((pthR rr kk).getD j 0) q).toNat 0) == 1)) hg41 ?_)
        refine op0 ?_
        exact imp_env (lee_both 218 _ _ (by rw [hg41] <;> rfl) lO)
       have hf43 := (beq_eq_false_iff_ne).1 hg41
       refine nG hg41 ?_
       refine nG hg41 ?_
       refine nG hg41 ?_
       refine nG hg41 ?_
       refine nG hg41 ?_
       refine oY hg40 (qP (((stL (e.getD i dAc) ss.length).getD ((pthR rr kk).getD j 0).toNat 0) == 1) (.b false) hg41 ?_)
       refine op0 ?_
       exact imp_env (lee_both 218 _ _ (by rw [hg41] <;> rfl) lO)
      refine oG (qP ((usJ (⟨rr, pa, ss.length, kk, cn, e⟩ : Lz) i (lcU (⟨rr, pa, ss.length, kk, cn, e⟩ : Lz) i) j).getD j false) (.b ((((stL (e.getD i dAc) ss.length).getD ((pthR rr kk).getD j 0).toNat 0) == 1) && (((owL (e.getD i dAc) pa.length).getD (lastP pa ((pthR rr kk).getD j 0) q).toNat 0) == 1))) hg40 ?_)
      refine op0 ?_
      exact imp_env (lee_both 219 _ _ (by rw [hg40] <;> rfl) lO)
     refine oG (aop_ixO (k := j) rfl rfl rfl ut38 sz4 rfl rfl oo ?_)
     refine oG (aop_storeE (f := eB) (l := usJ (⟨rr, pa, ss.length, kk, cn, e⟩ : Lz) i (lcU (⟨rr, pa, ss.length, kk, cn, e⟩ : Lz) i) j) (l' := (usJ (⟨rr, pa, ss.length, kk, cn, e⟩ : Lz) i (lcU (⟨rr, pa, ss.length, kk, cn, e⟩ : Lz) i) j).set j ((((usJ (⟨rr, pa, ss.length, kk, cn, e⟩ : Lz) i (lcU (⟨rr, pa, ss.length, kk, cn, e⟩ : Lz) i) j).getD j false) || ((((stL (e.getD i dAc) ss.length).getD ((pthR rr kk).getD j 0).toNat 0) == 1) && (((owL (e.getD i dAc) pa.length).getD (lastP pa ((pthR rr kk).getD j 0) q).toNat 0) == 1))) : Bool)) ((((usJ (⟨rr, pa, ss.length, kk, cn, e⟩ : Lz) i (lcU (⟨rr, pa, ss.length, kk, cn, e⟩ : Lz) i) j).getD j false) || ((((stL (e.getD i dAc) ss.length).getD ((pthR rr kk).getD j 0).toNat 0) == 1) && (((owL (e.getD i dAc) pa.length).getD (lastP pa ((pthR rr kk).getD j 0) q).toNat 0) == 1))) : Bool) rfl rfl rfl sz4 rfl rfl rfl rfl rfl (fun _ => rfl) oo rfl rfl ?_)
     refine op0 ?_
     refine rT (upd (upd (upd (upd (upd (upd (upd (upd (upd (upd (upd (upd (upd (upd (upd (Z7b e) 8 (.i kk)) 9 (.pt 1 0)) 12 (.q eI (pthR rr kk))) 13 (.sl 5 0 ((pthR rr kk).length))) 14 (.i (lcC (⟨rr, pa, ss.length, kk, cn, e⟩ : Lz) (i + 1)))) 15 (.i (i : Int))) 16 (.sl 7 0 1)) 17 (.i (3 * (i : Int)))) 18 (.q eU8 (stL (e.getD i dAc) ss.length))) 19 (.q eI (owL (e.getD i dAc) pa.length))) 20 (.sl 9 0 1)) 21 (.i (j : Int))) 22 (.b (((1 : Int) == 0) || (((lcP (⟨rr, pa, ss.length, kk, cn, e⟩ : Lz) (i + 1)).getD j 0) == 0)))) 23 (.i (lastP pa ((pthR rr kk).getD j 0) q))) 24 (.i (q : Int))) (updO (updO (updO (updO (updO (updO (updO (updO (updO (updO (updO noOb 1 (.live ⟨[.one, .q eSec ss, .q eIL pa, .q ePnt pp, .q eIL rr, .one, .one, .one, .i cn, .one, .rp [.one, .q eSec ss, .q eIL pa, .q ePnt pp, .one, .one, .one, .one, .one, .one], .sl 2 0 1], 65, 1⟩)) 2 (.live ⟨[.pt 3 0], 69, 1⟩)) 3 (.live ⟨[.i kk, .i 1, .i (lcE (⟨rr, pa, ss.length, kk, cn, e⟩ : Lz) (i + 1)), .sl 4 0 ((lcP (⟨rr, pa, ss.length, kk, cn, e⟩ : Lz) (i + 1)).length)], 47, 1⟩)) 4 (.live ⟨(enc eU8 (lcP (⟨rr, pa, ss.length, kk, cn, e⟩ : Lz) (i + 1))), 5, 1⟩)) 5 (.live ⟨(enc eB (usJ (⟨rr, pa, ss.length, kk, cn, e⟩ : Lz) i (lcU (⟨rr, pa, ss.length, kk, cn, e⟩ : Lz) i) j)), 4, 1⟩)) 6 (.live ⟨[.one, .q eSec ss, .q eIL pa, .q ePnt pp, .q eIL rr, .i (1 + d.speed % (2 * (10 * (1 + d.len % 20)))), .i (1 + d.mute % 1000), .i (1 + d.wait % 1000), .i cn, .i (d.stay % 4)], 33, 1⟩)) 7 (.live ⟨[.i kk, .i 1, .i (lcE (⟨rr, pa, ss.length, kk, cn, e⟩ : Lz) i), .sl 8 0 ((lcP (⟨rr, pa, ss.length, kk, cn, e⟩ : Lz) i).length)], 47, 4⟩)) 8 (.live ⟨(enc eU8 (lcP (⟨rr, pa, ss.length, kk, cn, e⟩ : Lz) i)), 5, 1⟩)) 9 (.live ⟨[.i kk, .i 1, .i (lcE (⟨rr, pa, ss.length, kk, cn, e⟩ : Lz) (i + 1)), .sl 10 0 ((lcP (⟨rr, pa, ss.length, kk, cn, e⟩ : Lz) (i + 1)).length)], 47, 4⟩)) 10 (.live ⟨(enc eU8 (lcP (⟨rr, pa, ss.length, kk, cn, e⟩ : Lz) (i + 1))), 5, 1⟩)) 5 (.live ⟨(enc eB ((usJ (⟨rr, pa, ss.length, kk, cn, e⟩ : Lz) i (lcU (⟨rr, pa, ss.length, kk, cn, e⟩ : Lz) i) j).set j ((((usJ (⟨rr, pa, ss.length, kk, cn, e⟩ : Lz) i (lcU (⟨rr, pa, ss.length, kk, cn, e⟩ : Lz) i) j).getD j false) || ((((stL (e.getD i dAc) ss.length).getD ((pthR rr kk).getD j 0).toNat 0) == 1) && (((owL (e.getD i dAc) pa.length).getD (lastP pa ((pthR rr kk).getD j 0) q).toNat 0) == 1))) : Bool))), 4, 1⟩)) ?_
     refine regR ?_
     refine mG (.i (j : Int)) ?_
     refine oG (qB (.int .i64 ((j + 1 : Nat) : Int)) (addN om) ?_)
     refine mG (.i ((j + 1 : Nat) : Int)) ?_
     refine op0 ?_
     show _ ∧ _
     have hs_ := us_set (L := (⟨rr, pa, ss.length, kk, cn, e⟩ : Lz)) (us := (lcU (⟨rr, pa, ss.length, kk, cn, e⟩ : Lz) i)) (i := i) (j := j) (u := ((stL (e.getD i dAc) ss.length).getD ((pthR rr kk).getD j 0).toNat 0 == 1 && (owL (e.getD i dAc) pa.length).getD (lastP pa ((pthR rr kk).getD j 0) q).toNat 0 == 1)) hw0 (by rw [show q = pa.length by omega]; rfl)
     refine ⟨by omega, trivial, ?_⟩
     exact iL [(1, 1), (2, 2), (3, 3), (4, 4), (5, 5), (6, 6), (7, 7), (8, 8), (9, 9), (10, 10)] [((1, 1), .live _), ((2, 2), .live _), ((3, 3), .live _), ((4, 4), .live _), ((5, 5), .live _), ((6, 6), .live _), ((7, 7), .live _), ((8, 8), .live _), ((9, 9), .live _), ((10, 10), .live _)] ⟨row_map (o := ⟨[.one, .q eSec ss, .q eIL pa, .q ePnt pp, .q eIL rr, .one, .one, .one, .i cn, .one, .rp [.one, .q eSec ss, .q eIL pa, .q ePnt pp, .one, .one, .one, .one, .one, .one], .sl 2 0 1], 65, 1⟩) rfl (om_ (lm_cons (am_no (a := .one)) (lm_cons (am_no (a := .q eSec ss)) (lm_cons (am_no (a := .q eIL pa)) (lm_cons (am_no (a := .q ePnt pp)) (lm_cons (am_no (a := .q eIL rr)) (lm_cons (am_no (a := .one)) (lm_cons (am_no (a := .one)) (lm_cons (am_no (a := .one)) (lm_cons (am_no (a := .i cn)) (lm_cons (am_no (a := .one)) (lm_cons (am_no (a := .rp [.one, .q eSec ss, .q eIL pa, .q ePnt pp, .one, .one, .one, .one, .one, .one])) (lm_cons rfl lm_nil))))))))))))) (oks_cons (ok_no (a := .one)) (oks_cons (ok_no (a := .q eSec ss)) (oks_cons (ok_no (a := .q eIL pa)) (oks_cons (ok_no (a := .q ePnt pp)) (oks_cons (ok_no (a := .q eIL rr)) (oks_cons (ok_no (a := .one)) (oks_cons (ok_no (a := .one)) (oks_cons (ok_no (a := .one)) (oks_cons (ok_no (a := .i cn)) (oks_cons (ok_no (a := .one)) (oks_cons (ok_no (a := .rp [.one, .q eSec ss, .q eIL pa, .q ePnt pp, .one, .one, .one, .one, .one, .one])) (oks_cons (.sl _ _ _ (by simp)) oks_nil)))))))))))), row_map (o := ⟨[.pt 3 0], 69, 1⟩) rfl (om_ (lm_cons rfl lm_nil)) (oks_cons (.pt _ _ (by simp)) oks_nil), row_map (o := ⟨[.i kk, .i 1, .i (lcE (⟨rr, pa, ss.length, kk, cn, e⟩ : Lz) (i + 1)), .sl 4 0 ((lcP (⟨rr, pa, ss.length, kk, cn, e⟩ : Lz) (i + 1)).length)], 47, 1⟩) rfl (om_ (lm_cons (am_no (a := .i kk)) (lm_cons (am_no (a := .i 1)) (lm_cons (am_no (a := .i (lcE (⟨rr, pa, ss.length, kk, cn, e⟩ : Lz) (i + 1)))) (lm_cons rfl lm_nil))))) (oks_cons (ok_no (a := .i kk)) (oks_cons (ok_no (a := .i 1)) (oks_cons (ok_no (a := .i (lcE (⟨rr, pa, ss.length, kk, cn, e⟩ : Lz) (i + 1)))) (oks_cons (.sl _ _ _ (by simp)) oks_nil)))), row_no rfl rfl, row_no rfl (by exact congrArg (fun l_ => LObj.mk (enc eB l_) 4 1) hs_), row_no rfl rfl, row_map (o := ⟨[.i kk, .i 1, .i (lcE (⟨rr, pa, ss.length, kk, cn, e⟩ : Lz) i), .sl 8 0 ((lcP (⟨rr, pa, ss.length, kk, cn, e⟩ : Lz) i).length)], 47, 4⟩) rfl (om_ (lm_cons (am_no (a := .i kk)) (lm_cons (am_no (a := .i 1)) (lm_cons (am_no (a := .i (lcE (⟨rr, pa, ss.length, kk, cn, e⟩ : Lz) i))) (lm_cons rfl lm_nil))))) (oks_cons (ok_no (a := .i kk)) (oks_cons (ok_no (a := .i 1)) (oks_cons (ok_no (a := .i (lcE (⟨rr, pa, ss.length, kk, cn, e⟩ : Lz) i))) (oks_cons (.sl _ _ _ (by simp)) oks_nil)))), row_no rfl rfl, row_map (o := ⟨[.i kk, .i 1, .i (lcE (⟨rr, pa, ss.length, kk, cn, e⟩ : Lz) (i + 1)), .sl 10 0 ((lcP (⟨rr, pa, ss.length, kk, cn, e⟩ : Lz) (i + 1)).length)], 47, 4⟩) rfl (om_ (lm_cons (am_no (a := .i kk)) (lm_cons (am_no (a := .i 1)) (lm_cons (am_no (a := .i (lcE (⟨rr, pa, ss.length, kk, cn, e⟩ : Lz) (i + 1)))) (lm_cons rfl lm_nil))))) (oks_cons (ok_no (a := .i kk)) (oks_cons (ok_no (a := .i 1)) (oks_cons (ok_no (a := .i (lcE (⟨rr, pa, ss.length, kk, cn, e⟩ : Lz) (i + 1)))) (oks_cons (.sl _ _ _ (by simp)) oks_nil)))), row_no rfl rfl, trivial⟩
    have hf44 := of_decide_eq_false hc7
    refine awp_exit ?_
    refine regR ?_
    refine mG (.i (i : Int)) ?_
    refine oG (qB (.int .i64 ((i + 1 : Nat) : Int)) (addN om) ?_)
    refine mG (.i ((i + 1 : Nat) : Int)) ?_
    refine op0 ?_
    show _ ∧ (_ ∨ _)
    have hu_ : (lcU (⟨rr, pa, ss.length, kk, cn, e⟩ : Lz) (i + 1)) = (usJ (⟨rr, pa, ss.length, kk, cn, e⟩ : Lz) i (lcU (⟨rr, pa, ss.length, kk, cn, e⟩ : Lz) i) j) := by rw [show j = (pthR rr kk).length by omega]; rfl
    refine ⟨by omega, .inl ?_⟩
    exact iL [(1, 1), (2, 2), (3, 3), (4, 4), (5, 5), (6, 6)] [((1, 1), .live _), ((2, 2), .live _), ((3, 3), .live _), ((4, 4), .live _), ((5, 5), .live _), ((6, 6), .live _)] ⟨row_map (o := ⟨[.one, .q eSec ss, .q eIL pa, .q ePnt pp, .q eIL rr, .one, .one, .one, .i cn, .one, .rp [.one, .q eSec ss, .q eIL pa, .q ePnt pp, .one, .one, .one, .one, .one, .one], .sl 2 0 1], 65, 1⟩) rfl (om_ (lm_cons (am_no (a := .one)) (lm_cons (am_no (a := .q eSec ss)) (lm_cons (am_no (a := .q eIL pa)) (lm_cons (am_no (a := .q ePnt pp)) (lm_cons (am_no (a := .q eIL rr)) (lm_cons (am_no (a := .one)) (lm_cons (am_no (a := .one)) (lm_cons (am_no (a := .one)) (lm_cons (am_no (a := .i cn)) (lm_cons (am_no (a := .one)) (lm_cons (am_no (a := .rp [.one, .q eSec ss, .q eIL pa, .q ePnt pp, .one, .one, .one, .one, .one, .one])) (lm_cons rfl lm_nil))))))))))))) (oks_cons (ok_no (a := .one)) (oks_cons (ok_no (a := .q eSec ss)) (oks_cons (ok_no (a := .q eIL pa)) (oks_cons (ok_no (a := .q ePnt pp)) (oks_cons (ok_no (a := .q eIL rr)) (oks_cons (ok_no (a := .one)) (oks_cons (ok_no (a := .one)) (oks_cons (ok_no (a := .one)) (oks_cons (ok_no (a := .i cn)) (oks_cons (ok_no (a := .one)) (oks_cons (ok_no (a := .rp [.one, .q eSec ss, .q eIL pa, .q ePnt pp, .one, .one, .one, .one, .one, .one])) (oks_cons (.sl _ _ _ (by simp)) oks_nil)))))))))))), row_map (o := ⟨[.pt 3 0], 69, 1⟩) rfl (om_ (lm_cons rfl lm_nil)) (oks_cons (.pt _ _ (by simp)) oks_nil), row_map (o := ⟨[.i kk, .i 1, .i (lcE (⟨rr, pa, ss.length, kk, cn, e⟩ : Lz) (i + 1)), .sl 4 0 ((lcP (⟨rr, pa, ss.length, kk, cn, e⟩ : Lz) (i + 1)).length)], 47, 1⟩) rfl (om_ (lm_cons (am_no (a := .i kk)) (lm_cons (am_no (a := .i 1)) (lm_cons (am_no (a := .i (lcE (⟨rr, pa, ss.length, kk, cn, e⟩ : Lz) (i + 1)))) (lm_cons rfl lm_nil))))) (oks_cons (ok_no (a := .i kk)) (oks_cons (ok_no (a := .i 1)) (oks_cons (ok_no (a := .i (lcE (⟨rr, pa, ss.length, kk, cn, e⟩ : Lz) (i + 1)))) (oks_cons (.sl _ _ _ (by simp)) oks_nil)))), row_no rfl rfl, row_no rfl (by exact congrArg (fun l_ => LObj.mk (enc eB l_) 4 1) hu_), row_no rfl rfl, trivial⟩
   refine seqR ?_
   refine mG (.pt 1 0) ?_
   refine mG (.i (3 * (i : Int))) ?_
   refine mG (.q eU8 (stL (e.getD i dAc) ss.length)) ?_
   refine mG (.q eI (owL (e.getD i dAc) pa.length)) ?_
   refine oG (callG_ false [1, 2, 3, 4] [] (r_StepDq ss pa pp rr cn kk 1 (lcE (⟨rr, pa, ss.length, kk, cn, e⟩ : Lz) (i + 1)) (lcP (⟨rr, pa, ss.length, kk, cn, e⟩ : Lz) i) (3 * (i : Int)) (stL (e.getD i dAc) ss.length) (owL (e.getD i dAc) pa.length) (lcP (⟨rr, pa, ss.length, kk, cn, e⟩ : Lz) (i + 1)) om hkr om om om hq6 (by rw [stL_len]; omega) (by rw [owL_len]; omega) (by rw [stL_len]; exact hk3) (by rw [stL_len, owL_len]; exact hq7) rfl hany) rfl rfl rfl rfl rfl bd11 (by decide) ⟨giv_map (o := ⟨[.one, .q eSec ss, .q eIL pa, .q ePnt pp, .q eIL rr, .one, .one, .one, .i cn, .one, .rp [.one, .q eSec ss, .q eIL pa, .q ePnt pp, .one, .one, .one, .one, .one, .one], .sl 2 0 1], 65, 1⟩) rfl (om_ (lm_cons (am_no (a := .one)) (lm_cons (am_no (a := .q eSec ss)) (lm_cons (am_no (a := .q eIL pa)) (lm_cons (am_no (a := .q ePnt pp)) (lm_cons (am_no (a := .q eIL rr)) (lm_cons (am_no (a := .one)) (lm_cons (am_no (a := .one)) (lm_cons (am_no (a := .one)) (lm_cons (am_no (a := .i cn)) (lm_cons (am_no (a := .one)) (lm_cons (am_no (a := .rp [.one, .q eSec ss, .q eIL pa, .q ePnt pp, .one, .one, .one, .one, .one, .one])) (lm_cons rfl lm_nil))))))))))))) (oks_cons (ok_no (a := .one)) (oks_cons (ok_no (a := .q eSec ss)) (oks_cons (ok_no (a := .q eIL pa)) (oks_cons (ok_no (a := .q ePnt pp)) (oks_cons (ok_no (a := .q eIL rr)) (oks_cons (ok_no (a := .one)) (oks_cons (ok_no (a := .one)) (oks_cons (ok_no (a := .one)) (oks_cons (ok_no (a := .i cn)) (oks_cons (ok_no (a := .one)) (oks_cons (ok_no (a := .rp [.one, .q eSec ss, .q eIL pa, .q ePnt pp, .one, .one, .one, .one, .one, .one])) (oks_cons (.sl _ _ _ (by simp)) oks_nil)))))))))))), giv_map (o := ⟨[.pt 3 0], 69, 1⟩) rfl (om_ (lm_cons rfl lm_nil)) (oks_cons (.pt _ _ (by simp)) oks_nil), giv_map (o := ⟨[.i kk, .i 1, .i (lcE (⟨rr, pa, ss.length, kk, cn, e⟩ : Lz) (i + 1)), .sl 4 0 ((lcP (⟨rr, pa, ss.length, kk, cn, e⟩ : Lz) i).length)], 47, 1⟩) rfl (om_ (lm_cons (am_no (a := .i kk)) (lm_cons (am_no (a := .i 1)) (lm_cons (am_no (a := .i (lcE (⟨rr, pa, ss.length, kk, cn, e⟩ : Lz) (i + 1)))) (lm_cons rfl lm_nil))))) (oks_cons (ok_no (a := .i kk)) (oks_cons (ok_no (a := .i 1)) (oks_cons (ok_no (a := .i (lcE (⟨rr, pa, ss.length, kk, cn, e⟩ : Lz) (i + 1)))) (oks_cons (.sl _ _ _ (by simp)) oks_nil)))), giv_no (o := ⟨(enc eU8 (lcP (⟨rr, pa, ss.length, kk, cn, e⟩ : Lz) i)), 5, 1⟩) rfl rfl, trivial⟩ ⟨(arg_own (.pt _ _ (by simp)) rfl), (arg_no (a := .i (3 * (i : Int)))), (arg_no (a := .q eU8 (stL (e.getD i dAc) ss.length))), (arg_no (a := .q eI (owL (e.getD i dAc) pa.length))), trivial⟩ rfl trivial (fun h => by cases h) (am_no (a := .tup [])) (place_cons (ost_map (lm_cons (am_no (a := .one)) (lm_cons (am_no (a := .q eSec ss)) (lm_cons (am_no (a := .q eIL pa)) (lm_cons (am_no (a := .q ePnt pp)) (lm_cons (am_no (a := .q eIL rr)) (lm_cons (am_no (a := .one)) (lm_cons (am_no (a := .one)) (lm_cons (am_no (a := .one)) (lm_cons (am_no (a := .i cn)) (lm_cons (am_no (a := .one)) (lm_cons (am_no (a := .rp [.one, .q eSec ss, .q eIL pa, .q ePnt pp, .one, .one, .one, .one, .one, .one])) (lm_cons rfl lm_nil))))))))))))) (place_cons (ost_no (cs := [.v (.pointer none)])) (place_cons (ost_map (lm_cons (am_no (a := .i kk)) (lm_cons (am_no (a := .i 1)) (lm_cons (am_no (a := .i (lcE (⟨rr, pa, ss.length, kk, cn, e⟩ : Lz) (i + 1)))) (lm_cons rfl lm_nil))))) (place_cons (ost_no (cs := (enc eU8 (lcP (⟨rr, pa, ss.length, kk, cn, e⟩ : Lz) (i + 1))))) place_nil)))) ?_)
   refine rU (upd (upd (upd (upd (upd (upd (upd (upd (upd (upd (Z7b e) 8 (.i kk)) 9 (.pt 1 0)) 12 (.q eI (pthR rr kk))) 13 (.sl 5 0 ((pthR rr kk).length))) 14 (.i (lcC (⟨rr, pa, ss.length, kk, cn, e⟩ : Lz) (i + 1)))) 15 (.i (i : Int))) 16 (.sl 7 0 1)) 17 (.i (3 * (i : Int)))) 18 (.q eU8 (stL (e.getD i dAc) ss.length))) 19 (.q eI (owL (e.getD i dAc) pa.length))) (updO (updO (updO (updO (updO (updO (updO (updO (updO (updO (updO (updO noOb 1 (.live ⟨[.one, .q eSec ss, .q eIL pa, .q ePnt pp, .q eIL rr, .one, .one, .one, .i cn, .one, .rp [.one, .q eSec ss, .q eIL pa, .q ePnt pp, .one, .one, .one, .one, .one, .one], .sl 2 0 1], 65, 1⟩)) 2 (.live ⟨[.pt 3 0], 69, 1⟩)) 3 (.live ⟨[.i kk, .i 1, .i (lcE (⟨rr, pa, ss.length, kk, cn, e⟩ : Lz) (i + 1)), .sl 4 0 ((lcP (⟨rr, pa, ss.length, kk, cn, e⟩ : Lz) i).length)], 47, 1⟩)) 4 (.live ⟨(enc eU8 (lcP (⟨rr, pa, ss.length, kk, cn, e⟩ : Lz) i)), 5, 1⟩)) 5 (.live ⟨(enc eB (lcU (⟨rr, pa, ss.length, kk, cn, e⟩ : Lz) i)), 4, 1⟩)) 6 (.live ⟨[.one, .q eSec ss, .q eIL pa, .q ePnt pp, .q eIL rr, .i (1 + d.speed % (2 * (10 * (1 + d.len % 20)))), .i (1 + d.mute % 1000), .i (1 + d.wait % 1000), .i cn, .i (d.stay % 4)], 33, 1⟩)) 7 (.live ⟨[.i kk, .i 1, .i (lcE (⟨rr, pa, ss.length, kk, cn, e⟩ : Lz) i), .sl 8 0 ((lcP (⟨rr, pa, ss.length, kk, cn, e⟩ : Lz) i).length)], 47, 4⟩)) 8 (.live ⟨(enc eU8 (lcP (⟨rr, pa, ss.length, kk, cn, e⟩ : Lz) i)), 5, 1⟩)) 1 (.live ⟨[.one, .q eSec ss, .q eIL pa, .q ePnt pp, .q eIL rr, .one, .one, .one, .i cn, .one, .rp [.one, .q eSec ss, .q eIL pa, .q ePnt pp, .one, .one, .one, .one, .one, .one], .sl 2 0 0], 65, 1⟩)) 2 (.live Z7c)) 3 (.live ⟨[.i kk, .i 1, .i (lcE (⟨rr, pa, ss.length, kk, cn, e⟩ : Lz) (i + 1)), .sl 4 0 ((lcP (⟨rr, pa, ss.length, kk, cn, e⟩ : Lz) (i + 1)).length)], 47, 1⟩)) 4 (.live ⟨(enc eU8 (lcP (⟨rr, pa, ss.length, kk, cn, e⟩ : Lz) (i + 1))), 5, 1⟩)) ?_
   refine seqR ?_
   refine mG (.pt 1 0) ?_
   refine oG (callL_ (r_Locks0 ()) rfl rfl rfl rfl rfl bd12 (lends_cons (lend_pt rfl (lends_cons (lend_n (av := .one)) (lends_cons (.one _ rfl) (lends_cons (.one _ rfl) (lends_cons (.one _ rfl) (lends_cons (.one _ rfl) (lends_cons (lend_n (av := .one)) (lends_cons (lend_n (av := .one)) (lends_cons (lend_n (av := .one)) (lends_cons (.one _ rfl) (lends_cons (lend_n (av := .one)) (lends_cons (.one _ rfl) (lends_cons (lend_row0 rfl) lends_nil))))))))))))) lends_nil) ?_)
   refine mG vN ?_
   refine op0 ?_
   refine seqR ?_
   refine mG (.i 0) ?_
   refine rU (upd (upd (upd (upd (upd (upd (upd (upd (upd (upd (upd (upd (Z7b e) 8 (.i kk)) 9 (.pt 1 0)) 12 (.q eI (pthR rr kk))) 13 (.sl 5 0 ((pthR rr kk).length))) 14 (.i (lcC (⟨rr, pa, ss.length, kk, cn, e⟩ : Lz) (i + 1)))) 15 (.i (i : Int))) 16 (.sl 7 0 1)) 17 (.i (3 * (i : Int)))) 18 (.q eU8 (stL (e.getD i dAc) ss.length))) 19 (.q eI (owL (e.getD i dAc) pa.length))) 20 vN) 21 (.i 0)) (updO (updO (updO (updO (updO (updO (updO (updO (updO (updO (updO (updO noOb 1 (.live ⟨[.one, .q eSec ss, .q eIL pa, .q ePnt pp, .q eIL rr, .one, .one, .one, .i cn, .one, .rp [.one, .q eSec ss, .q eIL pa, .q ePnt pp, .one, .one, .one, .one, .one, .one], .sl 2 0 1], 65, 1⟩)) 2 (.live ⟨[.pt 3 0], 69, 1⟩)) 3 (.live ⟨[.i kk, .i 1, .i (lcE (⟨rr, pa, ss.length, kk, cn, e⟩ : Lz) (i + 1)), .sl 4 0 ((lcP (⟨rr, pa, ss.length, kk, cn, e⟩ : Lz) i).length)], 47, 1⟩)) 4 (.live ⟨(enc eU8 (lcP (⟨rr, pa, ss.length, kk, cn, e⟩ : Lz) i)), 5, 1⟩)) 5 (.live ⟨(enc eB (lcU (⟨rr, pa, ss.length, kk, cn, e⟩ : Lz) i)), 4, 1⟩)) 6 (.live ⟨[.one, .q eSec ss, .q eIL pa, .q ePnt pp, .q eIL rr, .i (1 + d.speed % (2 * (10 * (1 + d.len % 20)))), .i (1 + d.mute % 1000), .i (1 + d.wait % 1000), .i cn, .i (d.stay % 4)], 33, 1⟩)) 7 (.live ⟨[.i kk, .i 1, .i (lcE (⟨rr, pa, ss.length, kk, cn, e⟩ : Lz) i), .sl 8 0 ((lcP (⟨rr, pa, ss.length, kk, cn, e⟩ : Lz) i).length)], 47, 4⟩)) 8 (.live ⟨(enc eU8 (lcP (⟨rr, pa, ss.length, kk, cn, e⟩ : Lz) i)), 5, 1⟩)) 1 (.live ⟨[.one, .q eSec ss, .q eIL pa, .q ePnt pp, .q eIL rr, .one, .one, .one, .i cn, .one, .rp [.one, .q eSec ss, .q eIL pa, .q ePnt pp, .one, .one, .one, .one, .one, .one], .sl 2 0 0], 65, 1⟩)) 2 (.live Z7c)) 3 (.live ⟨[.i kk, .i 1, .i (lcE (⟨rr, pa, ss.length, kk, cn, e⟩ : Lz) (i + 1)), .sl 4 0 ((lcP (⟨rr, pa, ss.length, kk, cn, e⟩ : Lz) (i + 1)).length)], 47, 1⟩)) 4 (.live ⟨(enc eU8 (lcP (⟨rr, pa, ss.length, kk, cn, e⟩ : Lz) (i + 1))), 5, 1⟩)) ?_
   refine awp_block ?_
   refine awp_countI (fun j => ⟨(upd (upd (upd (upd (upd (upd (upd (upd (upd (upd (upd (upd (Z7b e) 8 (.i kk)) 9 (.pt 1 0)) 12 (.q eI (pthR rr kk))) 13 (.sl 5 0 ((pthR rr kk).length))) 14 (.i (lcC (⟨rr, pa, ss.length, kk, cn, e⟩ : Lz) (i + 1)))) 15 (.i (i : Int))) 16 (.sl 7 0 1)) 17 (.i (3 * (i : Int)))) 18 (.q eU8 (stL (e.getD i dAc) ss.length))) 19 (.q eI (owL (e.getD i dAc) pa.length))) 20 vN) 21 (.i (j : Int))), (updO (updO (updO (updO (updO (updO noOb 1 (.live ⟨[.one, .q eSec ss, .q eIL pa, .q ePnt pp, .q eIL rr, .one, .one, .one, .i cn, .one, .rp [.one, .q eSec ss, .q eIL pa, .q ePnt pp, .one, .one, .one, .one, .one, .one], .sl 2 0 0], 65, 1⟩)) 2 (.live Z7c)) 5 (.live ⟨(enc eB (usJ (⟨rr, pa, ss.length, kk, cn, e⟩ : Lz) i (lcU (⟨rr, pa, ss.length, kk, cn, e⟩ : Lz) i) j)), 4, 1⟩)) 6 (.live ⟨[.one, .q eSec ss, .q eIL pa, .q ePnt pp, .q eIL rr, .i (1 + d.speed % (2 * (10 * (1 + d.len % 20)))), .i (1 + d.mute % 1000), .i (1 + d.wait % 1000), .i cn, .i (d.stay % 4)], 33, 1⟩)) 7 (.live ⟨[.i kk, .i 1, .i (lcE (⟨rr, pa, ss.length, kk, cn, e⟩ : Lz) i), .sl 8 0 ((lcP (⟨rr, pa, ss.length, kk, cn, e⟩ : Lz) i).length)], 47, 4⟩)) 8 (.live ⟨(enc eU8 (lcP (⟨rr, pa, ss.length, kk, cn, e⟩ : Lz) i)), 5, 1⟩))⟩) (fun j => True) ((pthR rr kk).length) ?_ trivial (fun j hk_j hinv => ?_)
   ·skip
    exact iL [(1, 1), (2, 2), (5, 5), (6, 6), (7, 7), (8, 8)] [((1, 1), .live _), ((2, 2), .live _), ((5, 5), .live _), ((6, 6), .live _), ((7, 7), .live _), ((8, 8), .live _)] ⟨row_map (o := ⟨[.one, .q eSec ss, .q eIL pa, .q ePnt pp, .q eIL rr, .one, .one, .one, .i cn, .one, .rp [.one, .q eSec ss, .q eIL pa, .q ePnt pp, .one, .one, .one, .one, .one, .one], .sl 2 0 0], 65, 1⟩) rfl (om_ (lm_cons (am_no (a := .one)) (lm_cons (am_no (a := .q eSec ss)) (lm_cons (am_no (a := .q eIL pa)) (lm_cons (am_no (a := .q ePnt pp)) (lm_cons (am_no (a := .q eIL rr)) (lm_cons (am_no (a := .one)) (lm_cons (am_no (a := .one)) (lm_cons (am_no (a := .one)) (lm_cons (am_no (a := .i cn)) (lm_cons (am_no (a := .one)) (lm_cons (am_no (a := .rp [.one, .q eSec ss, .q eIL pa, .q ePnt pp, .one, .one, .one, .one, .one, .one])) (lm_cons rfl lm_nil))))))))))))) (oks_cons (ok_no (a := .one)) (oks_cons (ok_no (a := .q eSec ss)) (oks_cons (ok_no (a := .q eIL pa)) (oks_cons (ok_no (a := .q ePnt pp)) (oks_cons (ok_no (a := .q eIL rr)) (oks_cons (ok_no (a := .one)) (oks_cons (ok_no (a := .one)) (oks_cons (ok_no (a := .one)) (oks_cons (ok_no (a := .i cn)) (oks_cons (ok_no (a := .one)) (oks_cons (ok_no (a := .rp [.one, .q eSec ss, .q eIL pa, .q ePnt pp, .one, .one, .one, .one, .one, .one])) (oks_cons (.sl _ _ _ (by simp)) oks_nil)))))))))))), row_no rfl rfl, row_no rfl rfl, row_no rfl rfl, row_map (o := ⟨[.i kk, .i 1, .i (lcE (⟨rr, pa, ss.length, kk, cn, e⟩ : Lz) i), .sl 8 0 ((lcP (⟨rr, pa, ss.length, kk, cn, e⟩ : Lz) i).length)], 47, 4⟩) rfl (om_ (lm_cons (am_no (a := .i kk)) (lm_cons (am_no (a := .i 1)) (lm_cons (am_no (a := .i (lcE (⟨rr, pa, ss.length, kk, cn, e⟩ : Lz) i))) (lm_cons rfl lm_nil))))) (oks_cons (ok_no (a := .i kk)) (oks_cons (ok_no (a := .i 1)) (oks_cons (ok_no (a := .i (lcE (⟨rr, pa, ss.length, kk, cn, e⟩ : Lz) i))) (oks_cons (.sl _ _ _ (by simp)) oks_nil)))), row_no rfl rfl, trivial⟩
   have huj := usJ_len (L := (⟨rr, pa, ss.length, kk, cn, e⟩ : Lz)) (us := (lcU (⟨rr, pa, ss.length, kk, cn, e⟩ : Lz) i)) i j
   refine awp_seq ?_
   refine seqR ?_
   refine mG (.i (j : Int)) ?_
   refine mG (.q eI (pthR rr kk)) ?_
   refine oG (qN ut42 ?_)
   refine bG ((.bool (decide ((j : Int) < ((pthR rr kk).length : Int))))) ?_
   refine rU (upd (upd (upd (upd (upd (upd (upd (upd (upd (upd (upd (upd (upd (Z7b e) 8 (.i kk)) 9 (.pt 1 0)) 12 (.q eI (pthR rr kk))) 13 (.sl 5 0 ((pthR rr kk).length))) 14 (.i (lcC (⟨rr, pa, ss.length, kk, cn, e⟩ : Lz) (i + 1)))) 15 (.i (i : Int))) 16 (.sl 7 0 1)) 17 (.i (3 * (i : Int)))) 18 (.q eU8 (stL (e.getD i dAc) ss.length))) 19 (.q eI (owL (e.getD i dAc) pa.length))) 20 vN) 21 (.i (j : Int))) 125 (.b (decide ((j : Int) < ((pthR rr kk).length : Int))))) (updO (updO (updO (updO (updO (updO noOb 1 (.live ⟨[.one, .q eSec ss, .q eIL pa, .q ePnt pp, .q eIL rr, .one, .one, .one, .i cn, .one, .rp [.one, .q eSec ss, .q eIL pa, .q ePnt pp, .one, .one, .one, .one, .one, .one], .sl 2 0 0], 65, 1⟩)) 2 (.live Z7c)) 5 (.live ⟨(enc eB (usJ (⟨rr, pa, ss.length, kk, cn, e⟩ : Lz) i (lcU (⟨rr, pa, ss.length, kk, cn, e⟩ : Lz) i) j)), 4, 1⟩)) 6 (.live ⟨[.one, .q eSec ss, .q eIL pa, .q ePnt pp, .q eIL rr, .i (1 + d.speed % (2 * (10 * (1 + d.len % 20)))), .i (1 + d.mute % 1000), .i (1 + d.wait % 1000), .i cn, .i (d.stay % 4)], 33, 1⟩)) 7 (.live ⟨[.i kk, .i 1, .i (lcE (⟨rr, pa, ss.length, kk, cn, e⟩ : Lz) i), .sl 8 0 ((lcP (⟨rr, pa, ss.length, kk, cn, e⟩ : Lz) i).length)], 47, 4⟩)) 8 (.live ⟨(enc eU8 (lcP (⟨rr, pa, ss.length, kk, cn, e⟩ : Lz) i)), 5, 1⟩)) ?_
   refine awp_cond (decide ((j : Int) < ((pthR rr kk).length : Int))) rfl rfl (fun hc7 => ?_) (fun hc7 => ?_)
   ·skip
    have hf45 := of_decide_eq_true hc7
    have hsj := hk3 _ (getD_mem (l := (pthR rr kk)) (k := j) 0 om)
    have hpij := hq7 _ hsj.1 hsj.2
    refine awp_skip ?_
    refine awp_seq ?_
    refine awp_block ?_
    refine seqR ?_
    refine mG vN ?_
    refine oG (aop_len rfl rfl rfl rfl ut44 (len_nil rfl) ?_)
    refine bG ((.bool true)) ?_
    refine mG (.b true) ?_
    refine opN rfl rfl rfl rfl (by intro h; cases h) rfl rfl ?_
    refine opN rfl rfl rfl rfl (by intro h; cases h) rfl rfl ?_
    refine opN rfl rfl rfl rfl (by intro h; cases h) rfl rfl ?_
    refine opN rfl rfl rfl rfl (by intro h; cases h) rfl rfl ?_
    refine opN rfl rfl rfl rfl (by intro h; cases h) rfl rfl ?_
    refine opN rfl rfl rfl rfl (by intro h; cases h) rfl rfl ?_
    refine opN rfl rfl rfl rfl (by intro h; cases h) rfl rfl ?_
    refine opN rfl rfl rfl rfl (by intro h; cases h) rfl rfl ?_
    refine oG (aop_pick (b := true) (av := .b true) rfl rfl rfl rfl rfl ?_)
    refine mG (.b true) ?_
    refine rU (upd (upd (upd (upd (upd (upd (upd (upd (upd (upd (upd (upd (upd (Z7b e) 8 (.i kk)) 9 (.pt 1 0)) 12 (.q eI (pthR rr kk))) 13 (.sl 5 0 ((pthR rr kk).length))) 14 (.i (lcC (⟨rr, pa, ss.length, kk, cn, e⟩ : Lz) (i + 1)))) 15 (.i (i : Int))) 16 (.sl 7 0 1)) 17 (.i (3 * (i : Int)))) 18 (.q eU8 (stL (e.getD i dAc) ss.length))) 19 (.q eI (owL (e.getD i dAc) pa.length))) 20 vN) 21 (.i (j : Int))) 22 (.b true)) (updO (updO (updO (updO (updO (updO noOb 1 (.live ⟨[.one, .q eSec ss, .q eIL pa, .q ePnt pp, .q eIL rr, .one, .one, .one, .i cn, .one, .rp [.one, .q eSec ss, .q eIL pa, .q ePnt pp, .one, .one, .one, .one, .one, .one], .sl 2 0 0], 65, 1⟩)) 2 (.live Z7c)) 5 (.live ⟨(enc eB (usJ (⟨rr, pa, ss.length, kk, cn, e⟩ : Lz) i (lcU (⟨rr, pa, ss.length, kk, cn, e⟩ : Lz) i) j)), 4, 1⟩)) 6 (.live ⟨[.one, .q eSec ss, .q eIL pa, .q ePnt pp, .q eIL rr, .i (1 + d.speed % (2 * (10 * (1 + d.len % 20)))), .i (1 + d.mute % 1000), .i (1 + d.wait % 1000), .i cn, .i (d.stay % 4)], 33, 1⟩)) 7 (.live ⟨[.i kk, .i 1, .i (lcE (⟨rr, pa, ss.length, kk, cn, e⟩ : Lz) i), .sl 8 0 ((lcP (⟨rr, pa, ss.length, kk, cn, e⟩ : Lz) i).length)], 47, 4⟩)) 8 (.live ⟨(enc eU8 (lcP (⟨rr, pa, ss.length, kk, cn, e⟩ : Lz) i)), 5, 1⟩)) ?_
    refine awp_seq ?_
    refine seqR ?_
    refine mG (.sl 7 0 1) ?_
    refine oG (aop_ixO (k := 0) rfl rfl rfl ut44 sz47 rfl rfl oo ?_)
    refine fG (.pt 7 3) ft47_3 sz37 ?_
    refine oG (qL (.sl 8 0 ((lcP (⟨rr, pa, ss.length, kk, cn, e⟩ : Lz) i).length)) ag37 ?_)
    refine mG (.i (j : Int)) ?_
    refine oG (aop_ixO (k := j) rfl rfl rfl ut37 sz5 rfl rfl oo ?_)
    refine oG (aop_ldO (f := eU8) (l := lcP (⟨rr, pa, ss.length, kk, cn, e⟩ : Lz) i) 0 rfl rfl rfl ag5 rfl rfl rfl (fun _ => rfl) oo rfl ?_)
    refine bG ((.bool (((lcP (⟨rr, pa, ss.length, kk, cn, e⟩ : Lz) i).getD j 0) == 0))) ?_
    refine rU (upd (upd (upd (upd (upd (upd (upd (upd (upd (upd (upd (upd (upd (upd (Z7b e) 8 (.i kk)) 9 (.pt 1 0)) 12 (.q eI (pthR rr kk))) 13 (.sl 5 0 ((pthR rr kk).length))) 14 (.i (lcC (⟨rr, pa, ss.length, kk, cn, e⟩ : Lz) (i + 1)))) 15 (.i (i : Int))) 16 (.sl 7 0 1)) 17 (.i (3 * (i : Int)))) 18 (.q eU8 (stL (e.getD i dAc) ss.length))) 19 (.q eI (owL (e.getD i dAc) pa.length))) 20 vN) 21 (.i (j : Int))) 22 (.b true)) 148 (.b (((lcP (⟨rr, pa, ss.length, kk, cn, e⟩ : Lz) i).getD j 0) == 0))) (updO (updO (updO (updO (updO (updO noOb 1 (.live ⟨[.one, .q eSec ss, .q eIL pa, .q ePnt pp, .q eIL rr, .one, .one, .one, .i cn, .one, .rp [.one, .q eSec ss, .q eIL pa, .q ePnt pp, .one, .one, .one, .one, .one, .one], .sl 2 0 0], 65, 1⟩)) 2 (.live Z7c)) 5 (.live ⟨(enc eB (usJ (⟨rr, pa, ss.length, kk, cn, e⟩ : Lz) i (lcU (⟨rr, pa, ss.length, kk, cn, e⟩ : Lz) i) j)), 4, 1⟩)) 6 (.live ⟨[.one, .q eSec ss, .q eIL pa, .q ePnt pp, .q eIL rr, .i (1 + d.speed % (2 * (10 * (1 + d.len % 20)))), .i (1 + d.mute % 1000), .i (1 + d.wait % 1000), .i cn, .i (d.stay % 4)], 33, 1⟩)) 7 (.live ⟨[.i kk, .i 1, .i (lcE (⟨rr, pa, ss.length, kk, cn, e⟩ : Lz) i), .sl 8 0 ((lcP (⟨rr, pa, ss.length, kk, cn, e⟩ : Lz) i).length)], 47, 4⟩)) 8 (.live ⟨(enc eU8 (lcP (⟨rr, pa, ss.length, kk, cn, e⟩ : Lz) i)), 5, 1⟩)) ?_
    refine awp_cond (((lcP (⟨rr, pa, ss.length, kk, cn, e⟩ : Lz) i).getD j 0) == 0) rfl rfl (fun hc8 => ?_) (fun hc8 => ?_)
    ·skip
     have hf46 := (beq_iff_eq).1 hc8
     have hw0 : (lcP (⟨rr, pa, ss.length, kk, cn, e⟩ : Lz) i).getD j 0 = 0 := (beq_iff_eq).1 hc8
     refine awp_exit ?_
     refine regR ?_
     refine mG (.i (j : Int)) ?_
     refine oG (qB (.int .i64 ((j + 1 : Nat) : Int)) (addN om) ?_)
     refine mG (.i ((j + 1 : Nat) : Int)) ?_
     refine op0 ?_
     show _ ∧ _
     have hs_ : (usJ (⟨rr, pa, ss.length, kk, cn, e⟩ : Lz) i (lcU (⟨rr, pa, ss.length, kk, cn, e⟩ : Lz) i) (j + 1)) = (usJ (⟨rr, pa, ss.length, kk, cn, e⟩ : Lz) i (lcU (⟨rr, pa, ss.length, kk, cn, e⟩ : Lz) i) j) := by show (if _ then _ else _) = _; rw [if_pos hw0]
     refine ⟨by omega, trivial, ?_⟩
     exact iL [(1, 1), (2, 2), (5, 5), (6, 6), (7, 7), (8, 8)] [((1, 1), .live _), ((2, 2), .live _), ((5, 5), .live _), ((6, 6), .live _), ((7, 7), .live _), ((8, 8), .live _)] ⟨row_map (o := ⟨[.one, .q eSec ss, .q eIL pa, .q ePnt pp, .q eIL rr, .one, .one, .one, .i cn, .one, .rp [.one, .q eSec ss, .q eIL pa, .q ePnt pp, .one, .one, .one, .one, .one, .one], .sl 2 0 0], 65, 1⟩) rfl (om_ (lm_cons (am_no (a := .one)) (lm_cons (am_no (a := .q eSec ss)) (lm_cons (am_no (a := .q eIL pa)) (lm_cons (am_no (a := .q ePnt pp)) (lm_cons (am_no (a := .q eIL rr)) (lm_cons (am_no (a := .one)) (lm_cons (am_no (a := .one)) (lm_cons (am_no (a := .one)) (lm_cons (am_no (a := .i cn)) (lm_cons (am_no (a := .one)) (lm_cons (am_no (a := .rp [.one, .q eSec ss, .q eIL pa, .q ePnt pp, .one, .one, .one, .one, .one, .one])) (lm_cons rfl lm_nil))))))))))))) (oks_cons (ok_no (a := .one)) (oks_cons (ok_no (a := .q eSec ss)) (oks_cons (ok_no (a := .q eIL pa)) (oks_cons (ok_no (a := .q ePnt pp)) (oks_cons (ok_no (a := .q eIL rr)) (oks_cons (ok_no (a := .one)) (oks_cons (ok_no (a := .one)) (oks_cons (ok_no (a := .one)) (oks_cons (ok_no (a := .i cn)) (oks_cons (ok_no (a := .one)) (oks_cons (ok_no (a := .rp [.one, .q eSec ss, .q eIL pa, .q ePnt pp, .one, .one, .one, .one, .one, .one])) (oks_cons (.sl _ _ _ (by simp)) oks_nil)))))))))))), row_no rfl rfl, row_no rfl (by exact congrArg (fun l_ => LObj.mk (enc eB l_) 4 1) hs_), row_no rfl rfl, row_map (o := ⟨[.i kk, .i 1, .i (lcE (⟨rr, pa, ss.length, kk, cn, e⟩ : Lz) i), .sl 8 0 ((lcP (⟨rr, pa, ss.length, kk, cn, e⟩ : Lz) i).length)], 47, 4⟩) rfl (om_ (lm_cons (am_no (a := .i kk)) (lm_cons (am_no (a := .i 1)) (lm_cons (am_no (a := .i (lcE (⟨rr, pa, ss.length, kk, cn, e⟩ : Lz) i))) (lm_cons rfl lm_nil))))) (oks_cons (ok_no (a := .i kk)) (oks_cons (ok_no (a := .i 1)) (oks_cons (ok_no (a := .i (lcE (⟨rr, pa, ss.length, kk, cn, e⟩ : Lz) i))) (oks_cons (.sl _ _ _ (by simp)) oks_nil)))), row_no rfl rfl, trivial⟩
    have hf47 := (beq_eq_false_iff_ne).1 hc8
    have hlq_ := lastP_lt (parts := pa) (s := (pthR rr kk).getD j 0) pa.length om
    have hw0 : ¬ (lcP (⟨rr, pa, ss.length, kk, cn, e⟩ : Lz) i).getD j 0 = 0 := (beq_eq_false_iff_ne).1 hc8
    refine awp_skip ?_
    refine awp_seq ?_
    refine seqR ?_
    refine mG (.b true) ?_
    refine mG (.b true) ?_
    refine opY rfl rfl rfl rfl (aop_move (av := .q eU8 (stL (e.getD i dAc) ss.length)) (.inl rfl) rfl rfl rfl ?_)
    refine opY rfl rfl rfl rfl (aop_move (av := .q eI (pthR rr kk)) (.inl rfl) rfl rfl rfl ?_)
    refine opY rfl rfl rfl rfl (aop_move (av := .i (j : Int)) (.inl rfl) rfl rfl rfl ?_)
    refine opY rfl rfl rfl rfl (aop_ixE 0 rfl rfl rfl ut42 sz3 rfl rfl (fun _ => rfl) rfl oo ?_)
    refine opY rfl rfl rfl rfl (aop_ld (av := .i ((pthR rr kk).getD j 0)) rfl rfl rfl ag3 rfl rfl ?_)
    refine opY rfl rfl rfl rfl (aop_ixI 0 rfl rfl rfl ut37 sz5 rfl rfl (fun _ => rfl) rfl om oo ?_)
    refine opY rfl rfl rfl rfl (aop_ld (av := .v (.int .u8 ((stL (e.getD i dAc) ss.length).getD ((pthR rr kk).getD j 0).toNat 0))) rfl rfl rfl ag5 rfl rfl ?_)
    refine opY rfl rfl rfl rfl (aop_binI (u := (.bool (((stL (e.getD i dAc) ss.length).getD ((pthR rr kk).getD j 0).toNat 0) != 0))) rfl rfl rfl rfl rfl trivial rfl ?_)
    refine opY rfl rfl rfl rfl (aop_move (av := .b (((stL (e.getD i dAc) ss.length).getD ((pthR rr kk).getD j 0).toNat 0) != 0)) (.inl rfl) rfl rfl rfl ?_)
    refine aops_grp 18 177 (.b ((((stL (e.getD i dAc) ss.length).getD ((pthR rr kk).getD j 0).toNat 0) != 0) || ((!((usJ (⟨rr, pa, ss.length, kk, cn, e⟩ : Lz) i (lcU (⟨rr, pa, ss.length, kk, cn, e⟩ : Lz) i) j).getD j false)) && ((decide ((lcC (⟨rr, pa, ss.length, kk, cn, e⟩ : Lz) (i + 1)) < 0)) || (decide ((3 * (i : Int)) < ((lcC (⟨rr, pa, ss.length, kk, cn, e⟩ : Lz) (i + 1)) + cn))))))) ?_ ?_
    ·refine (Bool.eq_false_or_eq_true (((stL (e.getD i dAc) ss.length).getD ((pthR rr kk).getD j 0).toNat 0) != 0)).elim (fun hg48 => ?_) (fun hg48 => ?_)
     ·skip
      have hf49 := (bne_iff_ne).1 hg48
      refine nG hg48 ?_
      refine nG hg48 ?_
      refine nG hg48 ?_
      refine nG hg48 ?_
      refine nG hg48 ?_
      refine nG hg48 ?_
      refine opN rfl rfl rfl rfl (by intro h; cases h) rfl rfl ?_
      refine opN rfl rfl rfl rfl (by intro h; cases h) rfl rfl ?_
      refine opN rfl rfl rfl rfl (by intro h; cases h) rfl rfl ?_
      refine opN rfl rfl rfl rfl (by intro h; cases h) rfl rfl ?_
      refine opN rfl rfl rfl rfl (by intro h; cases h) rfl rfl ?_
      refine opN rfl rfl rfl rfl (by intro h; cases h) rfl rfl ?_
      refine opN rfl rfl rfl rfl (by intro h; cases h) rfl rfl ?_
      refine opN rfl rfl rfl rfl (by intro h; cases h) rfl rfl ?_
      refine opN rfl rfl rfl rfl (by intro h; cases h) rfl rfl ?_
      refine opN rfl rfl rfl rfl (by intro h; cases h) rfl rfl ?_
      refine nG hg48 ?_
      refine opY rfl rfl rfl rfl (aop_pick (b := (((stL (e.getD i dAc) ss.length).getD ((pthR rr kk).getD j 0).toNat 0) != 0)) (av := .b true) rfl rfl rfl rfl ((congrArg (fun b_ => cond b_ _ _) hg48).trans rfl) ?_)
      refine op0 ?_
      exact imp_env (lee_both 177 _ _ (by rw [hg48] <;> rfl) lO)
     have hf50 := (bne_eq_false_iff_eq).1 hg48
     refine oY hg48 (qM (.sl 5 0 ((pthR rr kk).length)) ?_)
     refine oY hg48 (qM (.i (j : Int)) ?_)
     refine oY hg48 (aop_ixO (k := j) rfl rfl rfl ut38 sz4 rfl rfl oo ?_)
     refine oY hg48 (aop_ldO (f := eB) (l := usJ (⟨rr, pa, ss.length, kk, cn, e⟩ : Lz) i (lcU (⟨rr, pa, ss.length, kk, cn, e⟩ : Lz) i) j) false rfl rfl rfl ag4 rfl rfl rfl (fun _ => rfl) oo rfl ?_)
     refine oY hg48 (aop_not rfl rfl rfl rfl ?_)
     refine oY hg48 (qM (.b (!((usJ (⟨rr, pa, ss.length, kk, cn, e⟩ : Lz) i (lcU (⟨rr, pa, ss.length, kk, cn, e⟩ : Lz) i) j).getD j false))) ?_)
     refine aops_grp 11 176 (.b ((!((usJ (⟨rr, pa, ss.length, kk, cn, e⟩ : Lz) i (lcU (⟨rr, pa, ss.length, kk, cn, e⟩ : Lz) i) j).getD j false)) && ((decide ((lcC (⟨rr, pa, ss.length, kk, cn, e⟩ : Lz) (i + 1)) < 0)) || (decide ((3 * (i : Int)) < ((lcC (⟨rr, pa, ss.length, kk, cn, e⟩ : Lz) (i + 1)) + cn)))))) ?_ ?_
     ·refine (Bool.eq_false_or_eq_true (!((usJ (⟨rr, pa, ss.length, kk, cn, e⟩ : Lz) i (lcU (⟨rr, pa, ss.length, kk, cn, e⟩ : Lz) i) j).getD j false))).elim (fun hg51 => ?_) (fun hg51 => ?_)
      ·skip
       have hf52 := not_t hg51
       refine oY hg51 (qM (.i (lcC (⟨rr, pa, ss.length, kk, cn, e⟩ : Lz) (i + 1))) ?_)
       refine oY hg51 (qB (.bool (decide ((lcC (⟨rr, pa, ss.length, kk, cn, e⟩ : Lz) (i + 1)) < 0))) rfl ?_)
       refine oY hg51 (qM (.b (decide ((lcC (⟨rr, pa, ss.length, kk, cn, e⟩ : Lz) (i + 1)) < 0))) ?_)
       refine aops_grp 7 175 (.b ((decide ((lcC (⟨rr, pa, ss.length, kk, cn, e⟩ : Lz) (i + 1)) < 0)) || (decide ((3 * (i : Int)) < ((lcC (⟨rr, pa, ss.length, kk, cn, e⟩ : Lz) (i + 1)) + cn))))) ?_ ?_
       ·refine (Bool.eq_false_or_eq_true (decide ((lcC (⟨rr, pa, ss.length, kk, cn, e⟩ : Lz) (i + 1)) < 0))).elim (fun hg53 => ?_) (fun hg53 => ?_)
        ·skip
         have hf54 := of_decide_eq_true hg53
         refine nG hg53 ?_
         refine nG hg53 ?_
         refine nG hg53 ?_
         refine nG hg53 ?_
         refine nG hg53 ?_
         refine nG hg53 ?_
         refine oY hg51 (qP (decide ((lcC (⟨rr, pa, ss.length, kk, cn, e⟩ : Lz) (i + 1)) < 0)) (.b true) hg53 ?_)
         refine op0 ?_
         exact imp_env (lee_both 175 _ _ (by rw [hg53] <;> rfl) lO)
        have hf55 := of_decide_eq_false hg53
        refine oY hg53 (qM (.i (3 * (i : Int))) ?_)
        refine oY hg53 (qM (.i (lcC (⟨rr, pa, ss.length, kk, cn, e⟩ : Lz) (i + 1))) ?_)
        refine oY hg53 (qF (.pt 6 0) (.pt 6 8) ft33_8 sz2 ?_)
        refine oY hg53 (qL (.i cn) ag2 ?_)
        refine oY hg53 (qB (.int .i64 ((lcC (⟨rr, pa, ss.length, kk, cn, e⟩ : Lz) (i + 1)) + cn)) (addI om) ?_)
        refine oY hg53 (qB (.bool (decide ((3 * (i : Int)) < ((lcC (⟨rr, pa, ss.length, kk, cn, e⟩ : Lz) (i + 1)) + cn)))) rfl ?_)
        refine oY hg51 (qP (decide ((lcC (⟨rr, pa, ss.length, kk, cn, e⟩ : Lz) (i + 1)) < 0)) (.b (decide ((3 * (i : Int)) < ((lcC (⟨rr, pa, ss.length, kk, cn, e⟩ : Lz) (i + 1)) + cn)))) hg53 ?_)
        refine op0 ?_
        exact imp_env (lee_both 175 _ _ (by rw [hg53] <;> rfl) lO)
       refine oY hg48 (qP (!((usJ (⟨rr, pa, ss.length, kk, cn, e⟩ : Lz) i (lcU (⟨rr, pa, ss.length, kk, cn, e⟩ : Lz) i) j).getD j false)) (.b ((decide ((lcC (⟨rr, pa, ss.length, kk, cn, e⟩ : Lz) (i + 1)) < 0)) || (decide ((3 * (i : Int)) < ((lcC (⟨rr, pa, ss.length, kk, cn, e⟩ : Lz) (i + 1)) + cn))))) hg51 ?_)
       refine op0 ?_
       exact imp_env (lee_both 176 _ _ (by rw [hg51] <;> rfl) lO)
      have hf56 := not_f hg51
      refine nG hg51 ?_
      refine nG hg51 ?_
      refine nG hg51 ?_
      refine opN rfl rfl rfl rfl (by intro h; cases h) rfl rfl ?_
      refine opN rfl rfl rfl rfl (by intro h; cases h) rfl rfl ?_
      refine opN rfl rfl rfl rfl (by intro h; cases h) rfl rfl ?_
      refine opN rfl rfl rfl rfl (by intro h; cases h) rfl rfl ?_
      refine opN rfl rfl rfl rfl (by intro h; cases h) rfl rfl ?_
      refine opN rfl rfl rfl rfl (by intro h; cases h) rfl rfl ?_
      refine nG hg51 ?_
      refine oY hg48 (qP (!((usJ (⟨rr, pa, ss.length, kk, cn, e⟩ : Lz) i (lcU (⟨rr, pa, ss.length, kk, cn, e⟩ : Lz) i) j).getD j false)) (.b false) hg51 ?_)
      refine op0 ?_
      exact imp_env (lee_both 176 _ _ (by rw [hg51] <;> rfl) lO)
     refine opY rfl rfl rfl rfl (aop_pick (b := (((stL (e.getD i dAc) ss.length).getD ((pthR rr kk).getD j 0).toNat 0) != 0)) (av := .b ((!((usJ (⟨rr, pa, ss.length, kk, cn, e⟩ : Lz) i (lcU (⟨rr, pa, ss.length, kk, cn, e⟩ : Lz) i) j).getD j false)) && ((decide ((lcC (⟨rr, pa, ss.length, kk, cn, e⟩ : Lz) (i + 1)) < 0)) || (decide ((3 * (i : Int)) < ((lcC (⟨rr, pa, ss.length, kk, cn, e⟩ : Lz) (i + 1)) + cn)))))) rfl rfl rfl rfl ((congrArg (fun b_ => cond b_ _ _) hg48).trans rfl) ?_)
     refine op0 ?_
     exact imp_env (lee_both 177 _ _ (by rw [hg48] <;> rfl) lO)
    refine oG (aop_pick (b := true) (av := .b ((((stL (e.getD i dAc) ss.length).getD ((pthR rr kk).getD j 0).toNat 0) != 0) || ((!((usJ (⟨rr, pa, ss.length, kk, cn, e⟩ : Lz) i (lcU (⟨rr, pa, ss.length, kk, cn, e⟩ : Lz) i) j).getD j false)) && ((decide ((lcC (⟨rr, pa, ss.length, kk, cn, e⟩ : Lz) (i + 1)) < 0)) || (decide ((3 * (i : Int)) < ((lcC (⟨rr, pa, ss.length, kk, cn, e⟩ : Lz) (i + 1)) + cn))))))) rfl rfl rfl rfl rfl ?_)
    refine op0 ?_
    refine rT (upd (upd (upd (upd (upd (upd (upd (upd (upd (upd (upd (upd (upd (upd (Z7b e) 8 (.i kk)) 9 (.pt 1 0)) 12 (.q eI (pthR rr kk))) 13 (.sl 5 0 ((pthR rr kk).length))) 14 (.i (lcC (⟨rr, pa, ss.length, kk, cn, e⟩ : Lz) (i + 1)))) 15 (.i (i : Int))) 16 (.sl 7 0 1)) 17 (.i (3 * (i : Int)))) 18 (.q eU8 (stL (e.getD i dAc) ss.length))) 19 (.q eI (owL (e.getD i dAc) pa.length))) 20 vN) 21 (.i (j : Int))) 22 (.b true)) 178 (.b ((((stL (e.getD i dAc) ss.length).getD ((pthR rr kk).getD j 0).toNat 0) != 0) || ((!((usJ (⟨rr, pa, ss.length, kk, cn, e⟩ : Lz) i (lcU (⟨rr, pa, ss.length, kk, cn, e⟩ : Lz) i) j).getD j false)) && ((decide ((lcC (⟨rr, pa, ss.length, kk, cn, e⟩ : Lz) (i + 1)) < 0)) || (decide ((3 * (i : Int)) < ((lcC (⟨rr, pa, ss.length, kk, cn, e⟩ : Lz) (i + 1)) + cn)))))))) (updO (updO (updO (updO (updO (updO noOb 1 (.live ⟨[.one, .q eSec ss, .q eIL pa, .q ePnt pp, .q eIL rr, .one, .one, .one, .i cn, .one, .rp [.one, .q eSec ss, .q eIL pa, .q ePnt pp, .one, .one, .one, .one, .one, .one], .sl 2 0 0], 65, 1⟩)) 2 (.live Z7c)) 5 (.live ⟨(enc eB (usJ (⟨rr, pa, ss.length, kk, cn, e⟩ : Lz) i (lcU (⟨rr, pa, ss.length, kk, cn, e⟩ : Lz) i) j)), 4, 1⟩)) 6 (.live ⟨[.one, .q eSec ss, .q eIL pa, .q ePnt pp, .q eIL rr, .i (1 + d.speed % (2 * (10 * (1 + d.len % 20)))), .i (1 + d.mute % 1000), .i (1 + d.wait % 1000), .i cn, .i (d.stay % 4)], 33, 1⟩)) 7 (.live ⟨[.i kk, .i 1, .i (lcE (⟨rr, pa, ss.length, kk, cn, e⟩ : Lz) i), .sl 8 0 ((lcP (⟨rr, pa, ss.length, kk, cn, e⟩ : Lz) i).length)], 47, 4⟩)) 8 (.live ⟨(enc eU8 (lcP (⟨rr, pa, ss.length, kk, cn, e⟩ : Lz) i)), 5, 1⟩)) ?_
    refine awp_cond ((((stL (e.getD i dAc) ss.length).getD ((pthR rr kk).getD j 0).toNat 0) != 0) || ((!((usJ (⟨rr, pa, ss.length, kk, cn, e⟩ : Lz) i (lcU (⟨rr, pa, ss.length, kk, cn, e⟩ : Lz) i) j).getD j false)) && ((decide ((lcC (⟨rr, pa, ss.length, kk, cn, e⟩ : Lz) (i + 1)) < 0)) || (decide ((3 * (i : Int)) < ((lcC (⟨rr, pa, ss.length, kk, cn, e⟩ : Lz) (i + 1)) + cn)))))) rfl rfl (fun hc9 => ?_) (fun hc9 => ?_)
    ·skip
     exact absurd (hc9.symm.trans (lc_bad (L := (⟨rr, pa, ss.length, kk, cn, e⟩ : Lz)) hfl hpj (by show j < (pthR rr kk).length; omega) hw0 (lc_gone hany))) (by decide)
    obtain ⟨hf57a, hf57b⟩ := or_f hc9
    have hf58 := (bne_eq_false_iff_eq).1 hf57a
    refine awp_skip ?_
    refine seqR ?_
    refine mG (.i 0) ?_
    refine op0 ?_
    refine awp_seq ?_
    refine seqR ?_
    refine mG (.i 0) ?_
    refine op0 ?_
    refine awp_block ?_
    refine awp_countI (fun q => ⟨(upd (upd (upd (upd (upd (upd (upd (upd (upd (upd (upd (upd (upd (upd (upd (Z7b e) 8 (.i kk)) 9 (.pt 1 0)) 12 (.q eI (pthR rr kk))) 13 (.sl 5 0 ((pthR rr kk).length))) 14 (.i (lcC (⟨rr, pa, ss.length, kk, cn, e⟩ : Lz) (i + 1)))) 15 (.i (i : Int))) 16 (.sl 7 0 1)) 17 (.i (3 * (i : Int)))) 18 (.q eU8 (stL (e.getD i dAc) ss.length))) 19 (.q eI (owL (e.getD i dAc) pa.length))) 20 vN) 21 (.i (j : Int))) 22 (.b true)) 23 (.i (lastP pa ((pthR rr kk).getD j 0) q))) 24 (.i (q : Int))), (updO (updO (updO (updO (updO (updO noOb 1 (.live ⟨[.one, .q eSec ss, .q eIL pa, .q ePnt pp, .q eIL rr, .one, .one, .one, .i cn, .one, .rp [.one, .q eSec ss, .q eIL pa, .q ePnt pp, .one, .one, .one, .one, .one, .one], .sl 2 0 0], 65, 1⟩)) 2 (.live Z7c)) 5 (.live ⟨(enc eB (usJ (⟨rr, pa, ss.length, kk, cn, e⟩ : Lz) i (lcU (⟨rr, pa, ss.length, kk, cn, e⟩ : Lz) i) j)), 4, 1⟩)) 6 (.live ⟨[.one, .q eSec ss, .q eIL pa, .q ePnt pp, .q eIL rr, .i (1 + d.speed % (2 * (10 * (1 + d.len % 20)))), .i (1 + d.mute % 1000), .i (1 + d.wait % 1000), .i cn, .i (d.stay % 4)], 33, 1⟩)) 7 (.live ⟨[.i kk, .i 1, .i (lcE (⟨rr, pa, ss.length, kk, cn, e⟩ : Lz) i), .sl 8 0 ((lcP (⟨rr, pa, ss.length, kk, cn, e⟩ : Lz) i).length)], 47, 4⟩)) 8 (.live ⟨(enc eU8 (lcP (⟨rr, pa, ss.length, kk, cn, e⟩ : Lz) i)), 5, 1⟩))⟩) (fun q => True) (pa.length) ?_ trivial (fun q hk_q hinv => ?_)
    ·skip
     exact iL [(1, 1), (2, 2), (5, 5), (6, 6), (7, 7), (8, 8)] [((1, 1), .live _), ((2, 2), .live _), ((5, 5), .live _), ((6, 6), .live _), ((7, 7), .live _), ((8, 8), .live _)] ⟨row_map (o := ⟨[.one, .q eSec ss, .q eIL pa, .q ePnt pp, .q eIL rr, .one, .one, .one, .i cn, .one, .rp [.one, .q eSec ss, .q eIL pa, .q ePnt pp, .one, .one, .one, .one, .one, .one], .sl 2 0 0], 65, 1⟩) rfl (om_ (lm_cons (am_no (a := .one)) (lm_cons (am_no (a := .q eSec ss)) (lm_cons (am_no (a := .q eIL pa)) (lm_cons (am_no (a := .q ePnt pp)) (lm_cons (am_no (a := .q eIL rr)) (lm_cons (am_no (a := .one)) (lm_cons (am_no (a := .one)) (lm_cons (am_no (a := .one)) (lm_cons (am_no (a := .i cn)) (lm_cons (am_no (a := .one)) (lm_cons (am_no (a := .rp [.one, .q eSec ss, .q eIL pa, .q ePnt pp, .one, .one, .one, .one, .one, .one])) (lm_cons rfl lm_nil))))))))))))) (oks_cons (ok_no (a := .one)) (oks_cons (ok_no (a := .q eSec ss)) (oks_cons (ok_no (a := .q eIL pa)) (oks_cons (ok_no (a := .q ePnt pp)) (oks_cons (ok_no (a := .q eIL rr)) (oks_cons (ok_no (a := .one)) (oks_cons (ok_no (a := .one)) (oks_cons (ok_no (a := .one)) (oks_cons (ok_no (a := .i cn)) (oks_cons (ok_no (a := .one)) (oks_cons (ok_no (a := .rp [.one, .q eSec ss, .q eIL pa, .q ePnt pp, .one, .one, .one, .one, .one, .one])) (oks_cons (.sl _ _ _ (by simp)) oks_nil)))))))))))), row_no rfl rfl, row_no rfl rfl, row_no rfl rfl, row_map (o := ⟨[.i kk, .i 1, .i (lcE (⟨rr, pa, ss.length, kk, cn, e⟩ : Lz) i), .sl 8 0 ((lcP (⟨rr, pa, ss.length, kk, cn, e⟩ : Lz) i).length)], 47, 4⟩) rfl (om_ (lm_cons (am_no (a := .i kk)) (lm_cons (am_no (a := .i 1)) (lm_cons (am_no (a := .i (lcE (⟨rr, pa, ss.length, kk, cn, e⟩ : Lz) i))) (lm_cons rfl lm_nil))))) (oks_cons (ok_no (a := .i kk)) (oks_cons (ok_no (a := .i 1)) (oks_cons (ok_no (a := .i (lcE (⟨rr, pa, ss.length, kk, cn, e⟩ : Lz) i))) (oks_cons (.sl _ _ _ (by simp)) oks_nil)))), row_no rfl rfl, trivial⟩
    have hlq := lastP_r (parts := pa) (s := (pthR rr kk).getD j 0) q
    refine awp_seq ?_
    refine seqR ?_
    refine mG (.i (q : Int)) ?_
    refine fG (.pt 6 2) ft33_2 sz30 ?_
    refine oG (qL (.q eIL pa) ag30 ?_)
    refine oG (qN ut30 ?_)
    refine bG ((.bool (decide ((q : Int) < (pa.length : Int))))) ?_
    refine rU (upd (upd (upd (upd (upd (upd (upd (upd (upd (upd (upd (upd (upd (upd (upd (upd (Z7b e) 8 (.i kk)) 9 (.pt 1 0)) 12 (.q eI (pthR rr kk))) 13 (.sl 5 0 ((pthR rr kk).length))) 14 (.i (lcC (⟨rr, pa, ss.length, kk, cn, e⟩ : Lz) (i + 1)))) 15 (.i (i : Int))) 16 (.sl 7 0 1)) 17 (.i (3 * (i : Int)))) 18 (.q eU8 (stL (e.getD i dAc) ss.length))) 19 (.q eI (owL (e.getD i dAc) pa.length))) 20 vN) 21 (.i (j : Int))) 22 (.b true)) 23 (.i (lastP pa ((pthR rr kk).getD j 0) q))) 24 (.i (q : Int))) 183 (.b (decide ((q : Int) < (pa.length : Int))))) (updO (updO (updO (updO (updO (updO noOb 1 (.live ⟨[.one, .q eSec ss, .q eIL pa, .q ePnt pp, .q eIL rr, .one, .one, .one, .i cn, .one, .rp [.one, .q eSec ss, .q eIL pa, .q ePnt pp, .one, .one, .one, .one, .one, .one], .sl 2 0 0], 65, 1⟩)) 2 (.live Z7c)) 5 (.live ⟨(enc eB (usJ (⟨rr, pa, ss.length, kk, cn, e⟩ : Lz) i (lcU (⟨rr, pa, ss.length, kk, cn, e⟩ : Lz) i) j)), 4, 1⟩)) 6 (.live ⟨[.one, .q eSec ss, .q eIL pa, .q ePnt pp, .q eIL rr, .i (1 + d.speed % (2 * (10 * (1 + d.len % 20)))), .i (1 + d.mute % 1000), .i (1 + d.wait % 1000), .i cn, .i (d.stay % 4)], 33, 1⟩)) 7 (.live ⟨[.i kk, .i 1, .i (lcE (⟨rr, pa, ss.length, kk, cn, e⟩ : Lz) i), .sl 8 0 ((lcP (⟨rr, pa, ss.length, kk, cn, e⟩ : Lz) i).length)], 47, 4⟩)) 8 (.live ⟨(enc eU8 (lcP (⟨rr, pa, ss.length, kk, cn, e⟩ : Lz) i)), 5, 1⟩)) ?_
    refine awp_cond (decide ((q : Int) < (pa.length : Int))) rfl rfl (fun hc10 => ?_) (fun hc10 => ?_)
    ·skip
     have hf59 := of_decide_eq_true hc10
     refine awp_skip ?_
     refine awp_seq ?_
     refine awp_block ?_
     refine awp_seq ?_
     refine aD 10 [(195, .b (decide (((pthR rr kk).getD j 0) ∈ (pa.getD q [])))), (194, .i ((pthR rr kk).getD j 0)), (193, .rp (([.i ((pthR rr kk).getD j 0)] : List AV) ++ ((enc eI (pthR rr kk)).drop ((j + 1) * 1)))), (192, .i (j : Int)), (191, .q eI (pthR rr kk)), (190, .q eI (pa.getD q [])), (189, .rp (([.q eI (pa.getD q [])] : List AV) ++ ((enc eIL pa).drop ((q + 1) * 1)))), (188, .i (q : Int)), (187, .q eIL pa), (186, .pt 6 2)] mixed ?_ ?_
     ·refine ⟨?_, ?_, ?_, ?_, ?_, ?_, ?_, ?_, ?_, ?_, trivial⟩
      ·exact sF (.pt 6 0) (.pt 6 2) ft33_2 sz30
      ·exact sL ag30
      ·exact sMv
      ·exact (sIx ([] : List Int) ut30 sz42)
      ·exact (sLd ag42)
      ·exact sMv
      ·exact sMv
      ·exact (sIx (0 : Int) ut42 sz3)
      ·exact (sLd ag3)
      exact dW 195 fun st hob hE => call_ (r01_Has (pa.getD q []) ((pthR rr kk).getD j 0) (by have := hq6 _ (getD_mem (l := pa) (k := q) [] om); omega)) rfl rfl rfl rfl rfl bd18 (by show [st.env 190, st.env 194] ++ _ = _; rw [hE 190 rfl, hE 194 rfl]; rfl) (by rw [hob]; rfl)
     refine op0 ?_
     refine awp_cond (decide (((pthR rr kk).getD j 0) ∈ (pa.getD q []))) rfl rfl (fun hc11 => ?_) (fun hc11 => ?_)
     ·skip
      refine regR ?_
      refine mG (.i (q : Int)) ?_
      refine mG (.i (q : Int)) ?_
      refine op0 ?_
      refine regR ?_
      refine mG (.i (q : Int)) ?_
      refine oG (qB (.int .i64 ((q + 1 : Nat) : Int)) (addN om) ?_)
      refine mG (.i ((q + 1 : Nat) : Int)) ?_
      refine op0 ?_
      show _ ∧ _
      refine ⟨by omega, trivial, ?_⟩
      exact iL [(1, 1), (2, 2), (5, 5), (6, 6), (7, 7), (8, 8)] [((1, 1), .live _), ((2, 2), .live _), ((5, 5), .live _), ((6, 6), .live _), ((7, 7), .live _), ((8, 8), .live _)] ⟨row_map (o := ⟨[.one, .q eSec ss, .q eIL pa, .q ePnt pp, .q eIL rr, .one, .one, .one, .i cn, .one, .rp [.one, .q eSec ss, .q eIL pa, .q ePnt pp, .one, .one, .one, .one, .one, .one], .sl 2 0 0], 65, 1⟩) rfl (om_ (lm_cons (am_no (a := .one)) (lm_cons (am_no (a := .q eSec ss)) (lm_cons (am_no (a := .q eIL pa)) (lm_cons (am_no (a := .q ePnt pp)) (lm_cons (am_no (a := .q eIL rr)) (lm_cons (am_no (a := .one)) (lm_cons (am_no (a := .one)) (lm_cons (am_no (a := .one)) (lm_cons (am_no (a := .i cn)) (lm_cons (am_no (a := .one)) (lm_cons (am_no (a := .rp [.one, .q eSec ss, .q eIL pa, .q ePnt pp, .one, .one, .one, .one, .one, .one])) (lm_cons rfl lm_nil))))))))))))) (oks_cons (ok_no (a := .one)) (oks_cons (ok_no (a := .q eSec ss)) (oks_cons (ok_no (a := .q eIL pa)) (oks_cons (ok_no (a := .q ePnt pp)) (oks_cons (ok_no (a := .q eIL rr)) (oks_cons (ok_no (a := .one)) (oks_cons (ok_no (a := .one)) (oks_cons (ok_no (a := .one)) (oks_cons (ok_no (a := .i cn)) (oks_cons (ok_no (a := .one)) (oks_cons (ok_no (a := .rp [.one, .q eSec ss, .q eIL pa, .q ePnt pp, .one, .one, .one, .one, .one, .one])) (oks_cons (.sl _ _ _ (by simp)) oks_nil)))))))))))), row_no rfl rfl, row_no rfl rfl, row_no rfl rfl, row_map (o := ⟨[.i kk, .i 1, .i (lcE (⟨rr, pa, ss.length, kk, cn, e⟩ : Lz) i), .sl 8 0 ((lcP (⟨rr, pa, ss.length, kk, cn, e⟩ : Lz) i).length)], 47, 4⟩) rfl (om_ (lm_cons (am_no (a := .i kk)) (lm_cons (am_no (a := .i 1)) (lm_cons (am_no (a := .i (lcE (⟨rr, pa, ss.length, kk, cn, e⟩ : Lz) i))) (lm_cons rfl lm_nil))))) (oks_cons (ok_no (a := .i kk)) (oks_cons (ok_no (a := .i 1)) (oks_cons (ok_no (a := .i (lcE (⟨rr, pa, ss.length, kk, cn, e⟩ : Lz) i))) (oks_cons (.sl _ _ _ (by simp)) oks_nil)))), row_no rfl rfl, trivial⟩ (he := (sS rfl (sS (by exact congrArg (fun n_ : Int => AV.v (.int .i64 n_)) (show (q : Int) = lastP pa ((pthR rr kk).getD j 0) (q + 1) from (if_pos (of_decide_eq_true hc11)).symm)) (sS rfl (sS rfl (sS rfl (sS rfl (sS rfl (sS rfl (sM rfl (sS rfl (sS rfl (sM rfl (sS rfl (sM rfl (sS rfl (sM rfl (sS rfl sr_none))))))))))))))))))
     refine awp_skip ?_
     refine regR ?_
     refine mG (.i (q : Int)) ?_
     refine oG (qB (.int .i64 ((q + 1 : Nat) : Int)) (addN om) ?_)
     refine mG (.i ((q + 1 : Nat) : Int)) ?_
     refine op0 ?_
     show _ ∧ _
     refine ⟨by omega, trivial, ?_⟩
     exact iL [(1, 1), (2, 2), (5, 5), (6, 6), (7, 7), (8, 8)] [((1, 1), .live _), ((2, 2), .live _), ((5, 5), .live _), ((6, 6), .live _), ((7, 7), .live _), ((8, 8), .live _)] ⟨row_map (o := ⟨[.one, .q eSec ss, .q eIL pa, .q ePnt pp, .q eIL rr, .one, .one, .one, .i cn, .one, .rp [.one, .q eSec ss, .q eIL pa, .q ePnt pp, .one, .one, .one, .one, .one, .one], .sl 2 0 0], 65, 1⟩) rfl (om_ (lm_cons (am_no (a := .one)) (lm_cons (am_no (a := .q eSec ss)) (lm_cons (am_no (a := .q eIL pa)) (lm_cons (am_no (a := .q ePnt pp)) (lm_cons (am_no (a := .q eIL rr)) (lm_cons (am_no (a := .one)) (lm_cons (am_no (a := .one)) (lm_cons (am_no (a := .one)) (lm_cons (am_no (a := .i cn)) (lm_cons (am_no (a := .one)) (lm_cons (am_no (a := .rp [.one, .q eSec ss, .q eIL pa, .q ePnt pp, .one, .one, .one, .one, .one, .one])) (lm_cons rfl lm_nil))))))))))))) (oks_cons (ok_no (a := .one)) (oks_cons (ok_no (a := .q eSec ss)) (oks_cons (ok_no (a := .q eIL pa)) (oks_cons (ok_no (a := .q ePnt pp)) (oks_cons (ok_no (a := .q eIL rr)) (oks_cons (ok_no (a := .one)) (oks_cons (ok_no (a := .one)) (oks_cons (ok_no (a := .one)) (oks_cons (ok_no (a := .i cn)) (oks_cons (ok_no (a := .one)) (oks_cons (ok_no (a := .rp [.one, .q eSec ss, .q eIL pa, .q ePnt pp, .one, .one, .one, .one, .one, .one])) (oks_cons (.sl _ _ _ (by simp)) oks_nil)))))))))))), row_no rfl rfl, row_no rfl rfl, row_no rfl rfl, row_map (o := ⟨[.i kk, .i 1, .i (lcE (⟨rr, pa, ss.length, kk, cn, e⟩ : Lz) i), .sl 8 0 ((lcP (⟨rr, pa, ss.length, kk, cn, e⟩ : Lz) i).length)], 47, 4⟩) rfl (om_ (lm_cons (am_no (a := .i kk)) (lm_cons (am_no (a := .i 1)) (lm_cons (am_no (a := .i (lcE (⟨rr, pa, ss.length, kk, cn, e⟩ : Lz) i))) (lm_cons rfl lm_nil))))) (oks_cons (ok_no (a := .i kk)) (oks_cons (ok_no (a := .i 1)) (oks_cons (ok_no (a := .i (lcE (⟨rr, pa, ss.length, kk, cn, e⟩ : Lz) i))) (oks_cons (.sl _ _ _ (by simp)) oks_nil)))), row_no rfl rfl, trivial⟩ (he := (sS rfl (sS (by exact congrArg (fun n_ : Int => AV.v (.int .i64 n_)) (show lastP pa ((pthR rr kk).getD j 0) q = lastP pa ((pthR rr kk).getD j 0) (q + 1) from (if_neg (of_decide_eq_false hc11)).symm)) (sS rfl (sS rfl (sS rfl (sS rfl (sS rfl (sS rfl (sM rfl (sS rfl (sS rfl (sM rfl (sS rfl (sM rfl (sS rfl (sM rfl (sS rfl sr_none))))))))))))))))))
    have hf60 := of_decide_eq_false hc10
    have hlqq : lastP pa ((pthR rr kk).getD j 0) q < (pa.length : Int) := by rw [show q = pa.length by omega]; exact hlq_
    refine awp_exit ?_
    refine regR ?_
    refine mG (.sl 5 0 ((pthR rr kk).length)) ?_
    refine mG (.i (j : Int)) ?_
    refine mG (.sl 5 0 ((pthR rr kk).length)) ?_
    refine mG (.i (j : Int)) ?_
    refine oG (aop_ixO (k := j) rfl rfl rfl ut38 sz4 rfl rfl oo ?_)
    refine oG (aop_ldO (f := eB) (l := usJ (⟨rr, pa, ss.length, kk, cn, e⟩ : Lz) i (lcU (⟨rr, pa, ss.length, kk, cn, e⟩ : Lz) i) j) false rfl rfl rfl ag4 rfl rfl rfl (fun _ => rfl) oo rfl ?_)
    refine mG (.b ((usJ (⟨rr, pa, ss.length, kk, cn, e⟩ : Lz) i (lcU (⟨rr, pa, ss.length, kk, cn, e⟩ : Lz) i) j).getD j false)) ?_
    refine aops_grp 16 219 (.b (((usJ (⟨rr, pa, ss.length, kk, cn, e⟩ : Lz) i (lcU (⟨rr, pa, ss.length, kk, cn, e⟩ : Lz) i) j).getD j false) || ((((stL (e.getD i dAc) ss.length).getD ((pthR rr kk).getD j 0).toNat 0) == 1) && (((owL (e.getD i dAc) pa.length).getD (lastP pa ((pthR rr kk).getD j 0) q).toNat 0) == 1)))) ?_ ?_
    ·refine (Bool.eq_false_or_eq_true ((usJ (⟨rr, pa, ss.length, kk, cn, e⟩ : Lz) i (lcU (⟨rr, pa, ss.length, kk, cn, e⟩ : Lz) i) j).getD j false)).elim (fun hg61 => ?_) (fun hg61 => ?_)
     ·skip
      refine nG hg61 ?_
      refine nG hg61 ?_
      refine nG hg61 ?_
      refine nG hg61 ?_
      refine nG hg61 ?_
      refine nG hg61 ?_
      refine nG hg61 ?_
      refine nG hg61 ?_
      refine nG hg61 ?_
      refine opN rfl rfl rfl rfl (by intro h; cases h) rfl rfl ?_
      refine opN rfl rfl rfl rfl (by intro h; cases h) rfl rfl ?_
      refine opN rfl rfl rfl rfl (by intro h; cases h) rfl rfl ?_
      refine opN rfl rfl rfl rfl (by intro h; cases h) rfl rfl ?_
      refine opN rfl rfl rfl rfl (by intro h; cases h) rfl rfl ?_
      refine nG hg61 ?_
      refine oG (qP ((usJ (⟨rr, pa, ss.length, kk, cn, e⟩ : Lz) i (lcU (⟨rr, pa, ss.length, kk, cn, e⟩ : Lz) i) j).getD j false) (.b true) hg61 ?_)
      refine op0 ?_
      exact imp_env (lee_both 219 _ _ (by rw [hg61] <;> rfl) lO)
     refine oY hg61 (qM (.q eU8 (stL (e.getD i dAc) ss.length)) ?_)
     refine oY hg61 (qM (.q eI (pthR rr kk)) ?_)
     refine oY hg61 (qM (.i (j : Int)) ?_)
     refine oY hg61 (qX (0 : Int) ut42 sz3 ?_)
     refine oY hg61 (qL (.i ((pthR rr kk).getD j 0)) ag3 ?_)
     refine oY hg61 (aop_ixI 0 rfl rfl rfl ut37 sz5 rfl rfl (fun _ => rfl) rfl om oo ?_)
     refine oY hg61 (qL (.v (.int .u8 ((stL (e.getD i dAc) ss.length).getD ((pthR rr kk).getD j 0).toNat 0))) ag5 ?_)
     refine oY hg61 (qB (.bool (((stL (e.getD i dAc) ss.length).getD ((pthR rr kk).getD j 0).toNat 0) == 1)) rfl ?_)
     refine oY hg61 (qM (.b (((stL (e.getD i dAc) ss.length).getD ((pthR rr kk).getD j 0).toNat 0) == 1)) ?_)
     refine aops_grp 6 218 (.b ((((stL (e.getD i dAc) ss.length).getD ((pthR rr kk).getD j 0).toNat 0) == 1) && (((owL (e.getD i dAc) pa.length).getD (lastP pa ((pthR rr kk).getD j 0) q).toNat 0) == 1))) ?_ ?_
     ·refine (Bool.eq_false_or_eq_true (((stL (e.getD i dAc) ss.length).getD ((pthR rr kk).getD j 0).toNat 0) == 1)).elim (fun hg62 => ?_) (fun hg62 => ?_)
      ·skip
       have hf63 := (beq_iff_eq).1 hg62
       refine oY hg62 (qM (.q eI (owL (e.getD i dAc) pa.length)) ?_)
       refine oY hg62 (qM (.i (lastP pa ((pthR rr kk).getD j 0) q)) ?_)
       refine oY hg62 (aop_ixI 0 rfl rfl rfl ut42 sz3 rfl rfl (fun _ => rfl) rfl om oo ?_)
       refine oY hg62 (qL (.i ((owL (e.getD i dAc) pa.length).getD (lastP pa ((pthR rr kk).getD j 0) q).toNat 0)) ag3 ?_)
       refine oY hg62 (qB (.bool (((owL (e.getD i dAc) pa.length).getD (lastP pa ((pthR rr kk).getD j 0) q).toNat 0) == 1)) rfl ?_)
       refine oY hg61 (qP (((stL (e.getD i dAc) ss.length).getD ((pthR rr kk).getD j 0).toNat 0) == 1) (.b (((owL (e.getD i dAc) pa.length).getD (lastP pa ((pthR rr kk).getD j 0) q).toNat 0) == 1)) hg62 ?_)
       refine op0 ?_
       exact imp_env (lee_both 218 _ _ (by rw [hg62] <;> rfl) lO)
      have hf64 := (beq_eq_false_iff_ne).1 hg62
      refine nG hg62 ?_
      refine nG hg62 ?_
      refine nG hg62 ?_
      refine nG hg62 ?_
      refine nG hg62 ?_
      refine oY hg61 (qP (((stL (e.getD i dAc) ss.length).getD ((pthR rr kk).getD j 0).toNat 0) == 1) (.b false) hg62 ?_)
      refine op0 ?_
      exact imp_env (lee_both 218 _ _ (by rw [hg62] <;> rfl) lO)
     refine oG (qP ((usJ (⟨rr, pa, ss.length, kk, cn, e⟩ : Lz) i (lcU (⟨rr, pa, ss.length, kk, cn, e⟩ : Lz) i) j).getD j false) (.b ((((stL (e.getD i dAc) ss.length).getD ((pthR rr kk).getD j 0).toNat 0) == 1) && (((owL (e.getD i dAc) pa.length).getD (lastP pa ((pthR rr kk).getD j 0) q).toNat 0) == 1))) hg61 ?_)
     refine op0 ?_
     exact imp_env (lee_both 219 _ _ (by rw [hg61] <;> rfl) lO)
    refine oG (aop_ixO (k := j) rfl rfl rfl ut38 sz4 rfl rfl oo ?_)
    refine oG (aop_storeE (f := eB) (l := usJ (⟨rr, pa, ss.length, kk, cn, e⟩ : Lz) i (lcU (⟨rr, pa, ss.length, kk, cn, e⟩ : Lz) i) j) (l' := (usJ (⟨rr, pa, ss.length, kk, cn, e⟩ : Lz) i (lcU (⟨rr, pa, ss.length, kk, cn, e⟩ : Lz) i) j).set j ((((usJ (⟨rr, pa, ss.length, kk, cn, e⟩ : Lz) i (lcU (⟨rr, pa, ss.length, kk, cn, e⟩ : Lz) i) j).getD j false) || ((((stL (e.getD i dAc) ss.length).getD ((pthR rr kk).getD j 0).toNat 0) == 1) && (((owL (e.getD i dAc) pa.length).getD (lastP pa ((pthR rr kk).getD j 0) q).toNat 0) == 1))) : Bool)) ((((usJ (⟨rr, pa, ss.length, kk, cn, e⟩ : Lz) i (lcU (⟨rr, pa, ss.length, kk, cn, e⟩ : Lz) i) j).getD j false) || ((((stL (e.getD i dAc) ss.length).getD ((pthR rr kk).getD j 0).toNat 0) == 1) && (((owL (e.getD i dAc) pa.length).getD (lastP pa ((pthR rr kk).getD j 0) q).toNat 0) == 1))) : Bool) rfl rfl rfl sz4 rfl rfl rfl rfl rfl (fun _ => rfl) oo rfl rfl ?_)
    refine op0 ?_
    refine rT (upd (upd (upd (upd (upd (upd (upd (upd (upd (upd (upd (upd (upd (upd (upd (Z7b e) 8 (.i kk)) 9 (.pt 1 0)) 12 (.q eI (pthR rr kk))) 13 (.sl 5 0 ((pthR rr kk).length))) 14 (.i (lcC (⟨rr, pa, ss.length, kk, cn, e⟩ : Lz) (i + 1)))) 15 (.i (i : Int))) 16 (.sl 7 0 1)) 17 (.i (3 * (i : Int)))) 18 (.q eU8 (stL (e.getD i dAc) ss.length))) 19 (.q eI (owL (e.getD i dAc) pa.length))) 20 vN) 21 (.i (j : Int))) 22 (.b true)) 23 (.i (lastP pa ((pthR rr kk).getD j 0) q))) 24 (.i (q : Int))) (updO (updO (updO (updO (updO (updO (updO noOb 1 (.live ⟨[.one, .q eSec ss, .q eIL pa, .q ePnt pp, .q eIL rr, .one, .one, .one, .i cn, .one, .rp [.one, .q eSec ss, .q eIL pa, .q ePnt pp, .one, .one, .one, .one, .one, .one], .sl 2 0 0], 65, 1⟩)) 2 (.live Z7c)) 5 (.live ⟨(enc eB (usJ (⟨rr, pa, ss.length, kk, cn, e⟩ : Lz) i (lcU (⟨rr, pa, ss.length, kk, cn, e⟩ : Lz) i) j)), 4, 1⟩)) 6 (.live ⟨[.one, .q eSec ss, .q eIL pa, .q ePnt pp, .q eIL rr, .i (1 + d.speed % (2 * (10 * (1 + d.len % 20)))), .i (1 + d.mute % 1000), .i (1 + d.wait % 1000), .i cn, .i (d.stay % 4)], 33, 1⟩)) 7 (.live ⟨[.i kk, .i 1, .i (lcE (⟨rr, pa, ss.length, kk, cn, e⟩ : Lz) i), .sl 8 0 ((lcP (⟨rr, pa, ss.length, kk, cn, e⟩ : Lz) i).length)], 47, 4⟩)) 8 (.live ⟨(enc eU8 (lcP (⟨rr, pa, ss.length, kk, cn, e⟩ : Lz) i)), 5, 1⟩)) 5 (.live ⟨(enc eB ((usJ (⟨rr, pa, ss.length, kk, cn, e⟩ : Lz) i (lcU (⟨rr, pa, ss.length, kk, cn, e⟩ : Lz) i) j).set j ((((usJ (⟨rr, pa, ss.length, kk, cn, e⟩ : Lz) i (lcU (⟨rr, pa, ss.length, kk, cn, e⟩ : Lz) i) j).getD j false) || ((((stL (e.getD i dAc) ss.length).getD ((pthR rr kk).getD j 0).toNat 0) == 1) && (((owL (e.getD i dAc) pa.length).getD (lastP pa ((pthR rr kk).getD j 0) q).toNat 0) == 1))) : Bool))), 4, 1⟩)) ?_
    refine regR ?_
    refine mG (.i (j : Int)) ?_
    refine oG (qB (.int .i64 ((j + 1 : Nat) : Int)) (addN om) ?_)
    refine mG (.i ((j + 1 : Nat) : Int)) ?_
    refine op0 ?_
    show _ ∧ _
    have hs_ := us_set (L := (⟨rr, pa, ss.length, kk, cn, e⟩ : Lz)) (us := (lcU (⟨rr, pa, ss.length, kk, cn, e⟩ : Lz) i)) (i := i) (j := j) (u := ((stL (e.getD i dAc) ss.length).getD ((pthR rr kk).getD j 0).toNat 0 == 1 && (owL (e.getD i dAc) pa.length).getD (lastP pa ((pthR rr kk).getD j 0) q).toNat 0 == 1)) hw0 (by rw [show q = pa.length by omega]; rfl)
    refine ⟨by omega, trivial, ?_⟩
    exact iL [(1, 1), (2, 2), (5, 5), (6, 6), (7, 7), (8, 8)] [((1, 1), .live _), ((2, 2), .live _), ((5, 5), .live _), ((6, 6), .live _), ((7, 7), .live _), ((8, 8), .live _)] ⟨row_map (o := ⟨[.one, .q eSec ss, .q eIL pa, .q ePnt pp, .q eIL rr, .one, .one, .one, .i cn, .one, .rp [.one, .q eSec ss, .q eIL pa, .q ePnt pp, .one, .one, .one, .one, .one, .one], .sl 2 0 0], 65, 1⟩) rfl (om_ (lm_cons (am_no (a := .one)) (lm_cons (am_no (a := .q eSec ss)) (lm_cons (am_no (a := .q eIL pa)) (lm_cons (am_no (a := .q ePnt pp)) (lm_cons (am_no (a := .q eIL rr)) (lm_cons (am_no (a := .one)) (lm_cons (am_no (a := .one)) (lm_cons (am_no (a := .one)) (lm_cons (am_no (a := .i cn)) (lm_cons (am_no (a := .one)) (lm_cons (am_no (a := .rp [.one, .q eSec ss, .q eIL pa, .q ePnt pp, .one, .one, .one, .one, .one, .one])) (lm_cons rfl lm_nil))))))))))))) (oks_cons (ok_no (a := .one)) (oks_cons (ok_no (a := .q eSec ss)) (oks_cons (ok_no (a := .q eIL pa)) (oks_cons (ok_no (a := .q ePnt pp)) (oks_cons (ok_no (a := .q eIL rr)) (oks_cons (ok_no (a := .one)) (oks_cons (ok_no (a := .one)) (oks_cons (ok_no (a := .one)) (oks_cons (ok_no (a := .i cn)) (oks_cons (ok_no (a := .one)) (oks_cons (ok_no (a := .rp [.one, .q eSec ss, .q eIL pa, .q ePnt pp, .one, .one, .one, .one, .one, .one])) (oks_cons (.sl _ _ _ (by simp)) oks_nil)))))))))))), row_no rfl rfl, row_no rfl (by exact congrArg (fun l_ => LObj.mk (enc eB l_) 4 1) hs_), row_no rfl rfl, row_map (o := ⟨[.i kk, .i 1, .i (lcE (⟨rr, pa, ss.length, kk, cn, e⟩ : Lz) i), .sl 8 0 ((lcP (⟨rr, pa, ss.length, kk, cn, e⟩ : Lz) i).length)], 47, 4⟩) rfl (om_ (lm_cons (am_no (a := .i kk)) (lm_cons (am_no (a := .i 1)) (lm_cons (am_no (a := .i (lcE (⟨rr, pa, ss.length, kk, cn, e⟩ : Lz) i))) (lm_cons rfl lm_nil))))) (oks_cons (ok_no (a := .i kk)) (oks_cons (ok_no (a := .i 1)) (oks_cons (ok_no (a := .i (lcE (⟨rr, pa, ss.length, kk, cn, e⟩ : Lz) i))) (oks_cons (.sl _ _ _ (by simp)) oks_nil)))), row_no rfl rfl, trivial⟩
   have hf65 := of_decide_eq_false hc7
   refine awp_exit ?_
   refine regR ?_
   refine mG (.i (i : Int)) ?_
   refine oG (qB (.int .i64 ((i + 1 : Nat) : Int)) (addN om) ?_)
   refine mG (.i ((i + 1 : Nat) : Int)) ?_
   refine op0 ?_
   show _ ∧ (_ ∨ _)
   refine ⟨by omega, .inr ?_⟩
   exact iL [(1, 1), (2, 2)] [((1, 1), .live _), ((2, 2), .live _)] ⟨row_map (o := ⟨[.one, .q eSec ss, .q eIL pa, .q ePnt pp, .q eIL rr, .one, .one, .one, .i cn, .one, .rp [.one, .q eSec ss, .q eIL pa, .q ePnt pp, .one, .one, .one, .one, .one, .one], .sl 2 0 0], 65, 1⟩) rfl (om_ (lm_cons (am_no (a := .one)) (lm_cons (am_no (a := .q eSec ss)) (lm_cons (am_no (a := .q eIL pa)) (lm_cons (am_no (a := .q ePnt pp)) (lm_cons (am_no (a := .q eIL rr)) (lm_cons (am_no (a := .one)) (lm_cons (am_no (a := .one)) (lm_cons (am_no (a := .one)) (lm_cons (am_no (a := .i cn)) (lm_cons (am_no (a := .one)) (lm_cons (am_no (a := .rp [.one, .q eSec ss, .q eIL pa, .q ePnt pp, .one, .one, .one, .one, .one, .one])) (lm_cons rfl lm_nil))))))))))))) (oks_cons (ok_no (a := .one)) (oks_cons (ok_no (a := .q eSec ss)) (oks_cons (ok_no (a := .q eIL pa)) (oks_cons (ok_no (a := .q ePnt pp)) (oks_cons (ok_no (a := .q eIL rr)) (oks_cons (ok_no (a := .one)) (oks_cons (ok_no (a := .one)) (oks_cons (ok_no (a := .one)) (oks_cons (ok_no (a := .i cn)) (oks_cons (ok_no (a := .one)) (oks_cons (ok_no (a := .rp [.one, .q eSec ss, .q eIL pa, .q ePnt pp, .one, .one, .one, .one, .one, .one])) (oks_cons (.sl _ _ _ (by simp)) oks_nil)))))))))))), row_no rfl rfl, trivial⟩
  have hf66 := of_decide_eq_false hc3
  refine awp_exit ?_
  refine seqR ?_
  refine mG (.b true) ?_
  refine op0 ?_
  refine awp_ret ?_
  exact fret (av := .v (.bool true)) rfl rfl rfl
 refine awp_seq ?_
 refine seqR ?_
 refine mG (.i (i : Int)) ?_
 refine mG (.q eAc e) ?_
 refine oG (qN ut50 ?_)
 refine bG ((.bool (decide ((i : Int) < (e.length : Int))))) ?_
 refine rU (upd (upd (Z7g e) 15 (.i (i : Int))) 76 (.b (decide ((i : Int) < (e.length : Int))))) (updO (updO noOb 1 (.live ⟨[.one, .q eSec ss, .q eIL pa, .q ePnt pp, .q eIL rr, .one, .one, .one, .i cn, .one, .rp [.one, .q eSec ss, .q eIL pa, .q ePnt pp, .one, .one, .one, .one, .one, .one], .sl 2 0 0], 65, 1⟩)) 2 (.live Z7c)) ?_
 refine awp_cond (decide ((i : Int) < (e.length : Int))) rfl rfl (fun hc3 => ?_) (fun hc3 => ?_)
 ·skip
  have hf67 := of_decide_eq_true hc3
  have hxi := g _ (getD_mem (l := e) (k := i) dAc om)
  have hxd := hxi.dw
  have hsl_ := stL_len (x := (e.getD i dAc)) (k := ss.length)
  have hol_ := owL_len (x := (e.getD i dAc)) (k := pa.length)
  refine awp_skip ?_
  refine awp_seq ?_
  refine awp_block ?_
  refine seqR ?_
  refine mG (.pt 1 0) ?_
  refine oG (callL_ (r_Locks0 ()) rfl rfl rfl rfl rfl bd12 (lends_cons (lend_pt rfl (lends_cons (lend_n (av := .one)) (lends_cons (.one _ rfl) (lends_cons (.one _ rfl) (lends_cons (.one _ rfl) (lends_cons (.one _ rfl) (lends_cons (lend_n (av := .one)) (lends_cons (lend_n (av := .one)) (lends_cons (lend_n (av := .one)) (lends_cons (.one _ rfl) (lends_cons (lend_n (av := .one)) (lends_cons (.one _ rfl) (lends_cons (lend_row0 rfl) lends_nil))))))))))))) lends_nil) ?_)
  refine mG vN ?_
  refine op0 ?_
  refine awp_seq ?_
  refine seqR ?_
  refine mG vN ?_
  refine oG (aop_len rfl rfl rfl rfl ut44 (len_nil rfl) ?_)
  refine bG ((.bool true)) ?_
  refine rU (upd (upd (upd (Z7g e) 15 (.i (i : Int))) 16 vN) 83 (.b true)) (updO (updO noOb 1 (.live ⟨[.one, .q eSec ss, .q eIL pa, .q ePnt pp, .q eIL rr, .one, .one, .one, .i cn, .one, .rp [.one, .q eSec ss, .q eIL pa, .q ePnt pp, .one, .one, .one, .one, .one, .one], .sl 2 0 0], 65, 1⟩)) 2 (.live Z7c)) ?_
  refine awp_cond true rfl rfl (fun _ => ?_) (fun h => by cases h)
  refine seqR ?_
  refine mG (.b true) ?_
  refine op0 ?_
  refine awp_ret ?_
  exact fret (av := .v (.bool true)) rfl rfl rfl
 have hf68 := of_decide_eq_false hc3
 refine awp_exit ?_
 refine seqR ?_
 refine mG (.b true) ?_
 refine op0 ?_
 refine awp_ret ?_
 exact fret (av := .v (.bool true)) rfl rfl rfl
end Go.Lo
