/- Walks of Go functions in the logic of values: what the law reaches. -/
import Derived.Test.YtdeajfldegcdaaaPFnLs3
set_option linter.unusedVariables false
set_option linter.unusedSimpArgs false
set_option maxRecDepth 10000
set_option maxHeartbeats 16000000
namespace Go.Lo
open Go.Proofs
abbrev Z6e (r tr en : Int) (ps : List Int) : Nat → OSt := (updO (updO noOb 1 (.live ⟨[.i r, .i tr, .i en, .sl 2 0 ps.length], 47, 4⟩)) 2 (.live ⟨(enc eU8 ps), 5, 1⟩))
abbrev Z6c : Nat → AV := (upd (upd none_ 2 vN) 3 vN)
abbrev Z66 (r tr en : Int) (ps : List Int) : Lk := (⟨r, tr, en, ps⟩ : Lk)
abbrev Z6a (r tr en : Int) (ps : List Int) : AV := (.ro 1 (enc eLp ([(Z66 r tr en ps)] : List Lk)))
abbrev Z69 (r tr en : Int) (ps : List Int) : AV := (.rp [.one, .one, .one, .one, .one, .one, .one, .one, .one, .one, .one, .ro 1 (enc eLp ([(Z66 r tr en ps)] : List Lk))])
abbrev Z68 (r tr en : Int) (ps : List Int) : List AV := [.i ((([(Z66 r tr en ps)] : List Lk).getD 0 dLk).route), .i ((([(Z66 r tr en ps)] : List Lk).getD 0 dLk).train), .i ((([(Z66 r tr en ps)] : List Lk).getD 0 dLk).ends), .sl 51 0 ps.length]
abbrev Z67 (r tr en : Int) (ps : List Int) : List AV := (enc eU8 ((([(Z66 r tr en ps)] : List Lk).getD 0 dLk).pieces))
abbrev Z65 (r tr en : Int) (ps : List Int) : List AV := [.i ((([(Z66 r tr en ps)] : List Lk).getD 0 dLk).route), .i ((([(Z66 r tr en ps)] : List Lk).getD 0 dLk).train), .i ((([(Z66 r tr en ps)] : List Lk).getD 0 dLk).ends), .ro ((([(Z66 r tr en ps)] : List Lk).getD 0 dLk).pieces.length) (Z67 r tr en ps)]
abbrev Z6d (r tr en : Int) (ps : List Int) : List AV := [.i ((([(Z66 r tr en ps)] : List Lk).getD 0 dLk).ends), .ro ((([(Z66 r tr en ps)] : List Lk).getD 0 dLk).pieces.length) (Z67 r tr en ps)]
abbrev Z6b (r tr en : Int) (ps : List Int) : List AV := [.i ((([(Z66 r tr en ps)] : List Lk).getD 0 dLk).train), .i ((([(Z66 r tr en ps)] : List Lk).getD 0 dLk).ends), .ro ((([(Z66 r tr en ps)] : List Lk).getD 0 dLk).pieces.length) (Z67 r tr en ps)]
theorem r_LocksO (r tr en : Int) (ps : List Int) (hpl : ps.length ≤ 65536) : FnGO Try.prog 12 [] [.rp [.one, .one, .one, .one, .one, .one, .one, .one, .one, .one, .one, .ro 1 (enc eLp ([(⟨r, tr, en, ps⟩ : Lk)] : List Lk))]] (.sl 0 0 1) [.live ⟨[.v (.int .i64 r), .v (.int .i64 tr), .v (.int .i64 en), .sl 1 0 ps.length], 47, 4⟩, .live ⟨(enc eU8 ps), 5, 1⟩] := by
 refine fnG_of_body (N := 40) 0 rfl Try.func12 rfl rfl (resOf1 rfl) (by simp) (fun w0 G C hL_ hLG_ => ?_)
 refine seqR ?_
 refine mG vN ?_
 refine op0 ?_
 refine awp_seq ?_
 refine seqR ?_
 refine mG (Z69 r tr en ps) ?_
 refine oG (aop_ptNil rfl rfl rfl ut35 rfl rfl rfl (.inl ⟨rfl, rfl⟩) ?_)
 refine op0 ?_
 refine awp_cond false rfl rfl (fun h => by cases h) (fun _ => ?_)
 refine awp_skip ?_
 refine seqR ?_
 refine mG vN ?_
 refine rU (upd (upd (upd none_ 0 (Z69 r tr en ps)) 2 vN) 3 vN) noOb ?_
 refine awp_seq ?_
 refine seqR ?_
 refine mG (Z69 r tr en ps) ?_
 refine oG (aop_nilCheck rfl rfl rfl rfl rfl ?_)
 refine oG (qF (Z69 r tr en ps) (.rp [.ro 1 (enc eLp ([(Z66 r tr en ps)] : List Lk))]) ft65_2 sz63 ?_)
 refine oG (qL (Z6a r tr en ps) ag63 ?_)
 refine oG (qN ut63 ?_)
 refine mG (.i 0) ?_
 refine rU (upd (upd (upd Z6c 11 (Z6a r tr en ps)) 12 (.i (1 : Int))) 13 (.i 0)) noOb ?_
 refine awp_block ?_
 refine awp_countI (fun k => match k with | 0 => ⟨(upd (upd (upd Z6c 11 (Z6a r tr en ps)) 12 (.i 1)) 13 (.i 0)), noOb⟩ | _ => ⟨(upd (upd (upd (upd (upd none_ 2 vN) 3 (.sl 1 0 1)) 11 (Z6a r tr en ps)) 12 (.i 1)) 13 (.i 1)), (Z6e r tr en ps)⟩) (fun _ => True) 1 ?_ trivial (fun k hk_k _ => ?_)
 ·skip
  exact iN
 rcases (show k = 0 ∨ k = 1 by omega) with rfl | rfl
 ·show AWP _ _ _ ⟨(upd (upd (upd Z6c 11 (Z6a r tr en ps)) 12 (.i 1)) 13 (.i 0)), noOb⟩ _
  refine seqR ?_
  refine bG ((.bool true)) ?_
  refine op0 ?_
  refine awp_seq ?_
  refine awp_cond true rfl rfl (fun _ => ?_) (fun h => by cases h)
  refine awp_skip ?_
  refine awp_seq ?_
  refine awp_block ?_
  refine seqR ?_
  refine oG (aop_ixE (k := 0) dLk rfl rfl rfl ut63 sz69 rfl rfl (fun _ => rfl) rfl oo ?_)
  refine oG (qL (.rp (Z65 r tr en ps)) ag69 ?_)
  refine mG (.rp (Z65 r tr en ps)) ?_
  refine rU (upd (upd (upd (upd Z6c 5 (.rp (Z65 r tr en ps))) 11 (Z6a r tr en ps)) 12 (.i 1)) 13 (.i 0)) noOb ?_
  refine awp_drawZ (m := 20) (fun b => (updO noOb 51 (cond (b 17) (.live ⟨(enc eU8 ps), 5, 1⟩) .free))) (updO noOb 51 (.live ⟨(enc eU8 ps), 5, 1⟩)) [17] (funext fun id_ => by by_cases e0_ : id_ = 51 <;> first | (subst e0_; rfl) | simp only [addO, updO, nbeq_ne e0_, cond_false]) (fun b b' h => by simp only [h 17 (by decide)]) (fun b h => by simp only [h 17 (by decide), cond_true]) [(36, .ro 1 (Z68 r tr en ps)), (35, .agg (Z68 r tr en ps)), (34, .sl 51 0 ps.length), (33, .ro ((([(Z66 r tr en ps)] : List Lk).getD 0 dLk).pieces.length) (Z67 r tr en ps)), (32, .rp [.ro ((([(Z66 r tr en ps)] : List Lk).getD 0 dLk).pieces.length) (Z67 r tr en ps)]), (31, .rp (Z65 r tr en ps)), (30, .rp (Z65 r tr en ps)), (29, .i ((([(Z66 r tr en ps)] : List Lk).getD 0 dLk).ends)), (28, .rp (Z6d r tr en ps)), (27, .rp (Z65 r tr en ps)), (26, .rp (Z65 r tr en ps)), (25, .i ((([(Z66 r tr en ps)] : List Lk).getD 0 dLk).train)), (24, .rp (Z6b r tr en ps)), (23, .rp (Z65 r tr en ps)), (22, .rp (Z65 r tr en ps)), (21, .i ((([(Z66 r tr en ps)] : List Lk).getD 0 dLk).route)), (20, .rp (Z65 r tr en ps)), (19, .rp (Z65 r tr en ps)), (18, .rp (Z65 r tr en ps)), (17, vN)] mixed (by kernel_rfl) ?_ ?_
  ·iterate 20 (refine ⟨?_, ?_⟩; rotate_left)
   trivial
   ·exact sy_pure (by decide) (fun b => dW 17 fun st hob hE => aop_move (av := vN) (.inl rfl) rfl rfl (hE 3 rfl) (by rw [hob]; rfl))
   ·exact sy_pure (by decide) (fun b => dW 18 fun st hob hE => aop_move (av := .rp (Z65 r tr en ps)) (.inl rfl) rfl rfl (hE 5 rfl) (by rw [hob]; rfl))
   ·exact sy_pure (by decide) (fun b => dW 19 fun st hob hE => aop_nilCheck rfl rfl rfl (hE 18 rfl) rfl (by rw [hob]; rfl))
   ·exact sy_pure (by decide) (fun b => sF (.rp (Z65 r tr en ps)) (.rp (Z65 r tr en ps)) ft47_0 sz3)
   ·exact sy_pure (by decide) (fun b => dW 21 fun st hob hE => aop_ld (av := .i ((([(Z66 r tr en ps)] : List Lk).getD 0 dLk).route)) rfl rfl rfl ag3 (hE 20 rfl) rfl (by rw [hob]; rfl))
   ·exact sy_pure (by decide) (fun b => dW 22 fun st hob hE => aop_move (av := .rp (Z65 r tr en ps)) (.inl rfl) rfl rfl (hE 5 rfl) (by rw [hob]; rfl))
   ·exact sy_pure (by decide) (fun b => dW 23 fun st hob hE => aop_nilCheck rfl rfl rfl (hE 22 rfl) rfl (by rw [hob]; rfl))
   ·exact sy_pure (by decide) (fun b => sF (.rp (Z65 r tr en ps)) (.rp (Z6b r tr en ps)) ft47_1 sz3)
   ·exact sy_pure (by decide) (fun b => dW 25 fun st hob hE => aop_ld (av := .i ((([(Z66 r tr en ps)] : List Lk).getD 0 dLk).train)) rfl rfl rfl ag3 (hE 24 rfl) rfl (by rw [hob]; rfl))
   ·exact sy_pure (by decide) (fun b => dW 26 fun st hob hE => aop_move (av := .rp (Z65 r tr en ps)) (.inl rfl) rfl rfl (hE 5 rfl) (by rw [hob]; rfl))
   ·exact sy_pure (by decide) (fun b => dW 27 fun st hob hE => aop_nilCheck rfl rfl rfl (hE 26 rfl) rfl (by rw [hob]; rfl))
   ·exact sy_pure (by decide) (fun b => sF (.rp (Z65 r tr en ps)) (.rp (Z6d r tr en ps)) ft47_2 sz2)
   ·exact sy_pure (by decide) (fun b => dW 29 fun st hob hE => aop_ld (av := .i ((([(Z66 r tr en ps)] : List Lk).getD 0 dLk).ends)) rfl rfl rfl ag2 (hE 28 rfl) rfl (by rw [hob]; rfl))
   ·exact sy_pure (by decide) (fun b => dW 30 fun st hob hE => aop_move (av := .rp (Z65 r tr en ps)) (.inl rfl) rfl rfl (hE 5 rfl) (by rw [hob]; rfl))
   ·exact sy_pure (by decide) (fun b => dW 31 fun st hob hE => aop_nilCheck rfl rfl rfl (hE 30 rfl) rfl (by rw [hob]; rfl))
   ·exact sy_pure (by decide) (fun b => sF (.rp (Z65 r tr en ps)) (.rp [.ro ((([(Z66 r tr en ps)] : List Lk).getD 0 dLk).pieces.length) (Z67 r tr en ps)]) ft47_3 sz37)
   ·exact sy_pure (by decide) (fun b => dW 33 fun st hob hE => aop_ld (av := .ro ((([(Z66 r tr en ps)] : List Lk).getD 0 dLk).pieces.length) (Z67 r tr en ps)) rfl rfl rfl ag37 (hE 32 rfl) rfl (by rw [hob]; rfl))
   ·exact sy_fx (by decide) ⟨rfl, (fun d_ h_ => by cases h_ <;> exact blt_lt rfl), fun b hb_ hdep_ hcl_ st hob hE => by obtain ⟨en_, ob_⟩ := st; have hob_ : ob_ = (updO noOb 51 .free) := Eq.trans hob (by simp only [hb_, cond_false, cond_true]); subst hob_; exact callO_ 51 (cl_U8 ps om) rfl rfl rfl rfl rfl bd40 (by show Lends _ ([en_ 33] ++ _) _; rw [show en_ 33 = _ from hE 33 rfl]; exact lS) (.sl _ _ _ trivial) (news1 news0) (free1 rfl) rfl rfl ⟨rfl, fun id_ => by by_cases e0_ : id_ = 51 <;> first | (subst e0_; rfl) | simp only [addO, updO, nbeq_ne e0_, cond_false]⟩⟩
   ·exact sy_pure (by decide) (fun b => dW 35 fun st hob hE => aop_build rfl rfl rfl pl47 (by simp only [partsA, List.map, evA, hE 21 rfl, hE 25 rfl, hE 29 rfl, hE 34 rfl]; rfl) (by rw [hob]; rfl))
   exact sy_pure (by decide) (fun b => dW 36 fun st hob hE => aop_lit rfl rfl rfl ut44 iz47 (by decide) (by decide) (by simp only [partsA, List.map, evA, hE 35 rfl]; rfl) rfl (by rw [hob]; rfl))
  refine oG (aop_appNil 52 rfl rfl rfl rfl ut44 in47 rfl (by decide) rfl rfl rfl om om rfl ?_)
  refine mG (.sl 52 0 1) ?_
  refine op0 ?_
  refine regR ?_
  refine oG (qB (.int .i64 (0 + 1)) (addI om) ?_)
  refine mG (.i (0 + 1)) ?_
  refine op0 ?_
  show _ ∧ _
  refine ⟨by omega, trivial, ?_⟩
  exact iL [(52, 1), (51, 2)] [((52, 1), .live _), ((51, 2), .live _)] ⟨row_map (o := ⟨(Z68 r tr en ps), 47, 4⟩) rfl (om_ (lm_cons (am_no (a := .i ((([(Z66 r tr en ps)] : List Lk).getD 0 dLk).route))) (lm_cons (am_no (a := .i ((([(Z66 r tr en ps)] : List Lk).getD 0 dLk).train))) (lm_cons (am_no (a := .i ((([(Z66 r tr en ps)] : List Lk).getD 0 dLk).ends))) (lm_cons rfl lm_nil))))) (oks_cons (ok_no (a := .i ((([(Z66 r tr en ps)] : List Lk).getD 0 dLk).route))) (oks_cons (ok_no (a := .i ((([(Z66 r tr en ps)] : List Lk).getD 0 dLk).train))) (oks_cons (ok_no (a := .i ((([(Z66 r tr en ps)] : List Lk).getD 0 dLk).ends))) (oks_cons (.sl _ _ _ (by simp)) oks_nil)))), row_no (o := ⟨(enc eU8 ps), 5, 1⟩) rfl rfl, trivial⟩
 show AWP _ _ _ ⟨(upd (upd (upd (upd (upd none_ 2 vN) 3 (.sl 1 0 1)) 11 (Z6a r tr en ps)) 12 (.i 1)) 13 (.i 1)), (Z6e r tr en ps)⟩ _
 refine seqR ?_
 refine bG ((.bool false)) ?_
 refine op0 ?_
 refine awp_seq ?_
 refine awp_cond false rfl rfl (fun h => by cases h) (fun _ => ?_)
 refine awp_exit ?_
 refine seqR ?_
 refine mG (.sl 1 0 1) ?_
 refine mG (.sl 1 0 1) ?_
 refine op0 ?_
 refine awp_imp ⟨(upd none_ 2 (.sl 0 0 1)), (updO (updO noOb 0 (.live ⟨[.i r, .i tr, .i en, .sl 1 0 ps.length], 47, 4⟩)) 1 (.live ⟨(enc eU8 ps), 5, 1⟩))⟩ ?_ ?_
 ·skip
  exact iL [(1, 0), (2, 1)] [((1, 0), .live _), ((2, 1), .live _)] ⟨row_map (o := ⟨[.i r, .i tr, .i en, .sl 2 0 ps.length], 47, 4⟩) rfl (om_ (lm_cons (am_no (a := .i r)) (lm_cons (am_no (a := .i tr)) (lm_cons (am_no (a := .i en)) (lm_cons rfl lm_nil))))) (oks_cons (ok_no (a := .i r)) (oks_cons (ok_no (a := .i tr)) (oks_cons (ok_no (a := .i en)) (oks_cons (.sl _ _ _ (by simp)) oks_nil)))), row_no rfl rfl, trivial⟩
 refine awp_ret ?_
 exact fretG rfl rfl rfl rfl
theorem r_Locks0 (u_ : Unit)  : Fn Try.prog 12 [.rp [.one, .one, .one, .one, .one, .one, .one, .one, .one, .one, .one, .ro 0 []]] vN := by
 refine fnE_of_body (N := 40) Try.func12 rfl rfl (resOf1 rfl) (by simp) (fun w0 X hL_ => ?_)
 refine seqR ?_
 refine mG vN ?_
 refine op0 ?_
 refine awp_seq ?_
 refine seqR ?_
 refine mG (.rp [.one, .one, .one, .one, .one, .one, .one, .one, .one, .one, .one, .ro 0 []]) ?_
 refine oG (aop_ptNil rfl rfl rfl ut35 rfl rfl rfl (.inl ⟨rfl, rfl⟩) ?_)
 refine op0 ?_
 refine awp_cond false rfl rfl (fun h => by cases h) (fun _ => ?_)
 refine awp_skip ?_
 refine seqR ?_
 refine mG vN ?_
 refine rU (upd (upd (upd none_ 0 (.rp [.one, .one, .one, .one, .one, .one, .one, .one, .one, .one, .one, .ro 0 []])) 2 vN) 3 vN) noOb ?_
 refine awp_seq ?_
 refine seqR ?_
 refine mG (.rp [.one, .one, .one, .one, .one, .one, .one, .one, .one, .one, .one, .ro 0 []]) ?_
 refine oG (aop_nilCheck rfl rfl rfl rfl rfl ?_)
 refine oG (qF (.rp [.one, .one, .one, .one, .one, .one, .one, .one, .one, .one, .one, .ro 0 []]) (.rp [.ro 0 []]) ft65_2 sz63 ?_)
 refine oG (qL (.ro 0 []) ag63 ?_)
 refine oG (qN ut63 ?_)
 refine mG (.i 0) ?_
 refine rU (upd (upd (upd (upd (upd none_ 2 vN) 3 vN) 11 (.ro 0 [])) 12 (.i (0 : Int))) 13 (.i 0)) noOb ?_
 refine awp_block ?_
 refine awp_countI (fun k => ⟨(upd (upd (upd (upd (upd none_ 2 vN) 3 vN) 11 (.ro 0 [])) 12 (.i (0 : Int))) 13 (.i (k : Int))), noOb⟩) (fun k => True) (0) ?_ trivial (fun k hk_k hinv => ?_)
 ·skip
  exact iN
 refine seqR ?_
 refine bG ((.bool (decide ((k : Int) < (0 : Int))))) ?_
 refine op0 ?_
 refine awp_seq ?_
 refine awp_cond (decide ((k : Int) < (0 : Int))) rfl rfl (fun hc1 => ?_) (fun hc1 => ?_)
 ·skip
  have hf1 := of_decide_eq_true hc1
  exfalso; have h9_ := of_decide_eq_true hc1; omega
 have hf2 := of_decide_eq_false hc1
 refine awp_exit ?_
 refine seqR ?_
 refine mG vN ?_
 refine mG vN ?_
 refine op0 ?_
 refine awp_ret ?_
 exact fret (av := vN) rfl rfl rfl
theorem bd10 : bodied Try.prog 10 = true := by kernel_rfl
theorem bd11 : bodied Try.prog 11 = true := by kernel_rfl
theorem bd12 : bodied Try.prog 12 = true := by kernel_rfl
theorem bd9 : bodied Try.prog 9 = true := by kernel_rfl
theorem pl25 : placesOf Try.prog 25 = some ((.agg #[(.int .u8 0), (.int .u8 0), (.int .u8 0), (.int .u16 0), (.int .u16 0), (.int .u8 0), (.int .u8 0), (.int .u8 0), (.slice none 0 0)]), fun i => ([(0, 1), (1, 1), (2, 1), (3, 1), (4, 1), (5, 1), (6, 1), (7, 1), (8, 1)] : List (Nat × Nat)).toArray[i]?) := by kernel_rfl
theorem r_SetN (b : List Sec) (d : List (List Int)) (c : List Pnt) (a : List (List Int)) (cn r tr : Int) (e : List Int) (hs : b.length ≤ 65536) (hp : c.length ≤ 65536) (hro : a.length ≤ 65536) (hst : e.length ≤ 65536) (hr : hasR a r = true) (hpl : 2 ≤ (a.getD r.toNat []).length ∧ (a.getD r.toNat []).length ≤ 9) (hin : ∀ s, s ∈ pthR a r → 0 ≤ s) (hfr : (!((pthR a r).any (bzQ a [] e))) = true) (hmv : (movesL (paL b c (a.getD r.toNat [])) ([] : List Bool)).any (noQ c e ([] : List View) (secsQ a [] b.length b.length) (List.replicate c.length false)) = false) : FnGO Try.prog 10 [⟨[.one, .ro b.length (enc eSec b), .ro d.length (enc eIL d), .ro c.length (enc ePnt c), .ro a.length (enc eIL a), .one, .one, .one, .v (.int .i64 cn), .one, .rp [.one, .ro b.length (enc eSec b), .ro d.length (enc eIL d), .ro c.length (enc ePnt c), .one, .one, .one, .one, .one, .one], .v (.slice none 0 0)], 65, 1⟩] [.pt 0 0, .v (.int .i64 r), .v (.int .i64 tr), .ro e.length (enc eU8 e), .v (.slice none 0 0), .v (.slice none 0 0)] (.tup [.ro ((moveL ([] : List Bool) (movesL (paL b c (a.getD r.toNat [])) ([] : List Bool))).length) (enc eB (moveL ([] : List Bool) (movesL (paL b c (a.getD r.toNat [])) ([] : List Bool)))), .v (.int .i64 0)]) [.live ⟨[.one, .ro b.length (enc eSec b), .ro d.length (enc eIL d), .ro c.length (enc ePnt c), .ro a.length (enc eIL a), .one, .one, .one, .v (.int .i64 cn), .one, .rp [.one, .ro b.length (enc eSec b), .ro d.length (enc eIL d), .ro c.length (enc ePnt c), .one, .one, .one, .one, .one, .one], .sl 1 0 1], 65, 1⟩, .live ⟨[.pt 2 0], 69, 1⟩, .live ⟨[.v (.int .i64 r), .v (.int .i64 tr), .v (.int .i64 (-1)), .sl 3 0 ((List.replicate (pthR a r).length (1 : Int)).length)], 47, 1⟩, .live ⟨(enc eU8 (List.replicate (pthR a r).length (1 : Int))), 5, 1⟩] := fnG_nil (r_SetK b d c a cn r tr e [] [] hs hp hro hst (by simp) (by simp) (by simp) hr hpl hin hfr hmv) ⟨.inl rfl, .inl rfl, .inl rfl, .inl rfl, .inr ⟨rfl, rfl⟩, .inr ⟨rfl, rfl⟩, trivial⟩
abbrev Z6v : Nat → AV := (upd none_ 0 (.b false))
abbrev Z6u : List AV := (enc eU8 (tnK dnR (mkParts 0 0) [0, 0, 0] [-2, -2, -2] 2 (0 : Int) 3 (-1) dn1 dn1.length))
abbrev Z6t : LObj := ⟨[.i (0 : Int), .i 3, .i (-1), .sl 55 0 ((List.replicate (pthR dnR (0 : Int)).length (1 : Int)).length)], 47, 1⟩
abbrev Z6s : List AV := [.q eB (moveL ([] : List Bool) (movesL (paL (mkSecs 0 0) (mkPts 0) (dnR.getD (0 : Int).toNat [])) ([] : List Bool))), .i 0]
abbrev Z6r : List AV := (enc eU8 (List.replicate (pthR dnR (0 : Int)).length (1 : Int)))
abbrev Z6o : Nat → AV := (upd (upd Z6v 2 (.pt 52 0)) 4 (.i 0))
abbrev Z6n : LObj := ⟨[.i (0 : Int), .i 3, .i (-1), .sl 55 0 ((tnK dnR (mkParts 0 0) [0, 1, 0] [-2, 3, -2] 1 (0 : Int) 3 (-1) (List.replicate (pthR dnR 0).length (1 : Int)) (List.replicate (pthR dnR 0).length (1 : Int)).length).length)], 47, 1⟩
abbrev Z6m : List AV := [.one, .q eSec (mkSecs 0 0), .q eIL (mkParts 0 0), .q ePnt (mkPts 0), .ro 1 (enc eIL dnR), .i (1 + 0 % (2 * (10 * (1 + 0 % 20)))), .i (1 + 0 % 1000), .i (1 + 0 % 1000), .i (1 + 0), .i (0 % 4)]
abbrev Z6k : List AV := (enc eU8 (tnK dnR (mkParts 0 0) [0, 1, 0] [-2, 3, -2] 1 (0 : Int) 3 (-1) (List.replicate (pthR dnR 0).length (1 : Int)) (List.replicate (pthR dnR 0).length (1 : Int)).length))
abbrev Z6j : Nat → OSt := (updO (updO noOb 51 (.live ⟨[vN, vN, vN, vN, vN, .i 0, .i 0, .i 0, .i 0, .i 0], 33, 1⟩)) 51 (.live ⟨[.one, .q eSec (mkSecs 0 0), .q eIL (mkParts 0 0), .q ePnt (mkPts 0), vN, .i (1 + 0 % (2 * (10 * (1 + 0 % 20)))), .i (1 + 0 % 1000), .i (1 + 0 % 1000), .i (1 + 0), .i (0 % 4)], 33, 1⟩))
abbrev Z6g : List AV := [.one, .q eSec (mkSecs 0 0), .q eIL (mkParts 0 0), .q ePnt (mkPts 0), .one, .one, .one, .one, .one, .one]
abbrev Z6p : LObj := ⟨[.one, .q eSec (mkSecs 0 0), .q eIL (mkParts 0 0), .q ePnt (mkPts 0), .q eIL dnR, .one, .one, .one, .i (1 + 0), .one, .rp Z6g, vN], 65, 1⟩
abbrev Z6l : LObj := ⟨[.one, .q eSec (mkSecs 0 0), .q eIL (mkParts 0 0), .q ePnt (mkPts 0), .q eIL dnR, .one, .one, .one, .i (1 + 0), .one, .rp Z6g, .sl 53 0 1], 65, 1⟩
abbrev Z6h : Nat → OSt := (updO (updO (updO (updO (updO (updO Z6j 51 (.live ⟨Z6m, 33, 1⟩)) 52 (.live Z6p)) 52 (.live Z6l)) 53 (.live ⟨[.pt 54 0], 69, 1⟩)) 54 (.live Z6t)) 55 (.live ⟨Z6r, 5, 1⟩))
abbrev Z6f : Nat → OSt := (updO (updO (updO (updO Z6h 52 (.live Z6l)) 53 (.live ⟨[.pt 54 0], 69, 1⟩)) 54 (.live Z6n)) 55 (.live ⟨Z6k, 5, 1⟩))
abbrev Z6q : Nat → OSt := (updO (updO Z6f 56 (.live ⟨[.i (0 : Int), .i 3, .i (-1), .sl 57 0 dn1.length], 47, 4⟩)) 57 (.live ⟨(enc eU8 dn1), 5, 1⟩))
abbrev Z6i : Nat → OSt := (updO (updO (updO (updO Z6q 52 (.live ⟨[.one, .q eSec (mkSecs 0 0), .q eIL (mkParts 0 0), .q ePnt (mkPts 0), .q eIL dnR, .one, .one, .one, .i (1 + 0), .one, .rp Z6g, .sl 53 0 0], 65, 1⟩)) 53 (.live ⟨[.v (.pointer none)], 69, 1⟩)) 54 (.live ⟨[.i (0 : Int), .i 3, .i (-1), .sl 55 0 ((tnK dnR (mkParts 0 0) [0, 0, 0] [-2, -2, -2] 2 (0 : Int) 3 (-1) dn1 dn1.length).length)], 47, 1⟩)) 55 (.live ⟨Z6u, 5, 1⟩))
theorem l15_done   : Fn Try.prog 6 [] (.v (.bool true)) := by
 have hel := mkEnds_len 0
 have hsl := mkSecs_len 0 0
 have hpl := mkPts_len 0
 refine fnE_of_body (N := 42) Try.func6 rfl rfl (resOf1 rfl) (by simp) (fun w0 X hL_ => ?_)
 refine seqR ?_
 refine mG (.b false) ?_
 refine op0 ?_
 refine seqR ?_
 refine oG (qD pl25 ?_)
 refine oG (qC (r04_Make 0 0 0 0 0 0 0 0 (by decide) (by decide) (by decide) (by decide) (by decide) (by decide) (by decide) (by decide)) bd19 ?_)
 refine oG (aop_alloc 51 rfl rfl rfl rfl ze33 rfl ?_)
 refine oG (qS sz33 ?_)
 refine rU (upd Z6v 1 (.pt 51 0)) Z6j ?_
 refine seqR ?_
 refine oG (aop_lit (cells := enc eI ([0, 1] : List Int)) rfl rfl rfl ut42 iz3 (by decide) (by decide) rfl rfl ?_)
 refine oG (aop_lit (cells := enc eIL dnR) rfl rfl rfl ut30 iz42 (by decide) (by decide) rfl rfl ?_)
 refine fG (.pt 51 4) ft33_4 sz30 ?_
 refine oG (qS sz30 ?_)
 refine rU (upd Z6v 1 (.pt 51 0)) (updO Z6j 51 (.live ⟨Z6m, 33, 1⟩)) ?_
 refine seqR ?_
 refine oG (qLB Z6m ag33 sz33 ?_)
 refine oG (callN_ 52 (r_New (mkSecs 0 0) (mkParts 0 0) (mkPts 0) dnR (1 + 0)) rfl rfl rfl rfl rfl bd9 (fun _ => lS) newsN1 (free1 rfl) rfl rfl ?_)
 refine mG (.pt 52 0) ?_
 refine op0 ?_
 refine seqR ?_
 refine mG (.pt 52 0) ?_
 refine oG (aop_lit (cells := enc eU8 ([0, 0, 0] : List Int)) rfl rfl rfl ut37 iz5 (by decide) (by decide) rfl rfl ?_)
 refine oG (callG_ false [52] [53, 54, 55] (r_SetN (mkSecs 0 0) (mkParts 0 0) (mkPts 0) dnR (1 + 0) 0 3 [0, 0, 0] (by decide +kernel) (by decide +kernel) (by decide) (by decide) (by decide) (by decide) (by decide) dn_free dn_may) rfl rfl rfl rfl rfl bd10 (by decide) ⟨giv_no (o := Z6p) rfl rfl, trivial⟩ ⟨(arg_own (.pt _ _ (by simp)) rfl), (arg_no (a := .i 0)), (arg_no (a := .i 3)), (arg_no (a := .ro 3 (enc eU8 ([0, 0, 0] : List Int)))), (arg_no (a := vN)), (arg_no (a := vN)), trivial⟩ rfl ⟨rfl, rfl, rfl, trivial⟩ (fun h => by cases h) (am_no (a := .tup Z6s)) (place_cons (ost_map (lm_cons (am_no (a := .one)) (lm_cons (am_no (a := .q eSec (mkSecs 0 0))) (lm_cons (am_no (a := .q eIL (mkParts 0 0))) (lm_cons (am_no (a := .q ePnt (mkPts 0))) (lm_cons (am_no (a := .q eIL dnR)) (lm_cons (am_no (a := .one)) (lm_cons (am_no (a := .one)) (lm_cons (am_no (a := .one)) (lm_cons (am_no (a := .i (1 + 0))) (lm_cons (am_no (a := .one)) (lm_cons (am_no (a := .rp Z6g)) (lm_cons rfl lm_nil))))))))))))) (place_cons (ost_map (lm_cons rfl lm_nil)) (place_cons (ost_map (lm_cons (am_no (a := .i (0 : Int))) (lm_cons (am_no (a := .i 3)) (lm_cons (am_no (a := .i (-1))) (lm_cons rfl lm_nil))))) (place_cons (ost_no (cs := Z6r)) place_nil)))) ?_)
 refine mG (.tup Z6s) ?_
 refine oG (qE ?_)
 refine oG (qE ?_)
 refine mG (.q eB (moveL ([] : List Bool) (movesL (paL (mkSecs 0 0) (mkPts 0) (dnR.getD (0 : Int).toNat [])) ([] : List Bool)))) ?_
 refine mG (.i 0) ?_
 refine rU Z6o Z6h ?_
 refine seqR ?_
 refine mG (.pt 52 0) ?_
 refine oG (aop_lit (cells := enc eU8 ([0, 1, 0] : List Int)) rfl rfl rfl ut37 iz5 (by decide) (by decide) rfl rfl ?_)
 refine oG (aop_lit (cells := enc eI ([-2, 3, -2] : List Int)) rfl rfl rfl ut42 iz3 (by decide) (by decide) rfl rfl ?_)
 refine oG (callG_ false [52, 53, 54, 55] [] (r_StepO (mkSecs 0 0) (mkParts 0 0) (mkPts 0) dnR (1 + 0) 0 3 (-1) (List.replicate (pthR dnR 0).length (1 : Int)) 1 [0, 1, 0] [-2, 3, -2] (by decide) (by decide) (by decide +kernel) (by decide) (by decide +kernel) (by decide +kernel) (by decide) (by decide) (by decide) dn_part dn_1) rfl rfl rfl rfl rfl bd11 (by decide) ⟨giv_map (o := Z6l) rfl (om_ (lm_cons (am_no (a := .one)) (lm_cons (am_no (a := .q eSec (mkSecs 0 0))) (lm_cons (am_no (a := .q eIL (mkParts 0 0))) (lm_cons (am_no (a := .q ePnt (mkPts 0))) (lm_cons (am_no (a := .q eIL dnR)) (lm_cons (am_no (a := .one)) (lm_cons (am_no (a := .one)) (lm_cons (am_no (a := .one)) (lm_cons (am_no (a := .i (1 + 0))) (lm_cons (am_no (a := .one)) (lm_cons (am_no (a := .rp Z6g)) (lm_cons rfl lm_nil))))))))))))) (oks_cons (ok_no (a := .one)) (oks_cons (ok_no (a := .q eSec (mkSecs 0 0))) (oks_cons (ok_no (a := .q eIL (mkParts 0 0))) (oks_cons (ok_no (a := .q ePnt (mkPts 0))) (oks_cons (ok_no (a := .q eIL dnR)) (oks_cons (ok_no (a := .one)) (oks_cons (ok_no (a := .one)) (oks_cons (ok_no (a := .one)) (oks_cons (ok_no (a := .i (1 + 0))) (oks_cons (ok_no (a := .one)) (oks_cons (ok_no (a := .rp Z6g)) (oks_cons (.sl _ _ _ (by simp)) oks_nil)))))))))))), giv_map (o := ⟨[.pt 54 0], 69, 1⟩) rfl (om_ (lm_cons rfl lm_nil)) (oks_cons (.pt _ _ (by simp)) oks_nil), giv_map (o := Z6t) rfl (om_ (lm_cons (am_no (a := .i (0 : Int))) (lm_cons (am_no (a := .i 3)) (lm_cons (am_no (a := .i (-1))) (lm_cons rfl lm_nil))))) (oks_cons (ok_no (a := .i (0 : Int))) (oks_cons (ok_no (a := .i 3)) (oks_cons (ok_no (a := .i (-1))) (oks_cons (.sl _ _ _ (by simp)) oks_nil)))), giv_no (o := ⟨Z6r, 5, 1⟩) rfl rfl, trivial⟩ ⟨(arg_own (.pt _ _ (by simp)) rfl), (arg_no (a := .i 1)), (arg_no (a := .ro 3 (enc eU8 ([0, 1, 0] : List Int)))), (arg_no (a := .ro 3 (enc eI ([-2, 3, -2] : List Int)))), trivial⟩ rfl trivial (fun h => by cases h) (am_no (a := .tup [])) (place_cons (ost_map (lm_cons (am_no (a := .one)) (lm_cons (am_no (a := .q eSec (mkSecs 0 0))) (lm_cons (am_no (a := .q eIL (mkParts 0 0))) (lm_cons (am_no (a := .q ePnt (mkPts 0))) (lm_cons (am_no (a := .q eIL dnR)) (lm_cons (am_no (a := .one)) (lm_cons (am_no (a := .one)) (lm_cons (am_no (a := .one)) (lm_cons (am_no (a := .i (1 + 0))) (lm_cons (am_no (a := .one)) (lm_cons (am_no (a := .rp Z6g)) (lm_cons rfl lm_nil))))))))))))) (place_cons (ost_map (lm_cons rfl lm_nil)) (place_cons (ost_map (lm_cons (am_no (a := .i (0 : Int))) (lm_cons (am_no (a := .i 3)) (lm_cons (am_no (a := .i (-1))) (lm_cons rfl lm_nil))))) (place_cons (ost_no (cs := Z6k)) place_nil)))) ?_)
 refine rU Z6o Z6f ?_
 refine seqR ?_
 refine mG (.pt 52 0) ?_
 refine oG (callG_ true [] [56, 57] (r_LocksO 0 3 (-1) dn1 (by decide)) rfl rfl rfl rfl rfl bd12 (by decide) trivial ⟨(arg_lent (lend_pt rfl (lends_cons (lend_n (av := .one)) (lends_cons (.one _ rfl) (lends_cons (.one _ rfl) (lends_cons (.one _ rfl) (lends_cons (.one _ rfl) (lends_cons (lend_n (av := .one)) (lends_cons (lend_n (av := .one)) (lends_cons (lend_n (av := .one)) (lends_cons (.one _ rfl) (lends_cons (lend_n (av := .one)) (lends_cons (.one _ rfl) (lends_cons (lend_rowX (o := ⟨[.pt 54 0], 69, 1⟩) rfl (lends_cons (lend_pt rfl (lends_cons (lend_n (av := .i (0 : Int))) (lends_cons (lend_n (av := .i 3)) (lends_cons (lend_n (av := .i (-1))) (lends_cons (lend_s (id := 55) (n := (tnK dnR (mkParts 0 0) [0, 1, 0] [-2, 3, -2] 1 (0 : Int) 3 (-1) (List.replicate (pthR dnR 0).length (1 : Int)) (List.replicate (pthR dnR 0).length (1 : Int)).length).length) (o := ⟨Z6k, 5, 1⟩) rfl (enc_len (fun _ => rfl) (by first | rfl | (simp; done)))) lends_nil))))) lends_nil) rfl) lends_nil)))))))))))))), trivial⟩ rfl ⟨rfl, rfl, trivial⟩ (fun _ => ⟨.sl _ _ _ trivial, ⟨(by intro c hc; simp at hc; rcases hc with rfl | rfl | rfl | rfl <;> constructor <;> trivial), ⟨(fun c hc => ((inferInstance : FlatL (enc eU8 dn1)).out c hc).mono (fun _ h => h.elim) id), trivial⟩⟩⟩) rfl (place_cons (ost_map (lm_cons (am_no (a := .i (0 : Int))) (lm_cons (am_no (a := .i 3)) (lm_cons (am_no (a := .i (-1))) (lm_cons rfl lm_nil))))) (place_cons (ost_no (cs := (enc eU8 dn1))) place_nil)) ?_)
 refine oG (aop_len rfl rfl rfl rfl ut44 (len_sl rfl) ?_)
 refine mG (.i (1 : Int)) ?_
 refine rU (upd Z6o 5 (.i (1 : Int))) Z6q ?_
 refine seqR ?_
 refine mG (.pt 52 0) ?_
 refine oG (aop_lit (cells := enc eU8 ([0, 0, 0] : List Int)) rfl rfl rfl ut37 iz5 (by decide) (by decide) rfl rfl ?_)
 refine oG (aop_lit (cells := enc eI ([-2, -2, -2] : List Int)) rfl rfl rfl ut42 iz3 (by decide) (by decide) rfl rfl ?_)
 refine oG (callG_ false [52, 53, 54, 55] [] (r_StepD (mkSecs 0 0) (mkParts 0 0) (mkPts 0) dnR (1 + 0) 0 3 (-1) dn1 2 [0, 0, 0] [-2, -2, -2] (by decide) (by decide) (by decide +kernel) (by decide) (by decide +kernel) (by decide +kernel) (by decide) (by decide) (by decide) dn_part dn_2) rfl rfl rfl rfl rfl bd11 (by decide) ⟨giv_map (o := Z6l) rfl (om_ (lm_cons (am_no (a := .one)) (lm_cons (am_no (a := .q eSec (mkSecs 0 0))) (lm_cons (am_no (a := .q eIL (mkParts 0 0))) (lm_cons (am_no (a := .q ePnt (mkPts 0))) (lm_cons (am_no (a := .q eIL dnR)) (lm_cons (am_no (a := .one)) (lm_cons (am_no (a := .one)) (lm_cons (am_no (a := .one)) (lm_cons (am_no (a := .i (1 + 0))) (lm_cons (am_no (a := .one)) (lm_cons (am_no (a := .rp Z6g)) (lm_cons rfl lm_nil))))))))))))) (oks_cons (ok_no (a := .one)) (oks_cons (ok_no (a := .q eSec (mkSecs 0 0))) (oks_cons (ok_no (a := .q eIL (mkParts 0 0))) (oks_cons (ok_no (a := .q ePnt (mkPts 0))) (oks_cons (ok_no (a := .q eIL dnR)) (oks_cons (ok_no (a := .one)) (oks_cons (ok_no (a := .one)) (oks_cons (ok_no (a := .one)) (oks_cons (ok_no (a := .i (1 + 0))) (oks_cons (ok_no (a := .one)) (oks_cons (ok_no (a := .rp Z6g)) (oks_cons (.sl _ _ _ (by simp)) oks_nil)))))))))))), giv_map (o := ⟨[.pt 54 0], 69, 1⟩) rfl (om_ (lm_cons rfl lm_nil)) (oks_cons (.pt _ _ (by simp)) oks_nil), giv_map (o := Z6n) rfl (om_ (lm_cons (am_no (a := .i (0 : Int))) (lm_cons (am_no (a := .i 3)) (lm_cons (am_no (a := .i (-1))) (lm_cons rfl lm_nil))))) (oks_cons (ok_no (a := .i (0 : Int))) (oks_cons (ok_no (a := .i 3)) (oks_cons (ok_no (a := .i (-1))) (oks_cons (.sl _ _ _ (by simp)) oks_nil)))), giv_no (o := ⟨Z6k, 5, 1⟩) rfl rfl, trivial⟩ ⟨(arg_own (.pt _ _ (by simp)) rfl), (arg_no (a := .i 2)), (arg_no (a := .ro 3 (enc eU8 ([0, 0, 0] : List Int)))), (arg_no (a := .ro 3 (enc eI ([-2, -2, -2] : List Int)))), trivial⟩ rfl trivial (fun h => by cases h) (am_no (a := .tup [])) (place_cons (ost_map (lm_cons (am_no (a := .one)) (lm_cons (am_no (a := .q eSec (mkSecs 0 0))) (lm_cons (am_no (a := .q eIL (mkParts 0 0))) (lm_cons (am_no (a := .q ePnt (mkPts 0))) (lm_cons (am_no (a := .q eIL dnR)) (lm_cons (am_no (a := .one)) (lm_cons (am_no (a := .one)) (lm_cons (am_no (a := .one)) (lm_cons (am_no (a := .i (1 + 0))) (lm_cons (am_no (a := .one)) (lm_cons (am_no (a := .rp Z6g)) (lm_cons rfl lm_nil))))))))))))) (place_cons (ost_no (cs := [.v (.pointer none)])) (place_cons (ost_map (lm_cons (am_no (a := .i (0 : Int))) (lm_cons (am_no (a := .i 3)) (lm_cons (am_no (a := .i (-1))) (lm_cons rfl lm_nil))))) (place_cons (ost_no (cs := Z6u)) place_nil)))) ?_)
 refine rU (upd Z6o 5 (.i (1 : Int))) Z6i ?_
 refine seqR ?_
 refine mG (.i 0) ?_
 refine bG ((.bool true)) ?_
 refine mG (.b true) ?_
 refine opY rfl rfl rfl rfl (aop_move (av := .i (1 : Int)) (.inl rfl) rfl rfl rfl ?_)
 refine opY rfl rfl rfl rfl (aop_binI (u := (.bool ((1 : Int) == 1))) rfl rfl rfl rfl rfl trivial rfl ?_)
 refine oG (aop_pick (b := true) (av := .b ((1 : Int) == 1)) rfl rfl rfl rfl rfl ?_)
 refine mG (.b ((1 : Int) == 1)) ?_
 refine aops_grp 5 41 (.b (((1 : Int) == 1) && true)) ?_ ?_
 ·refine (Bool.eq_false_or_eq_true ((1 : Int) == 1)).elim (fun hg1 => ?_) (fun hg1 => ?_)
  ·skip
   have hf2 := (beq_iff_eq).1 hg1
   refine oY hg1 (qM (.pt 52 0) ?_)
   refine oY hg1 (callL_ (r_Locks0 ()) rfl rfl rfl rfl rfl bd12 (lends_cons (lend_pt rfl (lends_cons (lend_n (av := .one)) (lends_cons (.one _ rfl) (lends_cons (.one _ rfl) (lends_cons (.one _ rfl) (lends_cons (.one _ rfl) (lends_cons (lend_n (av := .one)) (lends_cons (lend_n (av := .one)) (lends_cons (lend_n (av := .one)) (lends_cons (.one _ rfl) (lends_cons (lend_n (av := .one)) (lends_cons (.one _ rfl) (lends_cons (lend_row0 rfl) lends_nil))))))))))))) lends_nil) ?_)
   refine oY hg1 (aop_len rfl rfl rfl rfl ut44 (len_nil rfl) ?_)
   refine oY hg1 (qB (.bool true) rfl ?_)
   refine oG (qP ((1 : Int) == 1) (.b true) hg1 ?_)
   refine op0 ?_
   exact imp_env (lee_both 41 _ _ (by rw [hg1] <;> rfl) lO)
  have hf3 := (beq_eq_false_iff_ne).1 hg1
  refine nG hg1 ?_
  refine nG hg1 ?_
  refine nG hg1 ?_
  refine nG hg1 ?_
  refine oG (qP ((1 : Int) == 1) (.b false) hg1 ?_)
  refine op0 ?_
  exact imp_env (lee_both 41 _ _ (by rw [hg1] <;> rfl) lO)
 refine mG (.b (((1 : Int) == 1) && true)) ?_
 refine op0 ?_
 refine rT (upd none_ 0 (.b (((1 : Int) == 1) && true))) Z6i ?_
 refine awp_ret ?_
 exact fret (av := .v (.bool (((1 : Int) == 1) && true))) rfl rfl rfl
theorem r_StepOq (d : List Sec) (a : List (List Int)) (e : List Pnt) (c : List (List Int)) (cn : Int) (r tr en : Int) (ps : List Int) (g : Int) (f ow : List Int) (qs : List Int) (hro : c.length ≤ 65536) (hr : 0 ≤ r ∧ r < (c.length : Int)) (hp : ps.length + 1 = (c.getD r.toNat []).length) (hpl : (c.getD r.toNat []).length ≤ 65536) (hpa : a.length ≤ 65536) (hpp : ∀ x, x ∈ a → x.length ≤ 65536) (hst : f.length ≤ 65536) (how : ow.length ≤ 65536) (hin : ∀ s, s ∈ pthR c r → 0 ≤ s ∧ s < (f.length : Int)) (hpo : ∀ s : Int, 0 ≤ s → s < (f.length : Int) → 0 ≤ partI a s ∧ partI a s < (ow.length : Int)) (hq : (tnK c a f ow g r tr en ps ps.length) = qs) (ha : qs.any (fun b : Int => b != 0) = true) : FnGO Try.prog 11 [⟨[.one, .ro d.length (enc eSec d), .ro a.length (enc eIL a), .ro e.length (enc ePnt e), .ro c.length (enc eIL c), .one, .one, .one, .v (.int .i64 cn), .one, .rp [.one, .ro d.length (enc eSec d), .ro a.length (enc eIL a), .ro e.length (enc ePnt e), .one, .one, .one, .one, .one, .one], .sl 1 0 1], 65, 1⟩, ⟨[.pt 2 0], 69, 1⟩, ⟨[.v (.int .i64 r), .v (.int .i64 tr), .v (.int .i64 en), .sl 3 0 ps.length], 47, 1⟩, ⟨(enc eU8 ps), 5, 1⟩] [.pt 0 0, .v (.int .i64 g), .ro f.length (enc eU8 f), .ro ow.length (enc eI ow)] (.tup []) [.live ⟨[.one, .ro d.length (enc eSec d), .ro a.length (enc eIL a), .ro e.length (enc ePnt e), .ro c.length (enc eIL c), .one, .one, .one, .v (.int .i64 cn), .one, .rp [.one, .ro d.length (enc eSec d), .ro a.length (enc eIL a), .ro e.length (enc ePnt e), .one, .one, .one, .one, .one, .one], .sl 1 0 1], 65, 1⟩, .live ⟨[.pt 2 0], 69, 1⟩, .live ⟨[.v (.int .i64 r), .v (.int .i64 tr), .v (.int .i64 en), .sl 3 0 qs.length], 47, 1⟩, .live ⟨(enc eU8 qs), 5, 1⟩] := by subst hq; exact r_StepO d a e c cn r tr en ps g f ow hro hr hp hpl hpa hpp hst how hin hpo ha
theorem r_StepDq (d : List Sec) (a : List (List Int)) (e : List Pnt) (c : List (List Int)) (cn : Int) (r tr en : Int) (ps : List Int) (g : Int) (f ow : List Int) (qs : List Int) (hro : c.length ≤ 65536) (hr : 0 ≤ r ∧ r < (c.length : Int)) (hp : ps.length + 1 = (c.getD r.toNat []).length) (hpl : (c.getD r.toNat []).length ≤ 65536) (hpa : a.length ≤ 65536) (hpp : ∀ x, x ∈ a → x.length ≤ 65536) (hst : f.length ≤ 65536) (how : ow.length ≤ 65536) (hin : ∀ s, s ∈ pthR c r → 0 ≤ s ∧ s < (f.length : Int)) (hpo : ∀ s : Int, 0 ≤ s → s < (f.length : Int) → 0 ≤ partI a s ∧ partI a s < (ow.length : Int)) (hq : (tnK c a f ow g r tr en ps ps.length) = qs) (ha : qs.any (fun b : Int => b != 0) = false) : FnGO Try.prog 11 [⟨[.one, .ro d.length (enc eSec d), .ro a.length (enc eIL a), .ro e.length (enc ePnt e), .ro c.length (enc eIL c), .one, .one, .one, .v (.int .i64 cn), .one, .rp [.one, .ro d.length (enc eSec d), .ro a.length (enc eIL a), .ro e.length (enc ePnt e), .one, .one, .one, .one, .one, .one], .sl 1 0 1], 65, 1⟩, ⟨[.pt 2 0], 69, 1⟩, ⟨[.v (.int .i64 r), .v (.int .i64 tr), .v (.int .i64 en), .sl 3 0 ps.length], 47, 1⟩, ⟨(enc eU8 ps), 5, 1⟩] [.pt 0 0, .v (.int .i64 g), .ro f.length (enc eU8 f), .ro ow.length (enc eI ow)] (.tup []) [.live ⟨[.one, .ro d.length (enc eSec d), .ro a.length (enc eIL a), .ro e.length (enc ePnt e), .ro c.length (enc eIL c), .one, .one, .one, .v (.int .i64 cn), .one, .rp [.one, .ro d.length (enc eSec d), .ro a.length (enc eIL a), .ro e.length (enc ePnt e), .one, .one, .one, .one, .one, .one], .sl 1 0 0], 65, 1⟩, .live ⟨[.v (.pointer none)], 69, 1⟩, .live ⟨[.v (.int .i64 r), .v (.int .i64 tr), .v (.int .i64 en), .sl 3 0 qs.length], 47, 1⟩, .live ⟨(enc eU8 qs), 5, 1⟩] := by subst hq; exact r_StepD d a e c cn r tr en ps g f ow hro hr hp hpl hpa hpp hst how hin hpo ha
theorem ft53_3 : fieldT Try.prog 53 3 = some (37, 3) := by kernel_rfl
theorem ft53_4 : fieldT Try.prog 53 4 = some (37, 4) := by kernel_rfl
theorem ft53_5 : fieldT Try.prog 53 5 = some (38, 5) := by kernel_rfl
theorem ft53_6 : fieldT Try.prog 53 6 = some (37, 6) := by kernel_rfl
theorem sz53 : (Try.prog.info? 53).map (·.size) = some 8 := by kernel_rfl
theorem ut50 : Try.prog.underlying 50 = some (.slice 53) := by kernel_rfl
abbrev Z70 : Nat → AV := (upd (upd (upd none_ 2 (.pt 2 0)) 3 (.pt 3 0)) 4 vN)
abbrev Z6z (a : List Sec) : LObj := ⟨[.one, .q eSec a, .one, .one, .one, .one, .one, .one, .one, .one], 33, 1⟩
abbrev Z6y (x : Act) : LObj := ⟨[.v (.int .u8 x.dw), .v (.int .u8 x.n), .v (.int .u8 x.tr), .q eU8 x.sts, .q eU8 x.ow, .q eB x.rt, .q eU8 x.sp, .v (.int .u8 x.tk)], 53, 1⟩
abbrev Z6x (x : Act) (k : Nat) : Nat → AV := (upd (upd Z70 5 (.sl 1 0 ((stL x k).length))) 6 (.i (k : Int)))
abbrev Z6w (x : Act) (k : Nat) (a : List Sec) : Nat → OSt := (updO (updO (updO noOb 1 (.live ⟨(enc eU8 (stL x k)), 5, 1⟩)) 2 (.live (Z6z a))) 3 (.live (Z6y x)))
theorem l15_states (a : List Sec) (x : Act) (hs : a.length ≤ 65536) (hx : ActOk x) : Fn Try.prog 16 [.agg [.one, .ro a.length (enc eSec a), .one, .one, .one, .one, .one, .one, .one, .one], .agg [.v (.int .u8 x.dw), .v (.int .u8 x.n), .v (.int .u8 x.tr), .ro x.sts.length (enc eU8 x.sts), .ro x.ow.length (enc eU8 x.ow), .ro x.rt.length (enc eB x.rt), .ro x.sp.length (enc eU8 x.sp), .v (.int .u8 x.tk)]] (.ro ((stL x a.length).length) (enc eU8 (stL x a.length))) := by
 have hx1 := hx.dw
 have hx2 := hx.n
 have hx3 := hx.tr
 have hx4 := hx.tk
 have hx5 := hx.l1
 have hx6 := hx.l2
 have hx7 := hx.l3
 have hx8 := hx.l4
 refine fnE_of_body (N := 39) Try.func16 rfl rfl (resOf1 rfl) (by simp) (fun w0 X hL_ => ?_)
 refine seqR ?_
 refine oG (qW 51 ?_)
 refine oG (qW 52 ?_)
 refine mG vN ?_
 refine op0 ?_
 refine seqR ?_
 refine mG vN ?_
 refine rU (upd (upd (upd (upd none_ 2 (.pt 51 0)) 3 (.pt 52 0)) 4 vN) 5 vN) (updO (updO noOb 51 (.live (Z6z a))) 52 (.live (Z6y x))) ?_
 refine awp_seq ?_
 refine seqR ?_
 refine mG (.i 0) ?_
 refine op0 ?_
 refine awp_block ?_
 refine awp_countI (fun k => ⟨(Z6x x k), (Z6w x k a)⟩) (fun k => True) (a.length) ?_ trivial (fun k hk_k hinv => ?_)
 ·skip
  refine (imp_adopt 5 53 5 1 rfl rfl).trans ?_
  exact iL [(53, 1), (51, 2), (52, 3)] [((53, 1), .live _), ((51, 2), .live _), ((52, 3), .live _)] ⟨row_no (o := ⟨[], 5, 1⟩) rfl rfl, row_no rfl rfl, row_no rfl rfl, trivial⟩
 have hsl := stL_len (x := x) (k := k)
 refine awp_seq ?_
 refine seqR ?_
 refine mG (.i (k : Int)) ?_
 refine fG (.pt 2 1) ft33_1 sz29 ?_
 refine oG (qL (.q eSec a) ag29 ?_)
 refine oG (qN ut29 ?_)
 refine bG ((.bool (decide ((k : Int) < (a.length : Int))))) ?_
 refine rU (upd (Z6x x k) 12 (.b (decide ((k : Int) < (a.length : Int))))) (Z6w x k a) ?_
 refine awp_cond (decide ((k : Int) < (a.length : Int))) rfl rfl (fun hc0 => ?_) (fun hc0 => ?_)
 ·skip
  have hf1 := of_decide_eq_true hc0
  refine awp_skip ?_
  refine awp_seq ?_
  refine awp_block ?_
  refine seqR ?_
  refine mG (.v (.int .u8 0)) ?_
  refine op0 ?_
  refine awp_seq ?_
  refine seqR ?_
  refine mG (.i (k : Int)) ?_
  refine fG (.pt 3 3) ft53_3 sz37 ?_
  refine oG (qL (.q eU8 x.sts) ag37 ?_)
  refine oG (qN ut37 ?_)
  refine bG ((.bool (decide ((k : Int) < (x.sts.length : Int))))) ?_
  refine mG (.b (decide ((k : Int) < (x.sts.length : Int)))) ?_
  refine aops_grp 7 27 (.b ((decide ((k : Int) < (x.sts.length : Int))) && (decide ((x.sts.getD k 0) ≥ 128)))) ?_ ?_
  ·refine (Bool.eq_false_or_eq_true (decide ((k : Int) < (x.sts.length : Int)))).elim (fun hg2 => ?_) (fun hg2 => ?_)
   ·skip
    have hf3 := of_decide_eq_true hg2
    refine oY hg2 (qF (.pt 3 0) (.pt 3 3) ft53_3 sz37 ?_)
    refine oY hg2 (qL (.q eU8 x.sts) ag37 ?_)
    refine oY hg2 (qM (.i (k : Int)) ?_)
    refine oY hg2 (qX (0 : Int) ut37 sz5 ?_)
    refine oY hg2 (qL (.v (.int .u8 (x.sts.getD k 0))) ag5 ?_)
    refine oY hg2 (qB (.bool (decide ((x.sts.getD k 0) ≥ 128))) rfl ?_)
    refine oG (qP (decide ((k : Int) < (x.sts.length : Int))) (.b (decide ((x.sts.getD k 0) ≥ 128))) hg2 ?_)
    refine op0 ?_
    exact imp_env (lee_both 27 _ _ (by rw [hg2] <;> rfl) lO)
   have hf4 := of_decide_eq_false hg2
   refine nG hg2 ?_
   refine nG hg2 ?_
   refine nG hg2 ?_
   refine nG hg2 ?_
   refine nG hg2 ?_
   refine nG hg2 ?_
   refine oG (qP (decide ((k : Int) < (x.sts.length : Int))) (.b false) hg2 ?_)
   refine op0 ?_
   exact imp_env (lee_both 27 _ _ (by rw [hg2] <;> rfl) lO)
  refine op0 ?_
  refine rT (upd (upd (Z6x x k) 7 (.v (.int .u8 0))) 27 (.b ((decide ((k : Int) < (x.sts.length : Int))) && (decide ((x.sts.getD k 0) ≥ 128))))) (Z6w x k a) ?_
  refine cutG ⟨(upd (Z6x x k) 7 (.v (.int .u8 (stA x k)))), (Z6w x k a)⟩ (fun s h => h) ?_ ?_
  ·skip
   refine awp_cond ((decide ((k : Int) < (x.sts.length : Int))) && (decide ((x.sts.getD k 0) ≥ 128))) rfl rfl (fun hc1 => ?_) (fun hc1 => ?_)
   ·skip
    obtain ⟨hf5a, hf5b⟩ := and_t hc1
    have hf6 := of_decide_eq_true hf5a
    have hf7 := of_decide_eq_true hf5b
    have hc_ : k < x.sts.length ∧ x.sts.getD k 0 ≥ 128 := by simp only [Bool.and_eq_true, decide_eq_true_eq] at hc1; exact ⟨by omega, hc1.2⟩
    have hsb := hx.sts _ (getD_mem (l := x.sts) (k := k) 0 hc_.1)
    refine regR ?_
    refine fG (.pt 3 3) ft53_3 sz37 ?_
    refine oG (qL (.q eU8 x.sts) ag37 ?_)
    refine mG (.i (k : Int)) ?_
    refine oG (qX (0 : Int) ut37 sz5 ?_)
    refine oG (qL (.v (.int .u8 (x.sts.getD k 0))) ag5 ?_)
    refine oG (aop_binI (u := (.int .u8 ((x.sts.getD k 0) % 4))) rfl rfl rfl rfl rfl (by show _ ≠ _; decide) (remI om) ?_)
    refine mG (.v (.int .u8 ((x.sts.getD k 0) % 4))) ?_
    refine op0 ?_
    show Imp _ _ _
    exact iL [(1, 1), (2, 2), (3, 3)] [((1, 1), .live _), ((2, 2), .live _), ((3, 3), .live _)] ⟨row_no rfl rfl, row_no rfl rfl, row_no rfl rfl, trivial⟩ (he := (sS (by exact congrArg (fun n_ : Int => AV.v (.int .u8 n_)) (by first | exact stA_t hc_ | exact stA_f hc_)) (sS rfl (sM rfl (sS rfl (sM rfl (sM rfl sr_none)))))))
   have hc_ : ¬ (k < x.sts.length ∧ x.sts.getD k 0 ≥ 128) := fun h => by rw [decide_eq_true (show (k : Int) < (x.sts.length : Int) by omega), decide_eq_true h.2] at hc1; cases hc1
   refine awp_skip ?_
   show Imp _ _ _
   exact iL [(1, 1), (2, 2), (3, 3)] [((1, 1), .live _), ((2, 2), .live _), ((3, 3), .live _)] ⟨row_no rfl rfl, row_no rfl rfl, row_no rfl rfl, trivial⟩ (he := (sS (by exact congrArg (fun n_ : Int => AV.v (.int .u8 n_)) (by first | exact stA_t hc_ | exact stA_f hc_)) (sS rfl (sM rfl (sS rfl (sM rfl (sM rfl sr_none)))))))
  refine regR ?_
  refine mG (.sl 1 0 ((stL x k).length)) ?_
  refine mG (.v (.int .u8 (stA x k))) ?_
  refine oG (aop_lit rfl rfl rfl ut37 iz5 (by decide) (by decide) rfl rfl ?_)
  refine oG (aop_app1 (f := eU8) (l := stL x k) 54 (stA x k : Int) rfl rfl rfl rfl ut37 in5 rfl (by decide) rfl rfl rfl rfl rfl rfl (fun _ => rfl) rfl rfl oo oo rfl ?_)
  refine mG (.sl 54 0 (((stL x k) ++ [(stA x k : Int)]).length)) ?_
  refine op0 ?_
  refine rT (upd (upd (upd Z70 5 (.sl 54 0 (((stL x k) ++ [(stA x k : Int)]).length))) 6 (.i (k : Int))) 7 (.v (.int .u8 (stA x k)))) (updO (updO (Z6w x k a) 1 .dead) 54 (.live ⟨(enc eU8 ((stL x k) ++ [(stA x k : Int)])), 5, 1⟩)) ?_
  refine regR ?_
  refine mG (.i (k : Int)) ?_
  refine oG (qB (.int .i64 ((k + 1 : Nat) : Int)) (addN om) ?_)
  refine mG (.i ((k + 1 : Nat) : Int)) ?_
  refine op0 ?_
  show _ ∧ _
  have hs_ := stL_step (x := x) (k := k)
  refine ⟨by omega, trivial, ?_⟩
  exact iL [(54, 1), (2, 2), (3, 3)] [((54, 1), .live _), ((2, 2), .live _), ((3, 3), .live _)] ⟨row_no rfl (by exact congrArg (fun l_ => LObj.mk (enc eU8 l_) 5 1) hs_), row_no rfl rfl, row_no rfl rfl, trivial⟩ (he := (sS rfl (sM (by exact congrArg (AV.sl 1 0) (congrArg List.length hs_.symm)) (sS rfl (sM rfl (sM rfl sr_none))))))
 have hf8 := of_decide_eq_false hc0
 refine awp_exit ?_
 refine seqR ?_
 refine mG (.sl 1 0 ((stL x k).length)) ?_
 refine mG (.sl 1 0 ((stL x k).length)) ?_
 refine op0 ?_
 refine awp_imp _ (imp_frozen rfl (fun _ h => h) (lee_lend 4 (.q eU8 (stL x k)) (lend_s (id := 1) (n := (stL x k).length) (o := ⟨(enc eU8 (stL x k)), 5, 1⟩) rfl (enc_len (fun _ => rfl) (by first | rfl | (simp; done)))) lee_lend0)) ?_
 refine awp_ret ?_
 exact fret (av := .ro ((stL x k).length) (enc eU8 (stL x k))) rfl rfl (by rw [show k = a.length by omega])
abbrev Z75 (a : List (List Int)) : LObj := ⟨[.one, .one, .q eIL a, .one, .one, .one, .one, .one, .one, .one], 33, 1⟩
abbrev Z74 : Nat → AV := (upd (upd (upd none_ 2 (.pt 2 0)) 3 (.pt 3 0)) 4 vN)
abbrev Z73 (x : Act) : LObj := ⟨[.v (.int .u8 x.dw), .v (.int .u8 x.n), .v (.int .u8 x.tr), .q eU8 x.sts, .q eU8 x.ow, .q eB x.rt, .q eU8 x.sp, .v (.int .u8 x.tk)], 53, 1⟩
abbrev Z72 (x : Act) (k : Nat) : Nat → AV := (upd (upd Z74 5 (.sl 1 0 ((owL x k).length))) 6 (.i (k : Int)))
abbrev Z71 (x : Act) (k : Nat) (a : List (List Int)) : Nat → OSt := (updO (updO (updO noOb 1 (.live ⟨(enc eI (owL x k)), 3, 1⟩)) 2 (.live (Z75 a))) 3 (.live (Z73 x)))
theorem l15_owners (a : List (List Int)) (x : Act) (hp : a.length ≤ 65536) (hx : ActOk x) : Fn Try.prog 17 [.agg [.one, .one, .ro a.length (enc eIL a), .one, .one, .one, .one, .one, .one, .one], .agg [.v (.int .u8 x.dw), .v (.int .u8 x.n), .v (.int .u8 x.tr), .ro x.sts.length (enc eU8 x.sts), .ro x.ow.length (enc eU8 x.ow), .ro x.rt.length (enc eB x.rt), .ro x.sp.length (enc eU8 x.sp), .v (.int .u8 x.tk)]] (.ro ((owL x a.length).length) (enc eI (owL x a.length))) := by
 have hx1 := hx.dw
 have hx2 := hx.n
 have hx3 := hx.tr
 have hx4 := hx.tk
 have hx5 := hx.l1
 have hx6 := hx.l2
 have hx7 := hx.l3
 have hx8 := hx.l4
 refine fnE_of_body (N := 33) Try.func17 rfl rfl (resOf1 rfl) (by simp) (fun w0 X hL_ => ?_)
 refine seqR ?_
 refine oG (qW 51 ?_)
 refine oG (qW 52 ?_)
 refine mG vN ?_
 refine op0 ?_
 refine seqR ?_
 refine mG vN ?_
 refine rU (upd (upd (upd (upd none_ 2 (.pt 51 0)) 3 (.pt 52 0)) 4 vN) 5 vN) (updO (updO noOb 51 (.live (Z75 a))) 52 (.live (Z73 x))) ?_
 refine awp_seq ?_
 refine seqR ?_
 refine mG (.i 0) ?_
 refine op0 ?_
 refine awp_block ?_
 refine awp_countI (fun k => ⟨(Z72 x k), (Z71 x k a)⟩) (fun k => True) (a.length) ?_ trivial (fun k hk_k hinv => ?_)
 ·skip
  refine (imp_adopt 5 53 3 1 rfl rfl).trans ?_
  exact iL [(53, 1), (51, 2), (52, 3)] [((53, 1), .live _), ((51, 2), .live _), ((52, 3), .live _)] ⟨row_no (o := ⟨[], 3, 1⟩) rfl rfl, row_no rfl rfl, row_no rfl rfl, trivial⟩
 have hsl := owL_len (x := x) (k := k)
 refine awp_seq ?_
 refine seqR ?_
 refine mG (.i (k : Int)) ?_
 refine fG (.pt 2 2) ft33_2 sz30 ?_
 refine oG (qL (.q eIL a) ag30 ?_)
 refine oG (qN ut30 ?_)
 refine bG ((.bool (decide ((k : Int) < (a.length : Int))))) ?_
 refine rU (upd (Z72 x k) 12 (.b (decide ((k : Int) < (a.length : Int))))) (Z71 x k a) ?_
 refine awp_cond (decide ((k : Int) < (a.length : Int))) rfl rfl (fun hc0 => ?_) (fun hc0 => ?_)
 ·skip
  have hf1 := of_decide_eq_true hc0
  refine awp_skip ?_
  refine awp_seq ?_
  refine awp_block ?_
  refine seqR ?_
  refine mG (.i (-2)) ?_
  refine op0 ?_
  refine awp_seq ?_
  refine seqR ?_
  refine mG (.i (k : Int)) ?_
  refine fG (.pt 3 4) ft53_4 sz37 ?_
  refine oG (qL (.q eU8 x.ow) ag37 ?_)
  refine oG (qN ut37 ?_)
  refine bG ((.bool (decide ((k : Int) < (x.ow.length : Int))))) ?_
  refine rU (upd (upd (Z72 x k) 7 (.i (-2))) 19 (.b (decide ((k : Int) < (x.ow.length : Int))))) (Z71 x k a) ?_
  refine cutG ⟨(upd (Z72 x k) 7 (.i (owA x k))), (Z71 x k a)⟩ (fun s h => h) ?_ ?_
  ·skip
   refine awp_cond (decide ((k : Int) < (x.ow.length : Int))) rfl rfl (fun hc1 => ?_) (fun hc1 => ?_)
   ·skip
    have hf2 := of_decide_eq_true hc1
    have hc_ : k < x.ow.length := by omega
    have hsb := hx.ow _ (getD_mem (l := x.ow) (k := k) 0 hc_)
    refine regR ?_
    refine fG (.pt 3 4) ft53_4 sz37 ?_
    refine oG (qL (.q eU8 x.ow) ag37 ?_)
    refine mG (.i (k : Int)) ?_
    refine oG (qX (0 : Int) ut37 sz5 ?_)
    refine oG (qL (.v (.int .u8 (x.ow.getD k 0))) ag5 ?_)
    refine oG (aop_binI (u := (.int .u8 ((x.ow.getD k 0) % 5))) rfl rfl rfl rfl rfl (by show _ ≠ _; decide) (remI om) ?_)
    refine oG (aop_conv' rfl rfl rfl ut5 ut3 rfl (IntWalk.i64_in _ om) ?_)
    refine oG (qB (.int .i64 (((x.ow.getD k 0) % 5) - 2)) (subI om) ?_)
    refine mG (.i (((x.ow.getD k 0) % 5) - 2)) ?_
    refine op0 ?_
    show Imp _ _ _
    exact iL [(1, 1), (2, 2), (3, 3)] [((1, 1), .live _), ((2, 2), .live _), ((3, 3), .live _)] ⟨row_no rfl rfl, row_no rfl rfl, row_no rfl rfl, trivial⟩ (he := (sS (by exact congrArg (fun n_ : Int => AV.v (.int .i64 n_)) (by first | exact owA_t hc_ | exact owA_f hc_)) (sS rfl (sM rfl (sS rfl (sM rfl (sM rfl sr_none)))))))
   have hf3 := of_decide_eq_false hc1
   have hc_ : ¬ k < x.ow.length := by omega
   refine awp_skip ?_
   show Imp _ _ _
   exact iL [(1, 1), (2, 2), (3, 3)] [((1, 1), .live _), ((2, 2), .live _), ((3, 3), .live _)] ⟨row_no rfl rfl, row_no rfl rfl, row_no rfl rfl, trivial⟩ (he := (sS (by exact congrArg (fun n_ : Int => AV.v (.int .i64 n_)) (by first | exact owA_t hc_ | exact owA_f hc_)) (sS rfl (sM rfl (sS rfl (sM rfl (sM rfl sr_none)))))))
  refine regR ?_
  refine mG (.sl 1 0 ((owL x k).length)) ?_
  refine mG (.i (owA x k)) ?_
  refine oG (aop_lit rfl rfl rfl ut42 iz3 (by decide) (by decide) rfl rfl ?_)
  refine oG (aop_app1 (f := eI) (l := owL x k) 54 (owA x k : Int) rfl rfl rfl rfl ut42 in3 rfl (by decide) rfl rfl rfl rfl rfl rfl (fun _ => rfl) rfl rfl oo oo rfl ?_)
  refine mG (.sl 54 0 (((owL x k) ++ [(owA x k : Int)]).length)) ?_
  refine op0 ?_
  refine rT (upd (upd (upd Z74 5 (.sl 54 0 (((owL x k) ++ [(owA x k : Int)]).length))) 6 (.i (k : Int))) 7 (.i (owA x k))) (updO (updO (Z71 x k a) 1 .dead) 54 (.live ⟨(enc eI ((owL x k) ++ [(owA x k : Int)])), 3, 1⟩)) ?_
  refine regR ?_
  refine mG (.i (k : Int)) ?_
  refine oG (qB (.int .i64 ((k + 1 : Nat) : Int)) (addN om) ?_)
  refine mG (.i ((k + 1 : Nat) : Int)) ?_
  refine op0 ?_
  show _ ∧ _
  have hs_ := owL_step (x := x) (k := k)
  refine ⟨by omega, trivial, ?_⟩
  exact iL [(54, 1), (2, 2), (3, 3)] [((54, 1), .live _), ((2, 2), .live _), ((3, 3), .live _)] ⟨row_no rfl (by exact congrArg (fun l_ => LObj.mk (enc eI l_) 3 1) hs_), row_no rfl rfl, row_no rfl rfl, trivial⟩ (he := (sS rfl (sM (by exact congrArg (AV.sl 1 0) (congrArg List.length hs_.symm)) (sS rfl (sM rfl (sM rfl sr_none))))))
 have hf4 := of_decide_eq_false hc0
 refine awp_exit ?_
 refine seqR ?_
 refine mG (.sl 1 0 ((owL x k).length)) ?_
 refine mG (.sl 1 0 ((owL x k).length)) ?_
 refine op0 ?_
 refine awp_imp _ (imp_frozen rfl (fun _ h => h) (lee_lend 4 (.q eI (owL x k)) (lend_s (id := 1) (n := (owL x k).length) (o := ⟨(enc eI (owL x k)), 3, 1⟩) rfl (enc_len (fun _ => rfl) (by first | rfl | (simp; done)))) lee_lend0)) ?_
 refine awp_ret ?_
 exact fret (av := .ro ((owL x k).length) (enc eI (owL x k))) rfl rfl (by rw [show k = a.length by omega])
abbrev Z79 (l : List Act) (k : Nat) : List AV := (enc eB ((l.getD k dAc).rt))
abbrev Z78 (l : List Act) (k : Nat) : List AV := (enc eU8 ((l.getD k dAc).sp))
abbrev Z77 (l : List Act) (k : Nat) : Nat → AV := (upd (upd (upd none_ 0 (.q eAc l)) 2 (.b false)) 3 (.i (k : Int)))
abbrev Z76 (l : List Act) (k : Nat) : AV := (.rp (([.v (.int .u8 ((l.getD k dAc).dw)), .v (.int .u8 ((l.getD k dAc).n)), .v (.int .u8 ((l.getD k dAc).tr)), .ro ((l.getD k dAc).sts.length) (enc eU8 ((l.getD k dAc).sts)), .ro ((l.getD k dAc).ow.length) (enc eU8 ((l.getD k dAc).ow)), .ro ((l.getD k dAc).rt.length) (Z79 l k), .ro ((l.getD k dAc).sp.length) (Z78 l k), .v (.int .u8 ((l.getD k dAc).tk))] : List AV) ++ ((enc eAc l).drop ((k + 1) * 8))))
theorem l15_small (l : List Act) (hl : l.length ≤ maxLen) (hxs : ∀ x, x ∈ l → ActOk x) : Fn Try.prog 14 [.ro l.length (enc eAc l)] (.v (.bool (smL l))) := by
 have hmx : maxLen = 9223372036854775807 := rfl
 refine fnE_of_body (N := 47) Try.func14 rfl rfl (resOf1 rfl) (by simp) (fun w0 X hL_ => ?_)
 refine seqR ?_
 refine mG (.b false) ?_
 refine op0 ?_
 refine awp_seq ?_
 refine seqR ?_
 refine mG (.i 0) ?_
 refine op0 ?_
 refine awp_block ?_
 refine awp_countI (fun k => ⟨(Z77 l k), noOb⟩) (fun k => (l.take k).any bigA = false) (l.length) ?_ (by simp) (fun k hk_k hinv => ?_)
 ·skip
  exact iN
 refine awp_seq ?_
 refine seqR ?_
 refine mG (.i (k : Int)) ?_
 refine mG (.q eAc l) ?_
 refine oG (qN ut50 ?_)
 refine bG ((.bool (decide ((k : Int) < (l.length : Int))))) ?_
 refine rU (upd (Z77 l k) 7 (.b (decide ((k : Int) < (l.length : Int))))) noOb ?_
 refine awp_cond (decide ((k : Int) < (l.length : Int))) rfl rfl (fun hc0 => ?_) (fun hc0 => ?_)
 ·skip
  have hf1 := of_decide_eq_true hc0
  have hxk := hxs _ (getD_mem (l := l) (k := k) dAc om)
  have hx5 := hxk.l1
  have hx6 := hxk.l2
  have hx7 := hxk.l3
  have hx8 := hxk.l4
  refine awp_skip ?_
  refine awp_seq ?_
  refine awp_block ?_
  refine seqR ?_
  refine mG (.q eAc l) ?_
  refine mG (.i (k : Int)) ?_
  refine oG (qX dAc ut50 sz53 ?_)
  refine oG (qF (Z76 l k) (.rp (([.ro ((l.getD k dAc).sts.length) (enc eU8 ((l.getD k dAc).sts)), .ro ((l.getD k dAc).ow.length) (enc eU8 ((l.getD k dAc).ow)), .ro ((l.getD k dAc).rt.length) (Z79 l k), .ro ((l.getD k dAc).sp.length) (Z78 l k), .v (.int .u8 ((l.getD k dAc).tk))] : List AV) ++ ((enc eAc l).drop ((k + 1) * 8)))) ft53_3 sz37 ?_)
  refine oG (qL (.ro ((l.getD k dAc).sts.length) (enc eU8 ((l.getD k dAc).sts))) ag37 ?_)
  refine oG (qN ut37 ?_)
  refine bG ((.bool (decide (((l.getD k dAc).sts.length : Int) > 20)))) ?_
  refine mG (.b (decide (((l.getD k dAc).sts.length : Int) > 20))) ?_
  refine aops_grp 8 25 (.b ((decide (((l.getD k dAc).sts.length : Int) > 20)) || (decide (((l.getD k dAc).ow.length : Int) > 20)))) ?_ ?_
  ·refine (Bool.eq_false_or_eq_true (decide (((l.getD k dAc).sts.length : Int) > 20))).elim (fun hg2 => ?_) (fun hg2 => ?_)
   ·skip
    have hf3 := of_decide_eq_true hg2
    refine nG hg2 ?_
    refine nG hg2 ?_
    refine nG hg2 ?_
    refine nG hg2 ?_
    refine nG hg2 ?_
    refine nG hg2 ?_
    refine nG hg2 ?_
    refine oG (qP (decide (((l.getD k dAc).sts.length : Int) > 20)) (.b true) hg2 ?_)
    refine op0 ?_
    exact imp_env (lee_both 25 _ _ (by rw [hg2] <;> rfl) lO)
   have hf4 := of_decide_eq_false hg2
   refine oY hg2 (qM (.q eAc l) ?_)
   refine oY hg2 (qM (.i (k : Int)) ?_)
   refine oY hg2 (qX dAc ut50 sz53 ?_)
   refine oY hg2 (qF (Z76 l k) (.rp (([.ro ((l.getD k dAc).ow.length) (enc eU8 ((l.getD k dAc).ow)), .ro ((l.getD k dAc).rt.length) (Z79 l k), .ro ((l.getD k dAc).sp.length) (Z78 l k), .v (.int .u8 ((l.getD k dAc).tk))] : List AV) ++ ((enc eAc l).drop ((k + 1) * 8)))) ft53_4 sz37 ?_)
   refine oY hg2 (qL (.ro ((l.getD k dAc).ow.length) (enc eU8 ((l.getD k dAc).ow))) ag37 ?_)
   refine oY hg2 (qN ut37 ?_)
   refine oY hg2 (qB (.bool (decide (((l.getD k dAc).ow.length : Int) > 20))) rfl ?_)
   refine oG (qP (decide (((l.getD k dAc).sts.length : Int) > 20)) (.b (decide (((l.getD k dAc).ow.length : Int) > 20))) hg2 ?_)
   refine op0 ?_
   exact imp_env (lee_both 25 _ _ (by rw [hg2] <;> rfl) lO)
  refine mG (.b ((decide (((l.getD k dAc).sts.length : Int) > 20)) || (decide (((l.getD k dAc).ow.length : Int) > 20)))) ?_
  refine aops_grp 8 34 (.b (((decide (((l.getD k dAc).sts.length : Int) > 20)) || (decide (((l.getD k dAc).ow.length : Int) > 20))) || (decide (((l.getD k dAc).rt.length : Int) > 8)))) ?_ ?_
  ·refine (Bool.eq_false_or_eq_true ((decide (((l.getD k dAc).sts.length : Int) > 20)) || (decide (((l.getD k dAc).ow.length : Int) > 20)))).elim (fun hg5 => ?_) (fun hg5 => ?_)
   ·skip
    refine nG hg5 ?_
    refine nG hg5 ?_
    refine nG hg5 ?_
    refine nG hg5 ?_
    refine nG hg5 ?_
    refine nG hg5 ?_
    refine nG hg5 ?_
    refine oG (qP ((decide (((l.getD k dAc).sts.length : Int) > 20)) || (decide (((l.getD k dAc).ow.length : Int) > 20))) (.b true) hg5 ?_)
    refine op0 ?_
    exact imp_env (lee_both 34 _ _ (by rw [hg5] <;> rfl) lO)
   obtain ⟨hf6a, hf6b⟩ := or_f hg5
   have hf7 := of_decide_eq_false hf6a
   have hf8 := of_decide_eq_false hf6b
   refine oY hg5 (qM (.q eAc l) ?_)
   refine oY hg5 (qM (.i (k : Int)) ?_)
   refine oY hg5 (qX dAc ut50 sz53 ?_)
   refine oY hg5 (qF (Z76 l k) (.rp (([.ro ((l.getD k dAc).rt.length) (Z79 l k), .ro ((l.getD k dAc).sp.length) (Z78 l k), .v (.int .u8 ((l.getD k dAc).tk))] : List AV) ++ ((enc eAc l).drop ((k + 1) * 8)))) ft53_5 sz38 ?_)
   refine oY hg5 (qL (.ro ((l.getD k dAc).rt.length) (Z79 l k)) ag38 ?_)
   refine oY hg5 (qN ut38 ?_)
   refine oY hg5 (qB (.bool (decide (((l.getD k dAc).rt.length : Int) > 8))) rfl ?_)
   refine oG (qP ((decide (((l.getD k dAc).sts.length : Int) > 20)) || (decide (((l.getD k dAc).ow.length : Int) > 20))) (.b (decide (((l.getD k dAc).rt.length : Int) > 8))) hg5 ?_)
   refine op0 ?_
   exact imp_env (lee_both 34 _ _ (by rw [hg5] <;> rfl) lO)
  refine mG (.b (((decide (((l.getD k dAc).sts.length : Int) > 20)) || (decide (((l.getD k dAc).ow.length : Int) > 20))) || (decide (((l.getD k dAc).rt.length : Int) > 8)))) ?_
  refine aops_grp 8 43 (.b ((((decide (((l.getD k dAc).sts.length : Int) > 20)) || (decide (((l.getD k dAc).ow.length : Int) > 20))) || (decide (((l.getD k dAc).rt.length : Int) > 8))) || (decide (((l.getD k dAc).sp.length : Int) > 6)))) ?_ ?_
  ·refine (Bool.eq_false_or_eq_true (((decide (((l.getD k dAc).sts.length : Int) > 20)) || (decide (((l.getD k dAc).ow.length : Int) > 20))) || (decide (((l.getD k dAc).rt.length : Int) > 8)))).elim (fun hg9 => ?_) (fun hg9 => ?_)
   ·skip
    refine nG hg9 ?_
    refine nG hg9 ?_
    refine nG hg9 ?_
    refine nG hg9 ?_
    refine nG hg9 ?_
    refine nG hg9 ?_
    refine nG hg9 ?_
    refine oG (qP (((decide (((l.getD k dAc).sts.length : Int) > 20)) || (decide (((l.getD k dAc).ow.length : Int) > 20))) || (decide (((l.getD k dAc).rt.length : Int) > 8))) (.b true) hg9 ?_)
    refine op0 ?_
    exact imp_env (lee_both 43 _ _ (by rw [hg9] <;> rfl) lO)
   obtain ⟨hf10a, hf10b⟩ := or_f hg9
   obtain ⟨hf11a, hf11b⟩ := or_f hf10a
   have hf12 := of_decide_eq_false hf11a
   have hf13 := of_decide_eq_false hf11b
   have hf14 := of_decide_eq_false hf10b
   refine oY hg9 (qM (.q eAc l) ?_)
   refine oY hg9 (qM (.i (k : Int)) ?_)
   refine oY hg9 (qX dAc ut50 sz53 ?_)
   refine oY hg9 (qF (Z76 l k) (.rp (([.ro ((l.getD k dAc).sp.length) (Z78 l k), .v (.int .u8 ((l.getD k dAc).tk))] : List AV) ++ ((enc eAc l).drop ((k + 1) * 8)))) ft53_6 sz37 ?_)
   refine oY hg9 (qL (.ro ((l.getD k dAc).sp.length) (Z78 l k)) ag37 ?_)
   refine oY hg9 (qN ut37 ?_)
   refine oY hg9 (qB (.bool (decide (((l.getD k dAc).sp.length : Int) > 6))) rfl ?_)
   refine oG (qP (((decide (((l.getD k dAc).sts.length : Int) > 20)) || (decide (((l.getD k dAc).ow.length : Int) > 20))) || (decide (((l.getD k dAc).rt.length : Int) > 8))) (.b (decide (((l.getD k dAc).sp.length : Int) > 6))) hg9 ?_)
   refine op0 ?_
   exact imp_env (lee_both 43 _ _ (by rw [hg9] <;> rfl) lO)
  refine op0 ?_
  refine rT (upd (Z77 l k) 43 (.b ((((decide (((l.getD k dAc).sts.length : Int) > 20)) || (decide (((l.getD k dAc).ow.length : Int) > 20))) || (decide (((l.getD k dAc).rt.length : Int) > 8))) || (decide (((l.getD k dAc).sp.length : Int) > 6))))) noOb ?_
  refine awp_cond ((((decide (((l.getD k dAc).sts.length : Int) > 20)) || (decide (((l.getD k dAc).ow.length : Int) > 20))) || (decide (((l.getD k dAc).rt.length : Int) > 8))) || (decide (((l.getD k dAc).sp.length : Int) > 6))) rfl rfl (fun hc1 => ?_) (fun hc1 => ?_)
  ·skip
   have hya : l.any bigA = true := any_stop dAc om hc1
   refine seqR ?_
   refine mG (.b false) ?_
   refine op0 ?_
   refine awp_ret ?_
   exact fret (av := .v (.bool false)) rfl rfl (by unfold smL; rw [hya]; rfl)
  obtain ⟨hf15a, hf15b⟩ := or_f hc1
  obtain ⟨hf16a, hf16b⟩ := or_f hf15a
  obtain ⟨hf17a, hf17b⟩ := or_f hf16a
  have hf18 := of_decide_eq_false hf17a
  have hf19 := of_decide_eq_false hf17b
  have hf20 := of_decide_eq_false hf16b
  have hf21 := of_decide_eq_false hf15b
  refine awp_skip ?_
  refine regR ?_
  refine mG (.i (k : Int)) ?_
  refine oG (qB (.int .i64 ((k + 1 : Nat) : Int)) (addN om) ?_)
  refine mG (.i ((k + 1 : Nat) : Int)) ?_
  refine op0 ?_
  show _ ∧ _
  refine ⟨by omega, (any_step dAc om hinv hc1), ?_⟩
  exact iN
 have hf22 := of_decide_eq_false hc0
 have hna := any_end om hinv
 refine awp_exit ?_
 refine seqR ?_
 refine mG (.q eAc l) ?_
 refine oG (qN ut50 ?_)
 refine bG ((.bool (decide ((l.length : Int) ≤ 50)))) ?_
 refine mG (.b (decide ((l.length : Int) ≤ 50))) ?_
 refine rU (upd none_ 2 (.b (decide ((l.length : Int) ≤ 50)))) noOb ?_
 refine awp_ret ?_
 exact fret (av := .v (.bool (decide ((l.length : Int) ≤ 50)))) rfl rfl (by unfold smL; rw [hna]; rfl)
theorem ag53 : aggT Try.prog 53 = some true := by kernel_rfl
theorem bd14 : bodied Try.prog 14 = true := by kernel_rfl
theorem bd15 : bodied Try.prog 15 = true := by kernel_rfl
theorem bd16 : bodied Try.prog 16 = true := by kernel_rfl
theorem bd17 : bodied Try.prog 17 = true := by kernel_rfl
theorem bd6 : bodied Try.prog 6 = true := by kernel_rfl
theorem bd7 : bodied Try.prog 7 = true := by kernel_rfl
theorem bd8 : bodied Try.prog 8 = true := by kernel_rfl
theorem ft53_0 : fieldT Try.prog 53 0 = some (5, 0) := by kernel_rfl
theorem sz47 : (Try.prog.info? 47).map (·.size) = some 4 := by kernel_rfl
end Go.Lo
