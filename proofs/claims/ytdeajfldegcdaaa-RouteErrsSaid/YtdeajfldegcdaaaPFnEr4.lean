/- Walks of Go functions in the logic of values: what the law reaches. -/
import Derived.Test.YtdeajfldegcdaaaPFnEr3
set_option linter.unusedVariables false
set_option linter.unusedSimpArgs false
set_option maxRecDepth 10000
set_option maxHeartbeats 16000000
namespace Go.Lo
open Go.Proofs
abbrev Z6e (r tr en : Int) (ps : List Int) : Nat → OSt := (updO (updO noOb 1 (.live ⟨[.i r, .i tr, .i en, .sl 2 0 ps.length], 47, 4⟩)) 2 (.live ⟨(enc eU8 ps), 5, 1⟩))
abbrev Z6c : Nat → AV := (upd (upd none_ 2 vN) 3 vN)
abbrev Z66 (r tr en : Int) (ps : List Int) : Lk := (⟨r, tr, en, ps⟩ : Lk)
abbrev Z6a (r tr en : Int) (ps : List Int) : AV := (.ro 1 (enc eLp ([(Z66 r tr en ps)] : List Lk)))
abbrev Z69 (r tr en : Int) (ps : List Int) : AV := (.rp [.one, .one, .one, .one, .one, .one, .one, .one, .one, .one, .one, .ro 1 (enc eLp ([(Z66 r tr en ps)] : List Lk))])
abbrev Z68 (r tr en : Int) (ps : List Int) : List AV := [.i ((([(Z66 r tr en ps)] : List Lk).getD 0 dLk).route), .i ((([(Z66 r tr en ps)] : List Lk).getD 0 dLk).train), .i ((([(Z66 r tr en ps)] : List Lk).getD 0 dLk).ends), .sl 51 0 ps.length]
abbrev Z67 (r tr en : Int) (ps : List Int) : List AV := (enc eU8 ((([(Z66 r tr en ps)] : List Lk).getD 0 dLk).pieces))
abbrev Z65 (r tr en : Int) (ps : List Int) : List AV := [.i ((([(Z66 r tr en ps)] : List Lk).getD 0 dLk).route), .i ((([(Z66 r tr en ps)] : List Lk).getD 0 dLk).train), .i ((([(Z66 r tr en ps)] : List Lk).getD 0 dLk).ends), .ro ((([(Z66 r tr en ps)] : List Lk).getD 0 dLk).pieces.length) (Z67 r tr en ps)]
abbrev Z6d (r tr en : Int) (ps : List Int) : List AV := [.i ((([(Z66 r tr en ps)] : List Lk).getD 0 dLk).ends), .ro ((([(Z66 r tr en ps)] : List Lk).getD 0 dLk).pieces.length) (Z67 r tr en ps)]
abbrev Z6b (r tr en : Int) (ps : List Int) : List AV := [.i ((([(Z66 r tr en ps)] : List Lk).getD 0 dLk).train), .i ((([(Z66 r tr en ps)] : List Lk).getD 0 dLk).ends), .ro ((([(Z66 r tr en ps)] : List Lk).getD 0 dLk).pieces.length) (Z67 r tr en ps)]
theorem r_LocksO (r tr en : Int) (ps : List Int) (hpl : ps.length ≤ 65536) : FnGO Try.prog 12 [] [.rp [.one, .one, .one, .one, .one, .one, .one, .one, .one, .one, .one, .ro 1 (enc eLp ([(⟨r, tr, en, ps⟩ : Lk)] : List Lk))]] (.sl 0 0 1) [.live ⟨[.v (.int .i64 r), .v (.int .i64 tr), .v (.int .i64 en), .sl 1 0 ps.length], 47, 4⟩, .live ⟨(enc eU8 ps), 5, 1⟩] := by
 refine fnG_of_body (N := 40) 0 rfl Try.func12 rfl rfl (resOf1 rfl) (by simp) (fun w0 G C hL_ hLG_ => ?_)
 refine seqR ?_
 refine mG vN ?_
 refine op0 ?_
 refine awp_seq ?_
 refine seqR ?_
 refine mG (Z69 r tr en ps) ?_
 refine oG (aop_ptNil rfl rfl rfl ut35 rfl rfl rfl (.inl ⟨rfl, rfl⟩) ?_)
 refine op0 ?_
 refine awp_cond false rfl rfl (fun h => by cases h) (fun _ => ?_)
 refine awp_skip ?_
 refine seqR ?_
 refine mG vN ?_
 refine rU (upd (upd (upd none_ 0 (Z69 r tr en ps)) 2 vN) 3 vN) noOb ?_
 refine awp_seq ?_
 refine seqR ?_
 refine mG (Z69 r tr en ps) ?_
 refine oG (aop_nilCheck rfl rfl rfl rfl rfl ?_)
 refine oG (qF (Z69 r tr en ps) (.rp [.ro 1 (enc eLp ([(Z66 r tr en ps)] : List Lk))]) ft65_2 sz63 ?_)
 refine oG (qL (Z6a r tr en ps) ag63 ?_)
 refine oG (qN ut63 ?_)
 refine mG (.i 0) ?_
 refine rU (upd (upd (upd Z6c 11 (Z6a r tr en ps)) 12 (.i (1 : Int))) 13 (.i 0)) noOb ?_
 refine awp_block ?_
 refine awp_countI (fun k => match k with | 0 => ⟨(upd (upd (upd Z6c 11 (Z6a r tr en ps)) 12 (.i 1)) 13 (.i 0)), noOb⟩ | _ => ⟨(upd (upd (upd (upd (upd none_ 2 vN) 3 (.sl 1 0 1)) 11 (Z6a r tr en ps)) 12 (.i 1)) 13 (.i 1)), (Z6e r tr en ps)⟩) (fun _ => True) 1 ?_ trivial (fun k hk_k _ => ?_)
 ·skip
  exact iN
 rcases (show k = 0 ∨ k = 1 by omega) with rfl | rfl
 ·show AWP _ _ _ ⟨(upd (upd (upd Z6c 11 (Z6a r tr en ps)) 12 (.i 1)) 13 (.i 0)), noOb⟩ _
  refine seqR ?_
  refine bG ((.bool true)) ?_
  refine op0 ?_
  refine awp_seq ?_
  refine awp_cond true rfl rfl (fun _ => ?_) (fun h => by cases h)
  refine awp_skip ?_
  refine awp_seq ?_
  refine awp_block ?_
  refine seqR ?_
  refine oG (aop_ixE (k := 0) dLk rfl rfl rfl ut63 sz69 rfl rfl (fun _ => rfl) rfl oo ?_)
  refine oG (qL (.rp (Z65 r tr en ps)) ag69 ?_)
  refine mG (.rp (Z65 r tr en ps)) ?_
  refine rU (upd (upd (upd (upd Z6c 5 (.rp (Z65 r tr en ps))) 11 (Z6a r tr en ps)) 12 (.i 1)) 13 (.i 0)) noOb ?_
  refine awp_drawZ (m := 20) (fun b => (updO noOb 51 (cond (b 17) (.live ⟨(enc eU8 ps), 5, 1⟩) .free))) (updO noOb 51 (.live ⟨(enc eU8 ps), 5, 1⟩)) [17] (funext fun id_ => by by_cases e0_ : id_ = 51 <;> first | (subst e0_; rfl) | simp only [addO, updO, nbeq_ne e0_, cond_false]) (fun b b' h => by simp only [h 17 (by decide)]) (fun b h => by simp only [h 17 (by decide), cond_true]) [(36, .ro 1 (Z68 r tr en ps)), (35, .agg (Z68 r tr en ps)), (34, .sl 51 0 ps.length), (33, .ro ((([(Z66 r tr en ps)] : List Lk).getD 0 dLk).pieces.length) (Z67 r tr en ps)), (32, .rp [.ro ((([(Z66 r tr en ps)] : List Lk).getD 0 dLk).pieces.length) (Z67 r tr en ps)]), (31, .rp (Z65 r tr en ps)), (30, .rp (Z65 r tr en ps)), (29, .i ((([(Z66 r tr en ps)] : List Lk).getD 0 dLk).ends)), (28, .rp (Z6d r tr en ps)), (27, .rp (Z65 r tr en ps)), (26, .rp (Z65 r tr en ps)), (25, .i ((([(Z66 r tr en ps)] : List Lk).getD 0 dLk).train)), (24, .rp (Z6b r tr en ps)), (23, .rp (Z65 r tr en ps)), (22, .rp (Z65 r tr en ps)), (21, .i ((([(Z66 r tr en ps)] : List Lk).getD 0 dLk).route)), (20, .rp (Z65 r tr en ps)), (19, .rp (Z65 r tr en ps)), (18, .rp (Z65 r tr en ps)), (17, vN)] mixed (by kernel_rfl) ?_ ?_
  ·iterate 20 (refine ⟨?_, ?_⟩; rotate_left)
   trivial
   ·exact sy_pure (by decide) (fun b => dW 17 fun st hob hE => aop_move (av := vN) (.inl rfl) rfl rfl (hE 3 rfl) (by rw [hob]; rfl))
   ·exact sy_pure (by decide) (fun b => dW 18 fun st hob hE => aop_move (av := .rp (Z65 r tr en ps)) (.inl rfl) rfl rfl (hE 5 rfl) (by rw [hob]; rfl))
   ·exact sy_pure (by decide) (fun b => dW 19 fun st hob hE => aop_nilCheck rfl rfl rfl (hE 18 rfl) rfl (by rw [hob]; rfl))
   ·exact sy_pure (by decide) (fun b => sF (.rp (Z65 r tr en ps)) (.rp (Z65 r tr en ps)) ft47_0 sz3)
   ·exact sy_pure (by decide) (fun b => dW 21 fun st hob hE => aop_ld (av := .i ((([(Z66 r tr en ps)] : List Lk).getD 0 dLk).route)) rfl rfl rfl ag3 (hE 20 rfl) rfl (by rw [hob]; rfl))
   ·exact sy_pure (by decide) (fun b => dW 22 fun st hob hE => aop_move (av := .rp (Z65 r tr en ps)) (.inl rfl) rfl rfl (hE 5 rfl) (by rw [hob]; rfl))
   ·exact sy_pure (by decide) (fun b => dW 23 fun st hob hE => aop_nilCheck rfl rfl rfl (hE 22 rfl) rfl (by rw [hob]; rfl))
   ·exact sy_pure (by decide) (fun b => sF (.rp (Z65 r tr en ps)) (.rp (Z6b r tr en ps)) ft47_1 sz3)
   ·exact sy_pure (by decide) (fun b => dW 25 fun st hob hE => aop_ld (av := .i ((([(Z66 r tr en ps)] : List Lk).getD 0 dLk).train)) rfl rfl rfl ag3 (hE 24 rfl) rfl (by rw [hob]; rfl))
   ·exact sy_pure (by decide) (fun b => dW 26 fun st hob hE => aop_move (av := .rp (Z65 r tr en ps)) (.inl rfl) rfl rfl (hE 5 rfl) (by rw [hob]; rfl))
   ·exact sy_pure (by decide) (fun b => dW 27 fun st hob hE => aop_nilCheck rfl rfl rfl (hE 26 rfl) rfl (by rw [hob]; rfl))
   ·exact sy_pure (by decide) (fun b => sF (.rp (Z65 r tr en ps)) (.rp (Z6d r tr en ps)) ft47_2 sz2)
   ·exact sy_pure (by decide) (fun b => dW 29 fun st hob hE => aop_ld (av := .i ((([(Z66 r tr en ps)] : List Lk).getD 0 dLk).ends)) rfl rfl rfl ag2 (hE 28 rfl) rfl (by rw [hob]; rfl))
   ·exact sy_pure (by decide) (fun b => dW 30 fun st hob hE => aop_move (av := .rp (Z65 r tr en ps)) (.inl rfl) rfl rfl (hE 5 rfl) (by rw [hob]; rfl))
   ·exact sy_pure (by decide) (fun b => dW 31 fun st hob hE => aop_nilCheck rfl rfl rfl (hE 30 rfl) rfl (by rw [hob]; rfl))
   ·exact sy_pure (by decide) (fun b => sF (.rp (Z65 r tr en ps)) (.rp [.ro ((([(Z66 r tr en ps)] : List Lk).getD 0 dLk).pieces.length) (Z67 r tr en ps)]) ft47_3 sz37)
   ·exact sy_pure (by decide) (fun b => dW 33 fun st hob hE => aop_ld (av := .ro ((([(Z66 r tr en ps)] : List Lk).getD 0 dLk).pieces.length) (Z67 r tr en ps)) rfl rfl rfl ag37 (hE 32 rfl) rfl (by rw [hob]; rfl))
   ·exact sy_fx (by decide) ⟨rfl, (fun d_ h_ => by cases h_ <;> exact blt_lt rfl), fun b hb_ hdep_ hcl_ st hob hE => by obtain ⟨en_, ob_⟩ := st; have hob_ : ob_ = (updO noOb 51 .free) := Eq.trans hob (by simp only [hb_, cond_false, cond_true]); subst hob_; exact callO_ 51 (cl_U8 ps om) rfl rfl rfl rfl rfl bd40 (by show Lends _ ([en_ 33] ++ _) _; rw [show en_ 33 = _ from hE 33 rfl]; exact lS) (.sl _ _ _ trivial) (news1 news0) (free1 rfl) rfl rfl ⟨rfl, fun id_ => by by_cases e0_ : id_ = 51 <;> first | (subst e0_; rfl) | simp only [addO, updO, nbeq_ne e0_, cond_false]⟩⟩
   ·exact sy_pure (by decide) (fun b => dW 35 fun st hob hE => aop_build rfl rfl rfl pl47 (by simp only [partsA, List.map, evA, hE 21 rfl, hE 25 rfl, hE 29 rfl, hE 34 rfl]; rfl) (by rw [hob]; rfl))
   exact sy_pure (by decide) (fun b => dW 36 fun st hob hE => aop_lit rfl rfl rfl ut44 iz47 (by decide) (by decide) (by simp only [partsA, List.map, evA, hE 35 rfl]; rfl) rfl (by rw [hob]; rfl))
  refine oG (aop_appNil 52 rfl rfl rfl rfl ut44 in47 rfl (by decide) rfl rfl rfl om om rfl ?_)
  refine mG (.sl 52 0 1) ?_
  refine op0 ?_
  refine regR ?_
  refine oG (qB (.int .i64 (0 + 1)) (addI om) ?_)
  refine mG (.i (0 + 1)) ?_
  refine op0 ?_
  show _ ∧ _
  refine ⟨by omega, trivial, ?_⟩
  exact iL [(52, 1), (51, 2)] [((52, 1), .live _), ((51, 2), .live _)] ⟨row_map (o := ⟨(Z68 r tr en ps), 47, 4⟩) rfl (om_ (lm_cons (am_no (a := .i ((([(Z66 r tr en ps)] : List Lk).getD 0 dLk).route))) (lm_cons (am_no (a := .i ((([(Z66 r tr en ps)] : List Lk).getD 0 dLk).train))) (lm_cons (am_no (a := .i ((([(Z66 r tr en ps)] : List Lk).getD 0 dLk).ends))) (lm_cons rfl lm_nil))))) (oks_cons (ok_no (a := .i ((([(Z66 r tr en ps)] : List Lk).getD 0 dLk).route))) (oks_cons (ok_no (a := .i ((([(Z66 r tr en ps)] : List Lk).getD 0 dLk).train))) (oks_cons (ok_no (a := .i ((([(Z66 r tr en ps)] : List Lk).getD 0 dLk).ends))) (oks_cons (.sl _ _ _ (by simp)) oks_nil)))), row_no (o := ⟨(enc eU8 ps), 5, 1⟩) rfl rfl, trivial⟩
 show AWP _ _ _ ⟨(upd (upd (upd (upd (upd none_ 2 vN) 3 (.sl 1 0 1)) 11 (Z6a r tr en ps)) 12 (.i 1)) 13 (.i 1)), (Z6e r tr en ps)⟩ _
 refine seqR ?_
 refine bG ((.bool false)) ?_
 refine op0 ?_
 refine awp_seq ?_
 refine awp_cond false rfl rfl (fun h => by cases h) (fun _ => ?_)
 refine awp_exit ?_
 refine seqR ?_
 refine mG (.sl 1 0 1) ?_
 refine mG (.sl 1 0 1) ?_
 refine op0 ?_
 refine awp_imp ⟨(upd none_ 2 (.sl 0 0 1)), (updO (updO noOb 0 (.live ⟨[.i r, .i tr, .i en, .sl 1 0 ps.length], 47, 4⟩)) 1 (.live ⟨(enc eU8 ps), 5, 1⟩))⟩ ?_ ?_
 ·skip
  exact iL [(1, 0), (2, 1)] [((1, 0), .live _), ((2, 1), .live _)] ⟨row_map (o := ⟨[.i r, .i tr, .i en, .sl 2 0 ps.length], 47, 4⟩) rfl (om_ (lm_cons (am_no (a := .i r)) (lm_cons (am_no (a := .i tr)) (lm_cons (am_no (a := .i en)) (lm_cons rfl lm_nil))))) (oks_cons (ok_no (a := .i r)) (oks_cons (ok_no (a := .i tr)) (oks_cons (ok_no (a := .i en)) (oks_cons (.sl _ _ _ (by simp)) oks_nil)))), row_no rfl rfl, trivial⟩
 refine awp_ret ?_
 exact fretG rfl rfl rfl rfl
theorem r_Locks0 (u_ : Unit)  : Fn Try.prog 12 [.rp [.one, .one, .one, .one, .one, .one, .one, .one, .one, .one, .one, .ro 0 []]] vN := by
 refine fnE_of_body (N := 40) Try.func12 rfl rfl (resOf1 rfl) (by simp) (fun w0 X hL_ => ?_)
 refine seqR ?_
 refine mG vN ?_
 refine op0 ?_
 refine awp_seq ?_
 refine seqR ?_
 refine mG (.rp [.one, .one, .one, .one, .one, .one, .one, .one, .one, .one, .one, .ro 0 []]) ?_
 refine oG (aop_ptNil rfl rfl rfl ut35 rfl rfl rfl (.inl ⟨rfl, rfl⟩) ?_)
 refine op0 ?_
 refine awp_cond false rfl rfl (fun h => by cases h) (fun _ => ?_)
 refine awp_skip ?_
 refine seqR ?_
 refine mG vN ?_
 refine rU (upd (upd (upd none_ 0 (.rp [.one, .one, .one, .one, .one, .one, .one, .one, .one, .one, .one, .ro 0 []])) 2 vN) 3 vN) noOb ?_
 refine awp_seq ?_
 refine seqR ?_
 refine mG (.rp [.one, .one, .one, .one, .one, .one, .one, .one, .one, .one, .one, .ro 0 []]) ?_
 refine oG (aop_nilCheck rfl rfl rfl rfl rfl ?_)
 refine oG (qF (.rp [.one, .one, .one, .one, .one, .one, .one, .one, .one, .one, .one, .ro 0 []]) (.rp [.ro 0 []]) ft65_2 sz63 ?_)
 refine oG (qL (.ro 0 []) ag63 ?_)
 refine oG (qN ut63 ?_)
 refine mG (.i 0) ?_
 refine rU (upd (upd (upd (upd (upd none_ 2 vN) 3 vN) 11 (.ro 0 [])) 12 (.i (0 : Int))) 13 (.i 0)) noOb ?_
 refine awp_block ?_
 refine awp_countI (fun k => ⟨(upd (upd (upd (upd (upd none_ 2 vN) 3 vN) 11 (.ro 0 [])) 12 (.i (0 : Int))) 13 (.i (k : Int))), noOb⟩) (fun k => True) (0) ?_ trivial (fun k hk_k hinv => ?_)
 ·skip
  exact iN
 refine seqR ?_
 refine bG ((.bool (decide ((k : Int) < (0 : Int))))) ?_
 refine op0 ?_
 refine awp_seq ?_
 refine awp_cond (decide ((k : Int) < (0 : Int))) rfl rfl (fun hc1 => ?_) (fun hc1 => ?_)
 ·skip
  have hf1 := of_decide_eq_true hc1
  exfalso; have h9_ := of_decide_eq_true hc1; omega
 have hf2 := of_decide_eq_false hc1
 refine awp_exit ?_
 refine seqR ?_
 refine mG vN ?_
 refine mG vN ?_
 refine op0 ?_
 refine awp_ret ?_
 exact fret (av := vN) rfl rfl rfl
theorem bd10 : bodied Try.prog 10 = true := by kernel_rfl
theorem bd11 : bodied Try.prog 11 = true := by kernel_rfl
theorem bd12 : bodied Try.prog 12 = true := by kernel_rfl
theorem bd9 : bodied Try.prog 9 = true := by kernel_rfl
theorem pl25 : placesOf Try.prog 25 = some ((.agg #[(.int .u8 0), (.int .u8 0), (.int .u8 0), (.int .u16 0), (.int .u16 0), (.int .u8 0), (.int .u8 0), (.int .u8 0), (.slice none 0 0)]), fun i => ([(0, 1), (1, 1), (2, 1), (3, 1), (4, 1), (5, 1), (6, 1), (7, 1), (8, 1)] : List (Nat × Nat)).toArray[i]?) := by kernel_rfl
theorem r_SetN (b : List Sec) (d : List (List Int)) (c : List Pnt) (a : List (List Int)) (cn r tr : Int) (e : List Int) (hs : b.length ≤ 65536) (hp : c.length ≤ 65536) (hro : a.length ≤ 65536) (hst : e.length ≤ 65536) (hr : hasR a r = true) (hpl : 2 ≤ (a.getD r.toNat []).length ∧ (a.getD r.toNat []).length ≤ 9) (hin : ∀ s, s ∈ pthR a r → 0 ≤ s) (hfr : (!((pthR a r).any (bzQ a [] e))) = true) (hmv : (movesL (paL b c (a.getD r.toNat [])) ([] : List Bool)).any (noQ c e ([] : List View) (secsQ a [] b.length b.length) (List.replicate c.length false)) = false) : FnGO Try.prog 10 [⟨[.one, .ro b.length (enc eSec b), .ro d.length (enc eIL d), .ro c.length (enc ePnt c), .ro a.length (enc eIL a), .one, .one, .one, .v (.int .i64 cn), .one, .rp [.one, .ro b.length (enc eSec b), .ro d.length (enc eIL d), .ro c.length (enc ePnt c), .one, .one, .one, .one, .one, .one], .v (.slice none 0 0)], 65, 1⟩] [.pt 0 0, .v (.int .i64 r), .v (.int .i64 tr), .ro e.length (enc eU8 e), .v (.slice none 0 0), .v (.slice none 0 0)] (.tup [.ro ((moveL ([] : List Bool) (movesL (paL b c (a.getD r.toNat [])) ([] : List Bool))).length) (enc eB (moveL ([] : List Bool) (movesL (paL b c (a.getD r.toNat [])) ([] : List Bool)))), .v (.int .i64 0)]) [.live ⟨[.one, .ro b.length (enc eSec b), .ro d.length (enc eIL d), .ro c.length (enc ePnt c), .ro a.length (enc eIL a), .one, .one, .one, .v (.int .i64 cn), .one, .rp [.one, .ro b.length (enc eSec b), .ro d.length (enc eIL d), .ro c.length (enc ePnt c), .one, .one, .one, .one, .one, .one], .sl 1 0 1], 65, 1⟩, .live ⟨[.pt 2 0], 69, 1⟩, .live ⟨[.v (.int .i64 r), .v (.int .i64 tr), .v (.int .i64 (-1)), .sl 3 0 ((List.replicate (pthR a r).length (1 : Int)).length)], 47, 1⟩, .live ⟨(enc eU8 (List.replicate (pthR a r).length (1 : Int))), 5, 1⟩] := fnG_nil (r_SetK b d c a cn r tr e [] [] hs hp hro hst (by simp) (by simp) (by simp) hr hpl hin hfr hmv) ⟨.inl rfl, .inl rfl, .inl rfl, .inl rfl, .inr ⟨rfl, rfl⟩, .inr ⟨rfl, rfl⟩, trivial⟩
abbrev Z6g (r tr : Int) (e : List Bool) : Nat → AV := (upd (upd (upd (upd (upd (upd (upd (upd none_ 1 (.i r)) 2 (.i tr)) 5 (.q eB e)) 6 (.pt 51 0)) 9 (.pt 52 0)) 10 (.pt 53 0)) 12 vN) 13 (.i 0))
abbrev Z6f (a : List Sec) (c : List (List Int)) (d : List Pnt) (f : List (List Int)) (cn : Int) : Nat → OSt := (updO noOb 0 (.live ⟨[.one, .q eSec a, .q eIL c, .q ePnt d, .q eIL f, .one, .one, .one, .i cn, .one, .rp [.one, .q eSec a, .q eIL c, .q ePnt d, .one, .one, .one, .one, .one, .one], vN], 65, 1⟩))
theorem r_Set7G (a : List Sec) (c : List (List Int)) (d : List Pnt) (f : List (List Int)) (cn : Int) (r tr : Int) (g : List Int) (h : List View) (e : List Bool) (hro : f.length ≤ 65536) (hst : g.length ≤ 65536) (hn : h.length ≤ 65536) (hrt : e.length ≤ 65536) (hh : hasR f r = false) : FnGO Try.prog 10 [⟨[.one, .ro a.length (enc eSec a), .ro c.length (enc eIL c), .ro d.length (enc ePnt d), .ro f.length (enc eIL f), .one, .one, .one, .v (.int .i64 cn), .one, .rp [.one, .ro a.length (enc eSec a), .ro c.length (enc eIL c), .ro d.length (enc ePnt d), .one, .one, .one, .one, .one, .one], vN], 65, 1⟩] [.pt 0 0, .v (.int .i64 r), .v (.int .i64 tr), .ro g.length (enc eU8 g), .ro h.length (enc eV h), .ro e.length (enc eB e)] (.tup [.ro e.length (enc eB e), .v (.int .i64 7)]) [.live ⟨[.one, .ro a.length (enc eSec a), .ro c.length (enc eIL c), .ro d.length (enc ePnt d), .ro f.length (enc eIL f), .one, .one, .one, .v (.int .i64 cn), .one, .rp [.one, .ro a.length (enc eSec a), .ro c.length (enc eIL c), .ro d.length (enc ePnt d), .one, .one, .one, .one, .one, .one], vN], 65, 1⟩] := by
 refine fnG_of_body (N := 90) 1 rfl Try.func10 rfl rfl (resOf2 rfl) (by simp) (fun w0 G C hL_ hLG_ => ?_)
 refine seqR ?_
 refine oG (qW 51 ?_)
 refine oG (qW 52 ?_)
 refine oG (qW 53 ?_)
 refine mG vN ?_
 refine mG (.i 0) ?_
 refine rU (Z6g r tr e) (updO (updO (updO (Z6f a c d f cn) 51 (.live ⟨[.pt 0 0], 35, 1⟩)) 52 (.live ⟨[.q eU8 g], 37, 1⟩)) 53 (.live ⟨[.q eV h], 66, 1⟩)) ?_
 refine seqR ?_
 refine mG (.q eB e) ?_
 refine oG (qJ (cl_BR e oo) bd22 ?_)
 refine mG (.q eB e) ?_
 refine op0 ?_
 refine awp_seq ?_
 refine awp_block ?_
 refine seqR ?_
 refine oG (qL (.pt 0 0) ag35 ?_)
 refine mG (.i r) ?_
 refine oG (callL_ (r_has f r oo) rfl rfl rfl rfl rfl bd23 (lends_cons (lend_pt rfl lS) lS) ?_)
 refine oG (aop_not rfl rfl rfl rfl ?_)
 refine mG (.b (!(hasR f r))) ?_
 refine rU (upd (upd (Z6g r tr e) 14 (.q eB e)) 22 (.b (!(hasR f r)))) (updO (updO (updO (Z6f a c d f cn) 51 (.live ⟨[.pt 0 0], 35, 1⟩)) 52 (.live ⟨[.q eU8 g], 37, 1⟩)) 53 (.live ⟨[.q eV h], 66, 1⟩)) ?_
 refine awp_cond (!(hasR f r)) rfl rfl (fun hc0 => ?_) (fun hc0 => ?_)
 ·skip
  have hf1 := not_t hc0
  refine seqR ?_
  refine mG (.q eB e) ?_
  refine mG (.q eB e) ?_
  refine mG (.i 7) ?_
  refine op0 ?_
  refine awp_imp ⟨(upd (upd none_ 12 (.q eB e)) 13 (.i 7)), (Z6f a c d f cn)⟩ ?_ ?_
  ·skip
   exact iL [(0, 0)] [((0, 0), .live _)] ⟨row_no rfl rfl, trivial⟩
  refine awp_ret ?_
  exact fretG rfl rfl rfl rfl
 have hf2 := not_f hc0
 exfalso; rw [hh] at hc0; cases hc0
abbrev Z6l (r tr en : Int) (ps : List Int) : LObj := ⟨[.i r, .i tr, .i en, .sl 3 0 ps.length], 47, 1⟩
abbrev Z6k (r l : Int) (g : List Bool) : Nat → AV := (upd (upd (upd (upd (upd (upd (upd (upd none_ 1 (.i r)) 2 (.i l)) 5 (.q eB g)) 6 (.pt 51 0)) 9 (.pt 52 0)) 10 (.pt 53 0)) 12 vN) 13 (.i 0))
abbrev Z6j (c : List Sec) (d : List (List Int)) (e : List Pnt) : List AV := [.one, .q eSec c, .q eIL d, .q ePnt e, .one, .one, .one, .one, .one, .one]
abbrev Z6h (c : List Sec) (d : List (List Int)) (e : List Pnt) (f : List (List Int)) (cn : Int) : LObj := ⟨[.one, .q eSec c, .q eIL d, .q ePnt e, .q eIL f, .one, .one, .one, .i cn, .one, .rp (Z6j c d e), .sl 1 0 1], 65, 1⟩
abbrev Z6i (c : List Sec) (d : List (List Int)) (e : List Pnt) (f : List (List Int)) (cn r tr en : Int) (ps j : List Int) (k : List View) : Nat → OSt := (updO (updO (updO (updO (updO (updO (updO noOb 0 (.live (Z6h c d e f cn))) 1 (.live ⟨[.pt 2 0], 69, 1⟩)) 2 (.live (Z6l r tr en ps))) 3 (.live ⟨(enc eU8 ps), 5, 1⟩)) 51 (.live ⟨[.pt 0 0], 35, 1⟩)) 52 (.live ⟨[.q eU8 j], 37, 1⟩)) 53 (.live ⟨[.q eV k], 66, 1⟩))
theorem r_Set8G (c : List Sec) (d : List (List Int)) (e : List Pnt) (f : List (List Int)) (cn : Int) (r tr en : Int) (ps : List Int) (l : Int) (j : List Int) (k : List View) (g : List Bool) (hro : f.length ≤ 65536) (hst : j.length ≤ 65536) (hn : k.length ≤ 65536) (hrt : g.length ≤ 65536) (hh : hasR f r = true) : FnGO Try.prog 10 [⟨[.one, .ro c.length (enc eSec c), .ro d.length (enc eIL d), .ro e.length (enc ePnt e), .ro f.length (enc eIL f), .one, .one, .one, .v (.int .i64 cn), .one, .rp [.one, .ro c.length (enc eSec c), .ro d.length (enc eIL d), .ro e.length (enc ePnt e), .one, .one, .one, .one, .one, .one], .sl 1 0 1], 65, 1⟩, ⟨[.pt 2 0], 69, 1⟩, ⟨[.v (.int .i64 r), .v (.int .i64 tr), .v (.int .i64 en), .sl 3 0 ps.length], 47, 1⟩, ⟨(enc eU8 ps), 5, 1⟩] [.pt 0 0, .v (.int .i64 r), .v (.int .i64 l), .ro j.length (enc eU8 j), .ro k.length (enc eV k), .ro g.length (enc eB g)] (.tup [.ro g.length (enc eB g), .v (.int .i64 8)]) [.live ⟨[.one, .ro c.length (enc eSec c), .ro d.length (enc eIL d), .ro e.length (enc ePnt e), .ro f.length (enc eIL f), .one, .one, .one, .v (.int .i64 cn), .one, .rp [.one, .ro c.length (enc eSec c), .ro d.length (enc eIL d), .ro e.length (enc ePnt e), .one, .one, .one, .one, .one, .one], .sl 1 0 1], 65, 1⟩, .live ⟨[.pt 2 0], 69, 1⟩, .live ⟨[.v (.int .i64 r), .v (.int .i64 tr), .v (.int .i64 en), .sl 3 0 ps.length], 47, 1⟩, .live ⟨(enc eU8 ps), 5, 1⟩] := by
 refine fnG_of_body (N := 90) 4 rfl Try.func10 rfl rfl (resOf2 rfl) (by simp) (fun w0 G C hL_ hLG_ => ?_)
 refine seqR ?_
 refine oG (qW 51 ?_)
 refine oG (qW 52 ?_)
 refine oG (qW 53 ?_)
 refine mG vN ?_
 refine mG (.i 0) ?_
 refine rU (Z6k r l g) (Z6i c d e f cn r tr en ps j k) ?_
 refine seqR ?_
 refine mG (.q eB g) ?_
 refine oG (qJ (cl_BR g oo) bd22 ?_)
 refine mG (.q eB g) ?_
 refine op0 ?_
 refine awp_seq ?_
 refine awp_block ?_
 refine seqR ?_
 refine oG (qL (.pt 0 0) ag35 ?_)
 refine mG (.i r) ?_
 refine oG (callL_ (r_has f r oo) rfl rfl rfl rfl rfl bd23 (lends_cons (lend_pt rfl lS) lS) ?_)
 refine oG (aop_not rfl rfl rfl rfl ?_)
 refine mG (.b (!(hasR f r))) ?_
 refine rU (upd (upd (Z6k r l g) 14 (.q eB g)) 22 (.b (!(hasR f r)))) (Z6i c d e f cn r tr en ps j k) ?_
 refine awp_cond (!(hasR f r)) rfl rfl (fun hc0 => ?_) (fun hc0 => ?_)
 ·skip
  have hf1 := not_t hc0
  exfalso; rw [hh] at hc0; cases hc0
 have hf2 := not_f hc0
 refine seqR ?_
 refine oG (qL (.pt 0 0) ag35 ?_)
 refine mG (.i r) ?_
 refine oG (callG_ false [0, 1, 2, 3] [] (r_findO c d e f cn r tr en ps) rfl rfl rfl rfl rfl bd24 (by decide) ⟨giv_map (o := (Z6h c d e f cn)) rfl (om_ (lm_cons (am_no (a := .one)) (lm_cons (am_no (a := .q eSec c)) (lm_cons (am_no (a := .q eIL d)) (lm_cons (am_no (a := .q ePnt e)) (lm_cons (am_no (a := .q eIL f)) (lm_cons (am_no (a := .one)) (lm_cons (am_no (a := .one)) (lm_cons (am_no (a := .one)) (lm_cons (am_no (a := .i cn)) (lm_cons (am_no (a := .one)) (lm_cons (am_no (a := .rp (Z6j c d e))) (lm_cons rfl lm_nil))))))))))))) (oks_cons (ok_no (a := .one)) (oks_cons (ok_no (a := .q eSec c)) (oks_cons (ok_no (a := .q eIL d)) (oks_cons (ok_no (a := .q ePnt e)) (oks_cons (ok_no (a := .q eIL f)) (oks_cons (ok_no (a := .one)) (oks_cons (ok_no (a := .one)) (oks_cons (ok_no (a := .one)) (oks_cons (ok_no (a := .i cn)) (oks_cons (ok_no (a := .one)) (oks_cons (ok_no (a := .rp (Z6j c d e))) (oks_cons (.sl _ _ _ (by simp)) oks_nil)))))))))))), giv_map (o := ⟨[.pt 2 0], 69, 1⟩) rfl (om_ (lm_cons rfl lm_nil)) (oks_cons (.pt _ _ (by simp)) oks_nil), giv_map (o := (Z6l r tr en ps)) rfl (om_ (lm_cons (am_no (a := .i r)) (lm_cons (am_no (a := .i tr)) (lm_cons (am_no (a := .i en)) (lm_cons rfl lm_nil))))) (oks_cons (ok_no (a := .i r)) (oks_cons (ok_no (a := .i tr)) (oks_cons (ok_no (a := .i en)) (oks_cons (.sl _ _ _ (by simp)) oks_nil)))), giv_no (o := ⟨(enc eU8 ps), 5, 1⟩) rfl rfl, trivial⟩ ⟨(arg_own (.pt _ _ (by simp)) rfl), (arg_no (a := .i r)), trivial⟩ rfl trivial (fun h => by cases h) rfl (place_cons (ost_map (lm_cons (am_no (a := .one)) (lm_cons (am_no (a := .q eSec c)) (lm_cons (am_no (a := .q eIL d)) (lm_cons (am_no (a := .q ePnt e)) (lm_cons (am_no (a := .q eIL f)) (lm_cons (am_no (a := .one)) (lm_cons (am_no (a := .one)) (lm_cons (am_no (a := .one)) (lm_cons (am_no (a := .i cn)) (lm_cons (am_no (a := .one)) (lm_cons (am_no (a := .rp (Z6j c d e))) (lm_cons rfl lm_nil))))))))))))) (place_cons (ost_map (lm_cons rfl lm_nil)) (place_cons (ost_map (lm_cons (am_no (a := .i r)) (lm_cons (am_no (a := .i tr)) (lm_cons (am_no (a := .i en)) (lm_cons rfl lm_nil))))) (place_cons (ost_no (cs := (enc eU8 ps))) place_nil)))) ?_)
 refine oG (aop_ptNil rfl rfl rfl ut69 rfl rfl rfl (.inr ⟨rfl, rfl⟩) ?_)
 refine mG (.b true) ?_
 refine rU (upd (upd (Z6k r l g) 14 (.q eB g)) 28 (.b true)) (updO (updO (updO (updO (Z6i c d e f cn r tr en ps j k) 0 (.live (Z6h c d e f cn))) 1 (.live ⟨[.pt 2 0], 69, 1⟩)) 2 (.live (Z6l r tr en ps))) 3 (.live ⟨(enc eU8 ps), 5, 1⟩)) ?_
 refine awp_cond true rfl rfl (fun _ => ?_) (fun h => by cases h)
 refine seqR ?_
 refine mG (.q eB g) ?_
 refine mG (.q eB g) ?_
 refine mG (.i 8) ?_
 refine op0 ?_
 refine awp_imp ⟨(upd (upd none_ 12 (.q eB g)) 13 (.i 8)), (updO (updO (updO (updO noOb 0 (.live (Z6h c d e f cn))) 1 (.live ⟨[.pt 2 0], 69, 1⟩)) 2 (.live (Z6l r tr en ps))) 3 (.live ⟨(enc eU8 ps), 5, 1⟩))⟩ ?_ ?_
 ·skip
  exact iL [(0, 0), (1, 1), (2, 2), (3, 3)] [((0, 0), .live _), ((1, 1), .live _), ((2, 2), .live _), ((3, 3), .live _)] ⟨row_map (o := (Z6h c d e f cn)) rfl (om_ (lm_cons (am_no (a := .one)) (lm_cons (am_no (a := .q eSec c)) (lm_cons (am_no (a := .q eIL d)) (lm_cons (am_no (a := .q ePnt e)) (lm_cons (am_no (a := .q eIL f)) (lm_cons (am_no (a := .one)) (lm_cons (am_no (a := .one)) (lm_cons (am_no (a := .one)) (lm_cons (am_no (a := .i cn)) (lm_cons (am_no (a := .one)) (lm_cons (am_no (a := .rp (Z6j c d e))) (lm_cons rfl lm_nil))))))))))))) (oks_cons (ok_no (a := .one)) (oks_cons (ok_no (a := .q eSec c)) (oks_cons (ok_no (a := .q eIL d)) (oks_cons (ok_no (a := .q ePnt e)) (oks_cons (ok_no (a := .q eIL f)) (oks_cons (ok_no (a := .one)) (oks_cons (ok_no (a := .one)) (oks_cons (ok_no (a := .one)) (oks_cons (ok_no (a := .i cn)) (oks_cons (ok_no (a := .one)) (oks_cons (ok_no (a := .rp (Z6j c d e))) (oks_cons (.sl _ _ _ (by simp)) oks_nil)))))))))))), row_map (o := ⟨[.pt 2 0], 69, 1⟩) rfl (om_ (lm_cons rfl lm_nil)) (oks_cons (.pt _ _ (by simp)) oks_nil), row_map (o := (Z6l r tr en ps)) rfl (om_ (lm_cons (am_no (a := .i r)) (lm_cons (am_no (a := .i tr)) (lm_cons (am_no (a := .i en)) (lm_cons rfl lm_nil))))) (oks_cons (ok_no (a := .i r)) (oks_cons (ok_no (a := .i tr)) (oks_cons (ok_no (a := .i en)) (oks_cons (.sl _ _ _ (by simp)) oks_nil)))), row_no rfl rfl, trivial⟩
 refine awp_ret ?_
 exact fretG rfl rfl rfl rfl
theorem r_Set7N (a : List Sec) (b : List (List Int)) (c : List Pnt) (d : List (List Int)) (cn : Int) (r tr : Int) (e : List Int) (hro : d.length ≤ 65536) (hst : e.length ≤ 65536) (hh : hasR d r = false) : FnGO Try.prog 10 [⟨[.one, .ro a.length (enc eSec a), .ro b.length (enc eIL b), .ro c.length (enc ePnt c), .ro d.length (enc eIL d), .one, .one, .one, .v (.int .i64 cn), .one, .rp [.one, .ro a.length (enc eSec a), .ro b.length (enc eIL b), .ro c.length (enc ePnt c), .one, .one, .one, .one, .one, .one], .v (.slice none 0 0)], 65, 1⟩] [.pt 0 0, .v (.int .i64 r), .v (.int .i64 tr), .ro e.length (enc eU8 e), .v (.slice none 0 0), .v (.slice none 0 0)] (.tup [.ro (([] : List Bool).length) (enc eB ([] : List Bool)), .v (.int .i64 7)]) [.live ⟨[.one, .ro a.length (enc eSec a), .ro b.length (enc eIL b), .ro c.length (enc ePnt c), .ro d.length (enc eIL d), .one, .one, .one, .v (.int .i64 cn), .one, .rp [.one, .ro a.length (enc eSec a), .ro b.length (enc eIL b), .ro c.length (enc ePnt c), .one, .one, .one, .one, .one, .one], .v (.slice none 0 0)], 65, 1⟩] := fnG_nil (r_Set7G a b c d cn r tr e [] [] hro hst (by simp) (by simp) hh) ⟨.inl rfl, .inl rfl, .inl rfl, .inl rfl, .inr ⟨rfl, rfl⟩, .inr ⟨rfl, rfl⟩, trivial⟩
theorem r_Set8N (a : List Sec) (b : List (List Int)) (c : List Pnt) (d : List (List Int)) (cn : Int) (r tr en : Int) (ps : List Int) (f : Int) (e : List Int) (hro : d.length ≤ 65536) (hst : e.length ≤ 65536) (hh : hasR d r = true) : FnGO Try.prog 10 [⟨[.one, .ro a.length (enc eSec a), .ro b.length (enc eIL b), .ro c.length (enc ePnt c), .ro d.length (enc eIL d), .one, .one, .one, .v (.int .i64 cn), .one, .rp [.one, .ro a.length (enc eSec a), .ro b.length (enc eIL b), .ro c.length (enc ePnt c), .one, .one, .one, .one, .one, .one], .sl 1 0 1], 65, 1⟩, ⟨[.pt 2 0], 69, 1⟩, ⟨[.v (.int .i64 r), .v (.int .i64 tr), .v (.int .i64 en), .sl 3 0 ps.length], 47, 1⟩, ⟨(enc eU8 ps), 5, 1⟩] [.pt 0 0, .v (.int .i64 r), .v (.int .i64 f), .ro e.length (enc eU8 e), .v (.slice none 0 0), .v (.slice none 0 0)] (.tup [.ro (([] : List Bool).length) (enc eB ([] : List Bool)), .v (.int .i64 8)]) [.live ⟨[.one, .ro a.length (enc eSec a), .ro b.length (enc eIL b), .ro c.length (enc ePnt c), .ro d.length (enc eIL d), .one, .one, .one, .v (.int .i64 cn), .one, .rp [.one, .ro a.length (enc eSec a), .ro b.length (enc eIL b), .ro c.length (enc ePnt c), .one, .one, .one, .one, .one, .one], .sl 1 0 1], 65, 1⟩, .live ⟨[.pt 2 0], 69, 1⟩, .live ⟨[.v (.int .i64 r), .v (.int .i64 tr), .v (.int .i64 en), .sl 3 0 ps.length], 47, 1⟩, .live ⟨(enc eU8 ps), 5, 1⟩] := fnG_nil (r_Set8G a b c d cn r tr en ps f e [] [] hro hst (by simp) (by simp) hh) ⟨.inl rfl, .inl rfl, .inl rfl, .inl rfl, .inr ⟨rfl, rfl⟩, .inr ⟨rfl, rfl⟩, trivial⟩
abbrev Z72 : Nat → AV := (upd none_ 0 (.b false))
abbrev Z71 : List AV := (enc eU8 (tnK dnR (mkParts 0 0) [0, 0, 0] [-2, -2, -2] 2 (0 : Int) 3 (-1) dn1 dn1.length))
abbrev Z70 : LObj := ⟨[.i (0 : Int), .i 3, .i (-1), .sl 55 0 ((List.replicate (pthR dnR (0 : Int)).length (1 : Int)).length)], 47, 1⟩
abbrev Z6z : List AV := [.q eB (moveL ([] : List Bool) (movesL (paL (mkSecs 0 0) (mkPts 0) (dnR.getD (0 : Int).toNat [])) ([] : List Bool))), .i 0]
abbrev Z6y : List AV := (enc eU8 (List.replicate (pthR dnR (0 : Int)).length (1 : Int)))
abbrev Z6v : Nat → AV := (upd (upd Z72 2 (.pt 52 0)) 4 (.i 0))
abbrev Z6u : LObj := ⟨[.i (0 : Int), .i 3, .i (-1), .sl 55 0 ((tnK dnR (mkParts 0 0) [0, 1, 0] [-2, 3, -2] 1 (0 : Int) 3 (-1) (List.replicate (pthR dnR 0).length (1 : Int)) (List.replicate (pthR dnR 0).length (1 : Int)).length).length)], 47, 1⟩
abbrev Z6t : List AV := [.one, .q eSec (mkSecs 0 0), .q eIL (mkParts 0 0), .q ePnt (mkPts 0), .ro 1 (enc eIL dnR), .i (1 + 0 % (2 * (10 * (1 + 0 % 20)))), .i (1 + 0 % 1000), .i (1 + 0 % 1000), .i (1 + 0), .i (0 % 4)]
abbrev Z6r : List AV := (enc eU8 (tnK dnR (mkParts 0 0) [0, 1, 0] [-2, 3, -2] 1 (0 : Int) 3 (-1) (List.replicate (pthR dnR 0).length (1 : Int)) (List.replicate (pthR dnR 0).length (1 : Int)).length))
abbrev Z6q : Nat → OSt := (updO (updO noOb 51 (.live ⟨[vN, vN, vN, vN, vN, .i 0, .i 0, .i 0, .i 0, .i 0], 33, 1⟩)) 51 (.live ⟨[.one, .q eSec (mkSecs 0 0), .q eIL (mkParts 0 0), .q ePnt (mkPts 0), vN, .i (1 + 0 % (2 * (10 * (1 + 0 % 20)))), .i (1 + 0 % 1000), .i (1 + 0 % 1000), .i (1 + 0), .i (0 % 4)], 33, 1⟩))
abbrev Z6n : List AV := [.one, .q eSec (mkSecs 0 0), .q eIL (mkParts 0 0), .q ePnt (mkPts 0), .one, .one, .one, .one, .one, .one]
abbrev Z6w : LObj := ⟨[.one, .q eSec (mkSecs 0 0), .q eIL (mkParts 0 0), .q ePnt (mkPts 0), .q eIL dnR, .one, .one, .one, .i (1 + 0), .one, .rp Z6n, vN], 65, 1⟩
abbrev Z6s : LObj := ⟨[.one, .q eSec (mkSecs 0 0), .q eIL (mkParts 0 0), .q ePnt (mkPts 0), .q eIL dnR, .one, .one, .one, .i (1 + 0), .one, .rp Z6n, .sl 53 0 1], 65, 1⟩
abbrev Z6o : Nat → OSt := (updO (updO (updO (updO (updO (updO Z6q 51 (.live ⟨Z6t, 33, 1⟩)) 52 (.live Z6w)) 52 (.live Z6s)) 53 (.live ⟨[.pt 54 0], 69, 1⟩)) 54 (.live Z70)) 55 (.live ⟨Z6y, 5, 1⟩))
abbrev Z6m : Nat → OSt := (updO (updO (updO (updO Z6o 52 (.live Z6s)) 53 (.live ⟨[.pt 54 0], 69, 1⟩)) 54 (.live Z6u)) 55 (.live ⟨Z6r, 5, 1⟩))
abbrev Z6x : Nat → OSt := (updO (updO Z6m 56 (.live ⟨[.i (0 : Int), .i 3, .i (-1), .sl 57 0 dn1.length], 47, 4⟩)) 57 (.live ⟨(enc eU8 dn1), 5, 1⟩))
abbrev Z6p : Nat → OSt := (updO (updO (updO (updO Z6x 52 (.live ⟨[.one, .q eSec (mkSecs 0 0), .q eIL (mkParts 0 0), .q ePnt (mkPts 0), .q eIL dnR, .one, .one, .one, .i (1 + 0), .one, .rp Z6n, .sl 53 0 0], 65, 1⟩)) 53 (.live ⟨[.v (.pointer none)], 69, 1⟩)) 54 (.live ⟨[.i (0 : Int), .i 3, .i (-1), .sl 55 0 ((tnK dnR (mkParts 0 0) [0, 0, 0] [-2, -2, -2] 2 (0 : Int) 3 (-1) dn1 dn1.length).length)], 47, 1⟩)) 55 (.live ⟨Z71, 5, 1⟩))
theorem l15_done   : Fn Try.prog 6 [] (.v (.bool true)) := by
 have hel := mkEnds_len 0
 have hsl := mkSecs_len 0 0
 have hpl := mkPts_len 0
 refine fnE_of_body (N := 42) Try.func6 rfl rfl (resOf1 rfl) (by simp) (fun w0 X hL_ => ?_)
 refine seqR ?_
 refine mG (.b false) ?_
 refine op0 ?_
 refine seqR ?_
 refine oG (qD pl25 ?_)
 refine oG (qC (r04_Make 0 0 0 0 0 0 0 0 (by decide) (by decide) (by decide) (by decide) (by decide) (by decide) (by decide) (by decide)) bd19 ?_)
 refine oG (aop_alloc 51 rfl rfl rfl rfl ze33 rfl ?_)
 refine oG (qS sz33 ?_)
 refine rU (upd Z72 1 (.pt 51 0)) Z6q ?_
 refine seqR ?_
 refine oG (aop_lit (cells := enc eI ([0, 1] : List Int)) rfl rfl rfl ut42 iz3 (by decide) (by decide) rfl rfl ?_)
 refine oG (aop_lit (cells := enc eIL dnR) rfl rfl rfl ut30 iz42 (by decide) (by decide) rfl rfl ?_)
 refine fG (.pt 51 4) ft33_4 sz30 ?_
 refine oG (qS sz30 ?_)
 refine rU (upd Z72 1 (.pt 51 0)) (updO Z6q 51 (.live ⟨Z6t, 33, 1⟩)) ?_
 refine seqR ?_
 refine oG (qLB Z6t ag33 sz33 ?_)
 refine oG (callN_ 52 (r_New (mkSecs 0 0) (mkParts 0 0) (mkPts 0) dnR (1 + 0)) rfl rfl rfl rfl rfl bd9 (fun _ => lS) newsN1 (free1 rfl) rfl rfl ?_)
 refine mG (.pt 52 0) ?_
 refine op0 ?_
 refine seqR ?_
 refine mG (.pt 52 0) ?_
 refine oG (aop_lit (cells := enc eU8 ([0, 0, 0] : List Int)) rfl rfl rfl ut37 iz5 (by decide) (by decide) rfl rfl ?_)
 refine oG (callG_ false [52] [53, 54, 55] (r_SetN (mkSecs 0 0) (mkParts 0 0) (mkPts 0) dnR (1 + 0) 0 3 [0, 0, 0] (by decide +kernel) (by decide +kernel) (by decide) (by decide) (by decide) (by decide) (by decide) dn_free dn_may) rfl rfl rfl rfl rfl bd10 (by decide) ⟨giv_no (o := Z6w) rfl rfl, trivial⟩ ⟨(arg_own (.pt _ _ (by simp)) rfl), (arg_no (a := .i 0)), (arg_no (a := .i 3)), (arg_no (a := .ro 3 (enc eU8 ([0, 0, 0] : List Int)))), (arg_no (a := vN)), (arg_no (a := vN)), trivial⟩ rfl ⟨rfl, rfl, rfl, trivial⟩ (fun h => by cases h) (am_no (a := .tup Z6z)) (place_cons (ost_map (lm_cons (am_no (a := .one)) (lm_cons (am_no (a := .q eSec (mkSecs 0 0))) (lm_cons (am_no (a := .q eIL (mkParts 0 0))) (lm_cons (am_no (a := .q ePnt (mkPts 0))) (lm_cons (am_no (a := .q eIL dnR)) (lm_cons (am_no (a := .one)) (lm_cons (am_no (a := .one)) (lm_cons (am_no (a := .one)) (lm_cons (am_no (a := .i (1 + 0))) (lm_cons (am_no (a := .one)) (lm_cons (am_no (a := .rp Z6n)) (lm_cons rfl lm_nil))))))))))))) (place_cons (ost_map (lm_cons rfl lm_nil)) (place_cons (ost_map (lm_cons (am_no (a := .i (0 : Int))) (lm_cons (am_no (a := .i 3)) (lm_cons (am_no (a := .i (-1))) (lm_cons rfl lm_nil))))) (place_cons (ost_no (cs := Z6y)) place_nil)))) ?_)
 refine mG (.tup Z6z) ?_
 refine oG (qE ?_)
 refine oG (qE ?_)
 refine mG (.q eB (moveL ([] : List Bool) (movesL (paL (mkSecs 0 0) (mkPts 0) (dnR.getD (0 : Int).toNat [])) ([] : List Bool)))) ?_
 refine mG (.i 0) ?_
 refine rU Z6v Z6o ?_
 refine seqR ?_
 refine mG (.pt 52 0) ?_
 refine oG (aop_lit (cells := enc eU8 ([0, 1, 0] : List Int)) rfl rfl rfl ut37 iz5 (by decide) (by decide) rfl rfl ?_)
 refine oG (aop_lit (cells := enc eI ([-2, 3, -2] : List Int)) rfl rfl rfl ut42 iz3 (by decide) (by decide) rfl rfl ?_)
 refine oG (callG_ false [52, 53, 54, 55] [] (r_StepO (mkSecs 0 0) (mkParts 0 0) (mkPts 0) dnR (1 + 0) 0 3 (-1) (List.replicate (pthR dnR 0).length (1 : Int)) 1 [0, 1, 0] [-2, 3, -2] (by decide) (by decide) (by decide +kernel) (by decide) (by decide +kernel) (by decide +kernel) (by decide) (by decide) (by decide) dn_part dn_1) rfl rfl rfl rfl rfl bd11 (by decide) ⟨giv_map (o := Z6s) rfl (om_ (lm_cons (am_no (a := .one)) (lm_cons (am_no (a := .q eSec (mkSecs 0 0))) (lm_cons (am_no (a := .q eIL (mkParts 0 0))) (lm_cons (am_no (a := .q ePnt (mkPts 0))) (lm_cons (am_no (a := .q eIL dnR)) (lm_cons (am_no (a := .one)) (lm_cons (am_no (a := .one)) (lm_cons (am_no (a := .one)) (lm_cons (am_no (a := .i (1 + 0))) (lm_cons (am_no (a := .one)) (lm_cons (am_no (a := .rp Z6n)) (lm_cons rfl lm_nil))))))))))))) (oks_cons (ok_no (a := .one)) (oks_cons (ok_no (a := .q eSec (mkSecs 0 0))) (oks_cons (ok_no (a := .q eIL (mkParts 0 0))) (oks_cons (ok_no (a := .q ePnt (mkPts 0))) (oks_cons (ok_no (a := .q eIL dnR)) (oks_cons (ok_no (a := .one)) (oks_cons (ok_no (a := .one)) (oks_cons (ok_no (a := .one)) (oks_cons (ok_no (a := .i (1 + 0))) (oks_cons (ok_no (a := .one)) (oks_cons (ok_no (a := .rp Z6n)) (oks_cons (.sl _ _ _ (by simp)) oks_nil)))))))))))), giv_map (o := ⟨[.pt 54 0], 69, 1⟩) rfl (om_ (lm_cons rfl lm_nil)) (oks_cons (.pt _ _ (by simp)) oks_nil), giv_map (o := Z70) rfl (om_ (lm_cons (am_no (a := .i (0 : Int))) (lm_cons (am_no (a := .i 3)) (lm_cons (am_no (a := .i (-1))) (lm_cons rfl lm_nil))))) (oks_cons (ok_no (a := .i (0 : Int))) (oks_cons (ok_no (a := .i 3)) (oks_cons (ok_no (a := .i (-1))) (oks_cons (.sl _ _ _ (by simp)) oks_nil)))), giv_no (o := ⟨Z6y, 5, 1⟩) rfl rfl, trivial⟩ ⟨(arg_own (.pt _ _ (by simp)) rfl), (arg_no (a := .i 1)), (arg_no (a := .ro 3 (enc eU8 ([0, 1, 0] : List Int)))), (arg_no (a := .ro 3 (enc eI ([-2, 3, -2] : List Int)))), trivial⟩ rfl trivial (fun h => by cases h) (am_no (a := .tup [])) (place_cons (ost_map (lm_cons (am_no (a := .one)) (lm_cons (am_no (a := .q eSec (mkSecs 0 0))) (lm_cons (am_no (a := .q eIL (mkParts 0 0))) (lm_cons (am_no (a := .q ePnt (mkPts 0))) (lm_cons (am_no (a := .q eIL dnR)) (lm_cons (am_no (a := .one)) (lm_cons (am_no (a := .one)) (lm_cons (am_no (a := .one)) (lm_cons (am_no (a := .i (1 + 0))) (lm_cons (am_no (a := .one)) (lm_cons (am_no (a := .rp Z6n)) (lm_cons rfl lm_nil))))))))))))) (place_cons (ost_map (lm_cons rfl lm_nil)) (place_cons (ost_map (lm_cons (am_no (a := .i (0 : Int))) (lm_cons (am_no (a := .i 3)) (lm_cons (am_no (a := .i (-1))) (lm_cons rfl lm_nil))))) (place_cons (ost_no (cs := Z6r)) place_nil)))) ?_)
 refine rU Z6v Z6m ?_
 refine seqR ?_
 refine mG (.pt 52 0) ?_
 refine oG (callG_ true [] [56, 57] (r_LocksO 0 3 (-1) dn1 (by decide)) rfl rfl rfl rfl rfl bd12 (by decide) trivial ⟨(arg_lent (lend_pt rfl (lends_cons (lend_n (av := .one)) (lends_cons (.one _ rfl) (lends_cons (.one _ rfl) (lends_cons (.one _ rfl) (lends_cons (.one _ rfl) (lends_cons (lend_n (av := .one)) (lends_cons (lend_n (av := .one)) (lends_cons (lend_n (av := .one)) (lends_cons (.one _ rfl) (lends_cons (lend_n (av := .one)) (lends_cons (.one _ rfl) (lends_cons (lend_rowX (o := ⟨[.pt 54 0], 69, 1⟩) rfl (lends_cons (lend_pt rfl (lends_cons (lend_n (av := .i (0 : Int))) (lends_cons (lend_n (av := .i 3)) (lends_cons (lend_n (av := .i (-1))) (lends_cons (lend_s (id := 55) (n := (tnK dnR (mkParts 0 0) [0, 1, 0] [-2, 3, -2] 1 (0 : Int) 3 (-1) (List.replicate (pthR dnR 0).length (1 : Int)) (List.replicate (pthR dnR 0).length (1 : Int)).length).length) (o := ⟨Z6r, 5, 1⟩) rfl (enc_len (fun _ => rfl) (by first | rfl | (simp; done)))) lends_nil))))) lends_nil) rfl) lends_nil)))))))))))))), trivial⟩ rfl ⟨rfl, rfl, trivial⟩ (fun _ => ⟨.sl _ _ _ trivial, ⟨(by intro c hc; simp at hc; rcases hc with rfl | rfl | rfl | rfl <;> constructor <;> trivial), ⟨(fun c hc => ((inferInstance : FlatL (enc eU8 dn1)).out c hc).mono (fun _ h => h.elim) id), trivial⟩⟩⟩) rfl (place_cons (ost_map (lm_cons (am_no (a := .i (0 : Int))) (lm_cons (am_no (a := .i 3)) (lm_cons (am_no (a := .i (-1))) (lm_cons rfl lm_nil))))) (place_cons (ost_no (cs := (enc eU8 dn1))) place_nil)) ?_)
 refine oG (aop_len rfl rfl rfl rfl ut44 (len_sl rfl) ?_)
 refine mG (.i (1 : Int)) ?_
 refine rU (upd Z6v 5 (.i (1 : Int))) Z6x ?_
 refine seqR ?_
 refine mG (.pt 52 0) ?_
 refine oG (aop_lit (cells := enc eU8 ([0, 0, 0] : List Int)) rfl rfl rfl ut37 iz5 (by decide) (by decide) rfl rfl ?_)
 refine oG (aop_lit (cells := enc eI ([-2, -2, -2] : List Int)) rfl rfl rfl ut42 iz3 (by decide) (by decide) rfl rfl ?_)
 refine oG (callG_ false [52, 53, 54, 55] [] (r_StepD (mkSecs 0 0) (mkParts 0 0) (mkPts 0) dnR (1 + 0) 0 3 (-1) dn1 2 [0, 0, 0] [-2, -2, -2] (by decide) (by decide) (by decide +kernel) (by decide) (by decide +kernel) (by decide +kernel) (by decide) (by decide) (by decide) dn_part dn_2) rfl rfl rfl rfl rfl bd11 (by decide) ⟨giv_map (o := Z6s) rfl (om_ (lm_cons (am_no (a := .one)) (lm_cons (am_no (a := .q eSec (mkSecs 0 0))) (lm_cons (am_no (a := .q eIL (mkParts 0 0))) (lm_cons (am_no (a := .q ePnt (mkPts 0))) (lm_cons (am_no (a := .q eIL dnR)) (lm_cons (am_no (a := .one)) (lm_cons (am_no (a := .one)) (lm_cons (am_no (a := .one)) (lm_cons (am_no (a := .i (1 + 0))) (lm_cons (am_no (a := .one)) (lm_cons (am_no (a := .rp Z6n)) (lm_cons rfl lm_nil))))))))))))) (oks_cons (ok_no (a := .one)) (oks_cons (ok_no (a := .q eSec (mkSecs 0 0))) (oks_cons (ok_no (a := .q eIL (mkParts 0 0))) (oks_cons (ok_no (a := .q ePnt (mkPts 0))) (oks_cons (ok_no (a := .q eIL dnR)) (oks_cons (ok_no (a := .one)) (oks_cons (ok_no (a := .one)) (oks_cons (ok_no (a := .one)) (oks_cons (ok_no (a := .i (1 + 0))) (oks_cons (ok_no (a := .one)) (oks_cons (ok_no (a := .rp Z6n)) (oks_cons (.sl _ _ _ (by simp)) oks_nil)))))))))))), giv_map (o := ⟨[.pt 54 0], 69, 1⟩) rfl (om_ (lm_cons rfl lm_nil)) (oks_cons (.pt _ _ (by simp)) oks_nil), giv_map (o := Z6u) rfl (om_ (lm_cons (am_no (a := .i (0 : Int))) (lm_cons (am_no (a := .i 3)) (lm_cons (am_no (a := .i (-1))) (lm_cons rfl lm_nil))))) (oks_cons (ok_no (a := .i (0 : Int))) (oks_cons (ok_no (a := .i 3)) (oks_cons (ok_no (a := .i (-1))) (oks_cons (.sl _ _ _ (by simp)) oks_nil)))), giv_no (o := ⟨Z6r, 5, 1⟩) rfl rfl, trivial⟩ ⟨(arg_own (.pt _ _ (by simp)) rfl), (arg_no (a := .i 2)), (arg_no (a := .ro 3 (enc eU8 ([0, 0, 0] : List Int)))), (arg_no (a := .ro 3 (enc eI ([-2, -2, -2] : List Int)))), trivial⟩ rfl trivial (fun h => by cases h) (am_no (a := .tup [])) (place_cons (ost_map (lm_cons (am_no (a := .one)) (lm_cons (am_no (a := .q eSec (mkSecs 0 0))) (lm_cons (am_no (a := .q eIL (mkParts 0 0))) (lm_cons (am_no (a := .q ePnt (mkPts 0))) (lm_cons (am_no (a := .q eIL dnR)) (lm_cons (am_no (a := .one)) (lm_cons (am_no (a := .one)) (lm_cons (am_no (a := .one)) (lm_cons (am_no (a := .i (1 + 0))) (lm_cons (am_no (a := .one)) (lm_cons (am_no (a := .rp Z6n)) (lm_cons rfl lm_nil))))))))))))) (place_cons (ost_no (cs := [.v (.pointer none)])) (place_cons (ost_map (lm_cons (am_no (a := .i (0 : Int))) (lm_cons (am_no (a := .i 3)) (lm_cons (am_no (a := .i (-1))) (lm_cons rfl lm_nil))))) (place_cons (ost_no (cs := Z71)) place_nil)))) ?_)
 refine rU (upd Z6v 5 (.i (1 : Int))) Z6p ?_
 refine seqR ?_
 refine mG (.i 0) ?_
 refine bG ((.bool true)) ?_
 refine mG (.b true) ?_
 refine opY rfl rfl rfl rfl (aop_move (av := .i (1 : Int)) (.inl rfl) rfl rfl rfl ?_)
 refine opY rfl rfl rfl rfl (aop_binI (u := (.bool ((1 : Int) == 1))) rfl rfl rfl rfl rfl trivial rfl ?_)
 refine oG (aop_pick (b := true) (av := .b ((1 : Int) == 1)) rfl rfl rfl rfl rfl ?_)
 refine mG (.b ((1 : Int) == 1)) ?_
 refine aops_grp 5 41 (.b (((1 : Int) == 1) && true)) ?_ ?_
 ·refine (Bool.eq_false_or_eq_true ((1 : Int) == 1)).elim (fun hg1 => ?_) (fun hg1 => ?_)
  ·skip
   have hf2 := (beq_iff_eq).1 hg1
   refine oY hg1 (qM (.pt 52 0) ?_)
   refine oY hg1 (callL_ (r_Locks0 ()) rfl rfl rfl rfl rfl bd12 (lends_cons (lend_pt rfl (lends_cons (lend_n (av := .one)) (lends_cons (.one _ rfl) (lends_cons (.one _ rfl) (lends_cons (.one _ rfl) (lends_cons (.one _ rfl) (lends_cons (lend_n (av := .one)) (lends_cons (lend_n (av := .one)) (lends_cons (lend_n (av := .one)) (lends_cons (.one _ rfl) (lends_cons (lend_n (av := .one)) (lends_cons (.one _ rfl) (lends_cons (lend_row0 rfl) lends_nil))))))))))))) lends_nil) ?_)
   refine oY hg1 (aop_len rfl rfl rfl rfl ut44 (len_nil rfl) ?_)
   refine oY hg1 (qB (.bool true) rfl ?_)
   refine oG (qP ((1 : Int) == 1) (.b true) hg1 ?_)
   refine op0 ?_
   exact imp_env (lee_both 41 _ _ (by rw [hg1] <;> rfl) lO)
  have hf3 := (beq_eq_false_iff_ne).1 hg1
  refine nG hg1 ?_
  refine nG hg1 ?_
  refine nG hg1 ?_
  refine nG hg1 ?_
  refine oG (qP ((1 : Int) == 1) (.b false) hg1 ?_)
  refine op0 ?_
  exact imp_env (lee_both 41 _ _ (by rw [hg1] <;> rfl) lO)
 refine mG (.b (((1 : Int) == 1) && true)) ?_
 refine op0 ?_
 refine rT (upd none_ 0 (.b (((1 : Int) == 1) && true))) Z6p ?_
 refine awp_ret ?_
 exact fret (av := .v (.bool (((1 : Int) == 1) && true))) rfl rfl rfl
theorem bd15 : bodied Try.prog 15 = true := by kernel_rfl
theorem bd6 : bodied Try.prog 6 = true := by kernel_rfl
theorem bd7 : bodied Try.prog 7 = true := by kernel_rfl
theorem bd8 : bodied Try.prog 8 = true := by kernel_rfl
abbrev Z76 (nn c : Int) : Nat → AV := (upd (upd none_ 1 (.i nn)) 2 (.v (.int .u16 c)))
abbrev Z74 (nn c : Int) : Nat → AV := (upd (Z76 nn c) 6 (.b false))
abbrev Z73 (d : Draft) : List AV := [.v (.int .u8 d.form), .v (.int .u8 d.len), .v (.int .u8 d.speed), .v (.int .u16 d.mute), .v (.int .u16 d.wait), .v (.int .u8 d.cancel), .v (.int .u8 d.stay), .v (.int .u8 d.jn), .q eUL d.rs]
abbrev Z75 (d : Draft) : Nat → OSt := (updO (updO noOb 51 (.live ⟨(Z73 d), 25, 1⟩)) 52 (.live ⟨[vN, vN, vN, vN, vN, .i 0, .i 0, .i 0, .i 0, .i 0], 33, 1⟩))
theorem l15_RouteErrs (d : Draft) (nn : Int) (c : Int) (hd : DraftOk d) (hnn : -9223372036854775808 ≤ nn ∧ nn ≤ 9223372036854775807) (hnw : 0 ≤ c ∧ c ≤ 65535) : Fn Try.prog 5 [.agg [.v (.int .u8 d.form), .v (.int .u8 d.len), .v (.int .u8 d.speed), .v (.int .u16 d.mute), .v (.int .u16 d.wait), .v (.int .u8 d.cancel), .v (.int .u8 d.stay), .v (.int .u8 d.jn), .ro d.rs.length (enc eUL d.rs)], .v (.int .i64 nn), .v (.int .u16 c)] (.v (.bool true)) := by
 have hd1 := hd.form
 have hd2 := hd.len
 have hd3 := hd.speed
 have hd4 := hd.mute
 have hd5 := hd.wait
 have hd6 := hd.cancel
 have hd7 := hd.stay
 have hd8 := hd.jn
 have hd9 := hd.n
 have hmx : maxLen = 9223372036854775807 := rfl
 have hel := mkEnds_len d.form
 have hsl := mkSecs_len d.form d.len
 have hpl := mkPts_len d.form
 refine fnE_of_body (N := 101) Try.func5 rfl rfl (resOf1 rfl) (by simp) (fun w0 X hL_ => ?_)
 refine seqR ?_
 refine oG (qW 51 ?_)
 refine mG (.b false) ?_
 refine op0 ?_
 refine awp_seq ?_
 refine seqR ?_
 refine oG (qJ (l15_done) bd6 ?_)
 refine oG (aop_not rfl rfl rfl rfl ?_)
 refine mG (.b false) ?_
 refine opY rfl rfl rfl rfl (aop_ldB (cells' := (Z73 d)) rfl rfl rfl ag25 sz25 rfl rfl rfl rfl ?_)
 refine opY rfl rfl rfl rfl (callW_ (r04_Small d.rs oo) rfl rfl rfl rfl rfl bd7 lS ?_)
 refine opY rfl rfl rfl rfl (aop_not rfl rfl rfl rfl ?_)
 refine oG (aop_pick (b := false) (av := .b (!(smallB d.rs))) rfl rfl rfl rfl rfl ?_)
 refine rU (upd (upd (upd (Z76 nn c) 3 (.pt 51 0)) 6 (.b false)) 22 (.b (!(smallB d.rs)))) (updO noOb 51 (.live ⟨(Z73 d), 25, 1⟩)) ?_
 refine awp_cond (!(smallB d.rs)) rfl rfl (fun hc0 => ?_) (fun hc0 => ?_)
 ·skip
  have hf1 := not_t hc0
  refine seqR ?_
  refine oG (qJ (l15_done) bd6 ?_)
  refine mG (.b true) ?_
  refine op0 ?_
  refine awp_ret ?_
  exact fret (av := .v (.bool true)) rfl rfl rfl
 have hf2 := not_f hc0
 have hsm : smallB d.rs = true := by cases h : smallB d.rs <;> simp [h] at hc0 ⊢
 have hr := small_rs hsm hd.rs
 have hL := full_ok d.form d.len d.jn d.rs
 have hnd := full_nodup d.form d.len d.rs
 have hfu := r05_Full d.form d.len d.speed d.mute d.wait d.cancel d.stay d.jn d.rs hd1 hd2 hd3 hd4 hd5 hd6 hd7 hd8 hr.1 hr.2
 have hck := chk_full d.form d.len
 have hT := top_full d.form d.len
 have hwk := full_wk d.form d.len d.rs
 have hcn : 0 ≤ 1 + d.cancel ∧ 1 + d.cancel ≤ 65536 := by omega
 obtain ⟨ss, h_ss⟩ : ∃ y_, y_ = mkSecs d.form d.len := ⟨_, rfl⟩
 obtain ⟨pa, h_pa⟩ : ∃ y_, y_ = mkParts d.form d.jn := ⟨_, rfl⟩
 obtain ⟨pp, h_pp⟩ : ∃ y_, y_ = mkPts d.form := ⟨_, rfl⟩
 obtain ⟨rr, h_rr⟩ : ∃ y_, y_ = fullRoutes d.form d.len d.rs := ⟨_, rfl⟩
 obtain ⟨cn, h_cn⟩ : ∃ y_, y_ = 1 + d.cancel := ⟨_, rfl⟩
 rw [← h_ss, ← h_pa, ← h_pp, ← h_rr] at hL
 rw [← h_ss, ← h_pa, ← h_pp, ← h_rr, ← h_cn] at hfu
 rw [← h_rr] at hnd
 rw [← h_ss, ← h_pp] at hck hT
 rw [← h_ss, ← h_pp, ← h_rr] at hwk
 rw [← h_cn] at hcn
 have hq1 := hL.h1
 have hq2 := hL.hs
 have hq3 := hL.hp
 have hq4 := hL.hpa
 have hq5 := hL.hro
 have hq6 := hL.hpl
 have hq7 := hL.hpo
 refine awp_skip ?_
 refine seqR ?_
 refine oG (qLB (Z73 d) ag25 sz25 ?_)
 refine oG (qJ (show Fn Try.prog 8 [.agg (Z73 d)] (.agg [.one, .q eSec ss, .q eIL pa, .q ePnt pp, .q eIL rr, .i (1 + d.speed % (2 * (10 * (1 + d.len % 20)))), .i (1 + d.mute % 1000), .i (1 + d.wait % 1000), .i cn, .i (d.stay % 4)]) from hfu) bd8 ?_)
 refine oG (aop_alloc 52 rfl rfl rfl rfl ze33 rfl ?_)
 refine oG (qS sz33 ?_)
 refine rU (upd (Z74 nn c) 7 (.pt 52 0)) (updO (Z75 d) 52 (.live ⟨[.one, .q eSec ss, .q eIL pa, .q ePnt pp, .q eIL rr, .i (1 + d.speed % (2 * (10 * (1 + d.len % 20)))), .i (1 + d.mute % 1000), .i (1 + d.wait % 1000), .i cn, .i (d.stay % 4)], 33, 1⟩)) ?_
 refine seqR ?_
 refine oG (qLB [.one, .q eSec ss, .q eIL pa, .q ePnt pp, .q eIL rr, .i (1 + d.speed % (2 * (10 * (1 + d.len % 20)))), .i (1 + d.mute % 1000), .i (1 + d.wait % 1000), .i cn, .i (d.stay % 4)] ag33 sz33 ?_)
 refine oG (callN_ 53 (r_New ss pa pp rr cn) rfl rfl rfl rfl rfl bd9 (fun _ => lS) newsN1 (free1 rfl) rfl rfl ?_)
 refine mG (.pt 53 0) ?_
 refine op0 ?_
 refine seqR ?_
 refine fG (.pt 52 1) ft33_1 sz29 ?_
 refine oG (qL (.q eSec ss) ag29 ?_)
 refine oG (qN ut29 ?_)
 refine oG (aop_makeE (n := ss.length) (f := eU8) 54 (0 : Int) rfl rfl rfl ut37 in5 rfl rfl rfl rfl om om rfl rfl ?_)
 refine mG (.sl 54 0 ((List.replicate ss.length (0 : Int)).length)) ?_
 refine rU (upd (upd (upd (Z74 nn c) 7 (.pt 52 0)) 8 (.pt 53 0)) 9 (.sl 54 0 ((List.replicate ss.length (0 : Int)).length))) (updO (updO (updO (Z75 d) 52 (.live ⟨[.one, .q eSec ss, .q eIL pa, .q ePnt pp, .q eIL rr, .i (1 + d.speed % (2 * (10 * (1 + d.len % 20)))), .i (1 + d.mute % 1000), .i (1 + d.wait % 1000), .i cn, .i (d.stay % 4)], 33, 1⟩)) 53 (.live ⟨[.one, .q eSec ss, .q eIL pa, .q ePnt pp, .q eIL rr, .one, .one, .one, .i cn, .one, .rp [.one, .q eSec ss, .q eIL pa, .q ePnt pp, .one, .one, .one, .one, .one, .one], vN], 65, 1⟩)) 54 (.live ⟨(enc eU8 (List.replicate ss.length (0 : Int))), 5, 1⟩)) ?_
 refine awp_seq ?_
 refine awp_imp ⟨(upd (upd (upd (Z74 nn c) 7 (.pt 52 0)) 8 (.pt 53 0)) 9 (.q eU8 (List.replicate ss.length 0))), (updO (updO noOb 52 (.live ⟨[.one, .q eSec ss, .q eIL pa, .q ePnt pp, .q eIL rr, .i (1 + d.speed % (2 * (10 * (1 + d.len % 20)))), .i (1 + d.mute % 1000), .i (1 + d.wait % 1000), .i cn, .i (d.stay % 4)], 33, 1⟩)) 53 (.live ⟨[.one, .q eSec ss, .q eIL pa, .q ePnt pp, .q eIL rr, .one, .one, .one, .i cn, .one, .rp [.one, .q eSec ss, .q eIL pa, .q ePnt pp, .one, .one, .one, .one, .one, .one], vN], 65, 1⟩))⟩ ?_ ?_
 ·skip
  refine (frz_ [52, 53] [(52, ⟨[.one, .q eSec ss, .q eIL pa, .q ePnt pp, .q eIL rr, .i (1 + d.speed % (2 * (10 * (1 + d.len % 20)))), .i (1 + d.mute % 1000), .i (1 + d.wait % 1000), .i cn, .i (d.stay % 4)], 33, 1⟩), (53, ⟨[.one, .q eSec ss, .q eIL pa, .q ePnt pp, .q eIL rr, .one, .one, .one, .i cn, .one, .rp [.one, .q eSec ss, .q eIL pa, .q ePnt pp, .one, .one, .one, .one, .one, .one], vN], 65, 1⟩)] rfl (fun _ h => h) ⟨keep_cells (cs := [.one, .q eSec ss, .q eIL pa, .q ePnt pp, .q eIL rr, .i (1 + d.speed % (2 * (10 * (1 + d.len % 20)))), .i (1 + d.mute % 1000), .i (1 + d.wait % 1000), .i cn, .i (d.stay % 4)]) (by simp) rfl rfl fzA, keep_cells (cs := [.one, .q eSec ss, .q eIL pa, .q ePnt pp, .q eIL rr, .one, .one, .one, .i cn, .one, .rp [.one, .q eSec ss, .q eIL pa, .q ePnt pp, .one, .one, .one, .one, .one, .one], vN]) (by simp) rfl rfl fzA, trivial⟩ (fz_lend 9 (.q eU8 (List.replicate ss.length (0 : Int))) (lend_s (id := 54) (n := (List.replicate ss.length (0 : Int)).length) (o := ⟨(enc eU8 (List.replicate ss.length (0 : Int))), 5, 1⟩) rfl (enc_len (fun _ => rfl) (by first | rfl | (simp; done)))) (fz_same 8 (.pt 53 0) rfl (fz_same 7 (.pt 52 0) rfl (fz_same 6 (.b false) rfl (fz_same 2 (.v (.int .u16 c)) rfl (fz_same 1 (.i nn) rfl fz_none))))))).trans ?_
  exact iJ 52 52 53 53 (o := ⟨[.one, .q eSec ss, .q eIL pa, .q ePnt pp, .q eIL rr, .i (1 + d.speed % (2 * (10 * (1 + d.len % 20)))), .i (1 + d.mute % 1000), .i (1 + d.wait % 1000), .i cn, .i (d.stay % 4)], 33, 1⟩) (o2 := ⟨[.one, .q eSec ss, .q eIL pa, .q ePnt pp, .q eIL rr, .one, .one, .one, .i cn, .one, .rp [.one, .q eSec ss, .q eIL pa, .q ePnt pp, .one, .one, .one, .one, .one, .one], vN], 65, 1⟩) rfl rfl
 refine seqR ?_
 refine mG (.i nn) ?_
 refine bG ((.bool (decide (nn ≥ 0)))) ?_
 refine mG (.b (decide (nn ≥ 0))) ?_
 refine aops_grp 6 40 (.b ((decide (nn ≥ 0)) && (decide (nn < (rr.length : Int))))) ?_ ?_
 ·refine (Bool.eq_false_or_eq_true (decide (nn ≥ 0))).elim (fun hg3 => ?_) (fun hg3 => ?_)
  ·skip
   have hf4 := of_decide_eq_true hg3
   refine oY hg3 (qM (.i nn) ?_)
   refine oY hg3 (qF (.pt 52 0) (.pt 52 4) ft33_4 sz30 ?_)
   refine oY hg3 (qL (.q eIL rr) ag30 ?_)
   refine oY hg3 (qN ut30 ?_)
   refine oY hg3 (qB (.bool (decide (nn < (rr.length : Int)))) rfl ?_)
   refine oG (qP (decide (nn ≥ 0)) (.b (decide (nn < (rr.length : Int)))) hg3 ?_)
   refine op0 ?_
   exact imp_env (lee_both 40 _ _ (by rw [hg3] <;> rfl) lO)
  have hf5 := of_decide_eq_false hg3
  refine nG hg3 ?_
  refine nG hg3 ?_
  refine nG hg3 ?_
  refine nG hg3 ?_
  refine nG hg3 ?_
  refine oG (qP (decide (nn ≥ 0)) (.b false) hg3 ?_)
  refine op0 ?_
  exact imp_env (lee_both 40 _ _ (by rw [hg3] <;> rfl) lO)
 refine op0 ?_
 refine awp_cond ((decide (nn ≥ 0)) && (decide (nn < (rr.length : Int)))) rfl rfl (fun hc1 => ?_) (fun hc1 => ?_)
 ·skip
  obtain ⟨hf6a, hf6b⟩ := and_t hc1
  have hf7 := of_decide_eq_true hf6a
  have hf8 := of_decide_eq_true hf6b
  have hnr : 0 ≤ nn ∧ nn < (rr.length : Int) := by simp at hc1; omega
  obtain ⟨hk0, hk1, hk2, hk3, hk4, hk5⟩ := setR_ok (r := nn) hL hT hck hwk hnd hnr
  have hpq := pth_len (routes := rr) (r := nn)
  refine seqR ?_
  refine mG (.pt 53 0) ?_
  refine mG (.i nn) ?_
  refine mG (.v (.int .u16 c)) ?_
  refine oG (aop_conv' rfl rfl rfl ut22 ut2 rfl (IntWalk.i64_in _ om) ?_)
  refine oG (callL_ (r_Can8 rr [] nn c om (by simp) hk0 (show (-1 : Int) < 0 by decide)) rfl rfl rfl rfl rfl bd15 (lends_cons (lend_pt rfl (lends_cons (lend_n (av := .one)) (lends_cons (.one _ rfl) (lends_cons (.one _ rfl) (lends_cons (.one _ rfl) (lends_cons (lend_n (av := .q eIL rr)) (lends_cons (lend_n (av := .one)) (lends_cons (lend_n (av := .one)) (lends_cons (lend_n (av := .one)) (lends_cons (.one _ rfl) (lends_cons (lend_n (av := .one)) (lends_cons (.one _ rfl) (lends_cons lend_nil lends_nil))))))))))))) lS) ?_)
  refine mG (.i 8) ?_
  refine mG (.i 0) ?_
  refine rU (upd (upd (upd (upd (Z74 nn c) 8 (.pt 53 0)) 9 (.q eU8 (List.replicate ss.length 0))) 10 (.i 8)) 11 (.i 0)) (updO (updO noOb 52 (.live ⟨[.one, .q eSec ss, .q eIL pa, .q ePnt pp, .q eIL rr, .i (1 + d.speed % (2 * (10 * (1 + d.len % 20)))), .i (1 + d.mute % 1000), .i (1 + d.wait % 1000), .i cn, .i (d.stay % 4)], 33, 1⟩)) 53 (.live ⟨[.one, .q eSec ss, .q eIL pa, .q ePnt pp, .q eIL rr, .one, .one, .one, .i cn, .one, .rp [.one, .q eSec ss, .q eIL pa, .q ePnt pp, .one, .one, .one, .one, .one, .one], vN], 65, 1⟩)) ?_
  refine seqR ?_
  refine mG (.pt 53 0) ?_
  refine mG (.i nn) ?_
  refine mG (.q eU8 (List.replicate ss.length 0)) ?_
  refine oG (callG_ false [53] [55, 56, 57] (r_SetN ss pa pp rr cn nn 2 (List.replicate ss.length 0) om om om (by rw [List.length_replicate]; omega) hk0 om (fun s h => (hk3 s h).1) hk4 hk5) rfl rfl rfl rfl rfl bd10 (by decide) ⟨giv_no (o := ⟨[.one, .q eSec ss, .q eIL pa, .q ePnt pp, .q eIL rr, .one, .one, .one, .i cn, .one, .rp [.one, .q eSec ss, .q eIL pa, .q ePnt pp, .one, .one, .one, .one, .one, .one], vN], 65, 1⟩) rfl rfl, trivial⟩ ⟨(arg_own (.pt _ _ (by simp)) rfl), (arg_no (a := .i nn)), (arg_no (a := .i 2)), (arg_no (a := .q eU8 (List.replicate ss.length 0))), (arg_no (a := vN)), (arg_no (a := vN)), trivial⟩ rfl ⟨rfl, rfl, rfl, trivial⟩ (fun h => by cases h) (am_no (a := .tup [.q eB (moveL ([] : List Bool) (movesL (paL ss pp (rr.getD nn.toNat [])) ([] : List Bool))), .i 0])) (place_cons (ost_map (lm_cons (am_no (a := .one)) (lm_cons (am_no (a := .q eSec ss)) (lm_cons (am_no (a := .q eIL pa)) (lm_cons (am_no (a := .q ePnt pp)) (lm_cons (am_no (a := .q eIL rr)) (lm_cons (am_no (a := .one)) (lm_cons (am_no (a := .one)) (lm_cons (am_no (a := .one)) (lm_cons (am_no (a := .i cn)) (lm_cons (am_no (a := .one)) (lm_cons (am_no (a := .rp [.one, .q eSec ss, .q eIL pa, .q ePnt pp, .one, .one, .one, .one, .one, .one])) (lm_cons rfl lm_nil))))))))))))) (place_cons (ost_map (lm_cons rfl lm_nil)) (place_cons (ost_map (lm_cons (am_no (a := .i nn)) (lm_cons (am_no (a := .i 2)) (lm_cons (am_no (a := .i (-1))) (lm_cons rfl lm_nil))))) (place_cons (ost_no (cs := (enc eU8 (List.replicate (pthR rr nn).length (1 : Int))))) place_nil)))) ?_)
  refine mG (.tup [.q eB (moveL ([] : List Bool) (movesL (paL ss pp (rr.getD nn.toNat [])) ([] : List Bool))), .i 0]) ?_
  refine oG (qE ?_)
  refine oG (qE ?_)
  refine mG (.i 0) ?_
  refine rU (upd (upd (upd (upd (Z74 nn c) 8 (.pt 53 0)) 9 (.q eU8 (List.replicate ss.length 0))) 10 (.i 8)) 11 (.i 0)) (updO (updO (updO (updO (updO (updO noOb 52 (.live ⟨[.one, .q eSec ss, .q eIL pa, .q ePnt pp, .q eIL rr, .i (1 + d.speed % (2 * (10 * (1 + d.len % 20)))), .i (1 + d.mute % 1000), .i (1 + d.wait % 1000), .i cn, .i (d.stay % 4)], 33, 1⟩)) 53 (.live ⟨[.one, .q eSec ss, .q eIL pa, .q ePnt pp, .q eIL rr, .one, .one, .one, .i cn, .one, .rp [.one, .q eSec ss, .q eIL pa, .q ePnt pp, .one, .one, .one, .one, .one, .one], vN], 65, 1⟩)) 53 (.live ⟨[.one, .q eSec ss, .q eIL pa, .q ePnt pp, .q eIL rr, .one, .one, .one, .i cn, .one, .rp [.one, .q eSec ss, .q eIL pa, .q ePnt pp, .one, .one, .one, .one, .one, .one], .sl 55 0 1], 65, 1⟩)) 55 (.live ⟨[.pt 56 0], 69, 1⟩)) 56 (.live ⟨[.i nn, .i 2, .i (-1), .sl 57 0 ((List.replicate (pthR rr nn).length (1 : Int)).length)], 47, 1⟩)) 57 (.live ⟨(enc eU8 (List.replicate (pthR rr nn).length (1 : Int))), 5, 1⟩)) ?_
  refine seqR ?_
  refine mG (.pt 53 0) ?_
  refine mG (.i nn) ?_
  refine mG (.q eU8 (List.replicate ss.length 0)) ?_
  refine oG (callG_ false [53, 55, 56, 57] [] (r_Set8N ss pa pp rr cn nn 2 (-1) (List.replicate (pthR rr nn).length (1 : Int)) 2 (List.replicate ss.length 0) om (by rw [List.length_replicate]; omega) hk0) rfl rfl rfl rfl rfl bd10 (by decide) ⟨giv_map (o := ⟨[.one, .q eSec ss, .q eIL pa, .q ePnt pp, .q eIL rr, .one, .one, .one, .i cn, .one, .rp [.one, .q eSec ss, .q eIL pa, .q ePnt pp, .one, .one, .one, .one, .one, .one], .sl 55 0 1], 65, 1⟩) rfl (om_ (lm_cons (am_no (a := .one)) (lm_cons (am_no (a := .q eSec ss)) (lm_cons (am_no (a := .q eIL pa)) (lm_cons (am_no (a := .q ePnt pp)) (lm_cons (am_no (a := .q eIL rr)) (lm_cons (am_no (a := .one)) (lm_cons (am_no (a := .one)) (lm_cons (am_no (a := .one)) (lm_cons (am_no (a := .i cn)) (lm_cons (am_no (a := .one)) (lm_cons (am_no (a := .rp [.one, .q eSec ss, .q eIL pa, .q ePnt pp, .one, .one, .one, .one, .one, .one])) (lm_cons rfl lm_nil))))))))))))) (oks_cons (ok_no (a := .one)) (oks_cons (ok_no (a := .q eSec ss)) (oks_cons (ok_no (a := .q eIL pa)) (oks_cons (ok_no (a := .q ePnt pp)) (oks_cons (ok_no (a := .q eIL rr)) (oks_cons (ok_no (a := .one)) (oks_cons (ok_no (a := .one)) (oks_cons (ok_no (a := .one)) (oks_cons (ok_no (a := .i cn)) (oks_cons (ok_no (a := .one)) (oks_cons (ok_no (a := .rp [.one, .q eSec ss, .q eIL pa, .q ePnt pp, .one, .one, .one, .one, .one, .one])) (oks_cons (.sl _ _ _ (by simp)) oks_nil)))))))))))), giv_map (o := ⟨[.pt 56 0], 69, 1⟩) rfl (om_ (lm_cons rfl lm_nil)) (oks_cons (.pt _ _ (by simp)) oks_nil), giv_map (o := ⟨[.i nn, .i 2, .i (-1), .sl 57 0 ((List.replicate (pthR rr nn).length (1 : Int)).length)], 47, 1⟩) rfl (om_ (lm_cons (am_no (a := .i nn)) (lm_cons (am_no (a := .i 2)) (lm_cons (am_no (a := .i (-1))) (lm_cons rfl lm_nil))))) (oks_cons (ok_no (a := .i nn)) (oks_cons (ok_no (a := .i 2)) (oks_cons (ok_no (a := .i (-1))) (oks_cons (.sl _ _ _ (by simp)) oks_nil)))), giv_no (o := ⟨(enc eU8 (List.replicate (pthR rr nn).length (1 : Int))), 5, 1⟩) rfl rfl, trivial⟩ ⟨(arg_own (.pt _ _ (by simp)) rfl), (arg_no (a := .i nn)), (arg_no (a := .i 2)), (arg_no (a := .q eU8 (List.replicate ss.length 0))), (arg_no (a := vN)), (arg_no (a := vN)), trivial⟩ rfl trivial (fun h => by cases h) (am_no (a := .tup [.q eB ([] : List Bool), .i 8])) (place_cons (ost_map (lm_cons (am_no (a := .one)) (lm_cons (am_no (a := .q eSec ss)) (lm_cons (am_no (a := .q eIL pa)) (lm_cons (am_no (a := .q ePnt pp)) (lm_cons (am_no (a := .q eIL rr)) (lm_cons (am_no (a := .one)) (lm_cons (am_no (a := .one)) (lm_cons (am_no (a := .one)) (lm_cons (am_no (a := .i cn)) (lm_cons (am_no (a := .one)) (lm_cons (am_no (a := .rp [.one, .q eSec ss, .q eIL pa, .q ePnt pp, .one, .one, .one, .one, .one, .one])) (lm_cons rfl lm_nil))))))))))))) (place_cons (ost_map (lm_cons rfl lm_nil)) (place_cons (ost_map (lm_cons (am_no (a := .i nn)) (lm_cons (am_no (a := .i 2)) (lm_cons (am_no (a := .i (-1))) (lm_cons rfl lm_nil))))) (place_cons (ost_no (cs := (enc eU8 (List.replicate (pthR rr nn).length (1 : Int))))) place_nil)))) ?_)
  refine mG (.tup [.q eB ([] : List Bool), .i 8]) ?_
  refine oG (qE ?_)
  refine oG (qE ?_)
  refine mG (.q eB ([] : List Bool)) ?_
  refine mG (.i 8) ?_
  refine rU (upd (upd (upd (upd (upd (Z74 nn c) 8 (.pt 53 0)) 9 (.q eU8 (List.replicate ss.length 0))) 10 (.i 8)) 11 (.i 0)) 13 (.i 8)) (updO (updO (updO (updO (updO (updO (updO (updO (updO (updO noOb 52 (.live ⟨[.one, .q eSec ss, .q eIL pa, .q ePnt pp, .q eIL rr, .i (1 + d.speed % (2 * (10 * (1 + d.len % 20)))), .i (1 + d.mute % 1000), .i (1 + d.wait % 1000), .i cn, .i (d.stay % 4)], 33, 1⟩)) 53 (.live ⟨[.one, .q eSec ss, .q eIL pa, .q ePnt pp, .q eIL rr, .one, .one, .one, .i cn, .one, .rp [.one, .q eSec ss, .q eIL pa, .q ePnt pp, .one, .one, .one, .one, .one, .one], vN], 65, 1⟩)) 53 (.live ⟨[.one, .q eSec ss, .q eIL pa, .q ePnt pp, .q eIL rr, .one, .one, .one, .i cn, .one, .rp [.one, .q eSec ss, .q eIL pa, .q ePnt pp, .one, .one, .one, .one, .one, .one], .sl 55 0 1], 65, 1⟩)) 55 (.live ⟨[.pt 56 0], 69, 1⟩)) 56 (.live ⟨[.i nn, .i 2, .i (-1), .sl 57 0 ((List.replicate (pthR rr nn).length (1 : Int)).length)], 47, 1⟩)) 57 (.live ⟨(enc eU8 (List.replicate (pthR rr nn).length (1 : Int))), 5, 1⟩)) 53 (.live ⟨[.one, .q eSec ss, .q eIL pa, .q ePnt pp, .q eIL rr, .one, .one, .one, .i cn, .one, .rp [.one, .q eSec ss, .q eIL pa, .q ePnt pp, .one, .one, .one, .one, .one, .one], .sl 55 0 1], 65, 1⟩)) 55 (.live ⟨[.pt 56 0], 69, 1⟩)) 56 (.live ⟨[.i nn, .i 2, .i (-1), .sl 57 0 ((List.replicate (pthR rr nn).length (1 : Int)).length)], 47, 1⟩)) 57 (.live ⟨(enc eU8 (List.replicate (pthR rr nn).length (1 : Int))), 5, 1⟩)) ?_
  refine seqR ?_
  refine mG (.i 8) ?_
  refine bG ((.bool true)) ?_
  refine mG (.b true) ?_
  refine opY rfl rfl rfl rfl (aop_move (av := .i 0) (.inl rfl) rfl rfl rfl ?_)
  refine opY rfl rfl rfl rfl (aop_binI (u := (.bool true)) rfl rfl rfl rfl rfl trivial rfl ?_)
  refine oG (aop_pick (b := true) (av := .b true) rfl rfl rfl rfl rfl ?_)
  refine mG (.b true) ?_
  refine opY rfl rfl rfl rfl (aop_move (av := .i 8) (.inl rfl) rfl rfl rfl ?_)
  refine opY rfl rfl rfl rfl (aop_binI (u := (.bool true)) rfl rfl rfl rfl rfl trivial rfl ?_)
  refine oG (aop_pick (b := true) (av := .b true) rfl rfl rfl rfl rfl ?_)
  refine mG (.b true) ?_
  refine opY rfl rfl rfl rfl (aop_move (av := .pt 53 0) (.inl rfl) rfl rfl rfl ?_)
  refine opY rfl rfl rfl rfl (aop_move (av := .i nn) (.inl rfl) rfl rfl rfl ?_)
  refine opY rfl rfl rfl rfl (aop_move (av := .v (.int .u16 c)) (.inl rfl) rfl rfl rfl ?_)
  refine opY rfl rfl rfl rfl (aop_conv' rfl rfl rfl ut22 ut2 rfl (IntWalk.i64_in _ om) ?_)
  refine opY rfl rfl rfl rfl (callG_ false [53, 55, 56, 57] [] (r_CanO ss pa pp rr cn nn 2 (-1) (List.replicate (pthR rr nn).length (1 : Int)) c om hk0 om hcn) rfl rfl rfl rfl rfl bd15 (by decide) ⟨giv_map (o := ⟨[.one, .q eSec ss, .q eIL pa, .q ePnt pp, .q eIL rr, .one, .one, .one, .i cn, .one, .rp [.one, .q eSec ss, .q eIL pa, .q ePnt pp, .one, .one, .one, .one, .one, .one], .sl 55 0 1], 65, 1⟩) rfl (om_ (lm_cons (am_no (a := .one)) (lm_cons (am_no (a := .q eSec ss)) (lm_cons (am_no (a := .q eIL pa)) (lm_cons (am_no (a := .q ePnt pp)) (lm_cons (am_no (a := .q eIL rr)) (lm_cons (am_no (a := .one)) (lm_cons (am_no (a := .one)) (lm_cons (am_no (a := .one)) (lm_cons (am_no (a := .i cn)) (lm_cons (am_no (a := .one)) (lm_cons (am_no (a := .rp [.one, .q eSec ss, .q eIL pa, .q ePnt pp, .one, .one, .one, .one, .one, .one])) (lm_cons rfl lm_nil))))))))))))) (oks_cons (ok_no (a := .one)) (oks_cons (ok_no (a := .q eSec ss)) (oks_cons (ok_no (a := .q eIL pa)) (oks_cons (ok_no (a := .q ePnt pp)) (oks_cons (ok_no (a := .q eIL rr)) (oks_cons (ok_no (a := .one)) (oks_cons (ok_no (a := .one)) (oks_cons (ok_no (a := .one)) (oks_cons (ok_no (a := .i cn)) (oks_cons (ok_no (a := .one)) (oks_cons (ok_no (a := .rp [.one, .q eSec ss, .q eIL pa, .q ePnt pp, .one, .one, .one, .one, .one, .one])) (oks_cons (.sl _ _ _ (by simp)) oks_nil)))))))))))), giv_map (o := ⟨[.pt 56 0], 69, 1⟩) rfl (om_ (lm_cons rfl lm_nil)) (oks_cons (.pt _ _ (by simp)) oks_nil), giv_map (o := ⟨[.i nn, .i 2, .i (-1), .sl 57 0 ((List.replicate (pthR rr nn).length (1 : Int)).length)], 47, 1⟩) rfl (om_ (lm_cons (am_no (a := .i nn)) (lm_cons (am_no (a := .i 2)) (lm_cons (am_no (a := .i (-1))) (lm_cons rfl lm_nil))))) (oks_cons (ok_no (a := .i nn)) (oks_cons (ok_no (a := .i 2)) (oks_cons (ok_no (a := .i (-1))) (oks_cons (.sl _ _ _ (by simp)) oks_nil)))), giv_no (o := ⟨(enc eU8 (List.replicate (pthR rr nn).length (1 : Int))), 5, 1⟩) rfl rfl, trivial⟩ ⟨(arg_own (.pt _ _ (by simp)) rfl), (arg_no (a := .i nn)), (arg_no (a := .i c)), trivial⟩ rfl trivial (fun h => by cases h) (am_no (a := .i 0)) (place_cons (ost_map (lm_cons (am_no (a := .one)) (lm_cons (am_no (a := .q eSec ss)) (lm_cons (am_no (a := .q eIL pa)) (lm_cons (am_no (a := .q ePnt pp)) (lm_cons (am_no (a := .q eIL rr)) (lm_cons (am_no (a := .one)) (lm_cons (am_no (a := .one)) (lm_cons (am_no (a := .one)) (lm_cons (am_no (a := .i cn)) (lm_cons (am_no (a := .one)) (lm_cons (am_no (a := .rp [.one, .q eSec ss, .q eIL pa, .q ePnt pp, .one, .one, .one, .one, .one, .one])) (lm_cons rfl lm_nil))))))))))))) (place_cons (ost_map (lm_cons rfl lm_nil)) (place_cons (ost_map (lm_cons (am_no (a := .i nn)) (lm_cons (am_no (a := .i 2)) (lm_cons (am_no (a := .i (if (-1) < 0 then c + cn else (-1)))) (lm_cons rfl lm_nil))))) (place_cons (ost_no (cs := (enc eU8 (List.replicate (pthR rr nn).length (1 : Int))))) place_nil)))) ?_)
  refine opY rfl rfl rfl rfl (aop_binI (u := (.bool true)) rfl rfl rfl rfl rfl trivial rfl ?_)
  refine oG (aop_pick (b := true) (av := .b true) rfl rfl rfl rfl rfl ?_)
  refine mG (.b true) ?_
  refine rU (upd (upd (upd (Z76 nn c) 6 (.b true)) 8 (.pt 53 0)) 9 (.q eU8 (List.replicate ss.length 0))) (updO (updO (updO (updO (updO (updO (updO (updO (updO (updO (updO (updO (updO (updO noOb 52 (.live ⟨[.one, .q eSec ss, .q eIL pa, .q ePnt pp, .q eIL rr, .i (1 + d.speed % (2 * (10 * (1 + d.len % 20)))), .i (1 + d.mute % 1000), .i (1 + d.wait % 1000), .i cn, .i (d.stay % 4)], 33, 1⟩)) 53 (.live ⟨[.one, .q eSec ss, .q eIL pa, .q ePnt pp, .q eIL rr, .one, .one, .one, .i cn, .one, .rp [.one, .q eSec ss, .q eIL pa, .q ePnt pp, .one, .one, .one, .one, .one, .one], vN], 65, 1⟩)) 53 (.live ⟨[.one, .q eSec ss, .q eIL pa, .q ePnt pp, .q eIL rr, .one, .one, .one, .i cn, .one, .rp [.one, .q eSec ss, .q eIL pa, .q ePnt pp, .one, .one, .one, .one, .one, .one], .sl 55 0 1], 65, 1⟩)) 55 (.live ⟨[.pt 56 0], 69, 1⟩)) 56 (.live ⟨[.i nn, .i 2, .i (-1), .sl 57 0 ((List.replicate (pthR rr nn).length (1 : Int)).length)], 47, 1⟩)) 57 (.live ⟨(enc eU8 (List.replicate (pthR rr nn).length (1 : Int))), 5, 1⟩)) 53 (.live ⟨[.one, .q eSec ss, .q eIL pa, .q ePnt pp, .q eIL rr, .one, .one, .one, .i cn, .one, .rp [.one, .q eSec ss, .q eIL pa, .q ePnt pp, .one, .one, .one, .one, .one, .one], .sl 55 0 1], 65, 1⟩)) 55 (.live ⟨[.pt 56 0], 69, 1⟩)) 56 (.live ⟨[.i nn, .i 2, .i (-1), .sl 57 0 ((List.replicate (pthR rr nn).length (1 : Int)).length)], 47, 1⟩)) 57 (.live ⟨(enc eU8 (List.replicate (pthR rr nn).length (1 : Int))), 5, 1⟩)) 53 (.live ⟨[.one, .q eSec ss, .q eIL pa, .q ePnt pp, .q eIL rr, .one, .one, .one, .i cn, .one, .rp [.one, .q eSec ss, .q eIL pa, .q ePnt pp, .one, .one, .one, .one, .one, .one], .sl 55 0 1], 65, 1⟩)) 55 (.live ⟨[.pt 56 0], 69, 1⟩)) 56 (.live ⟨[.i nn, .i 2, .i (if (-1) < 0 then c + cn else (-1)), .sl 57 0 ((List.replicate (pthR rr nn).length (1 : Int)).length)], 47, 1⟩)) 57 (.live ⟨(enc eU8 (List.replicate (pthR rr nn).length (1 : Int))), 5, 1⟩)) ?_
  refine awp_ret ?_
  exact fret (av := .v (.bool true)) rfl rfl rfl
 have hnr : hasR rr nn = false := by unfold hasR; exact hc1
 refine awp_skip ?_
 refine seqR ?_
 refine mG (.pt 53 0) ?_
 refine mG (.i nn) ?_
 refine mG (.q eU8 (List.replicate ss.length 0)) ?_
 refine oG (callG_ false [53] [] (r_Set7N ss pa pp rr cn nn 2 (List.replicate ss.length 0) om (by rw [List.length_replicate]; omega) hnr) rfl rfl rfl rfl rfl bd10 (by decide) ⟨giv_no (o := ⟨[.one, .q eSec ss, .q eIL pa, .q ePnt pp, .q eIL rr, .one, .one, .one, .i cn, .one, .rp [.one, .q eSec ss, .q eIL pa, .q ePnt pp, .one, .one, .one, .one, .one, .one], vN], 65, 1⟩) rfl rfl, trivial⟩ ⟨(arg_own (.pt _ _ (by simp)) rfl), (arg_no (a := .i nn)), (arg_no (a := .i 2)), (arg_no (a := .q eU8 (List.replicate ss.length 0))), (arg_no (a := vN)), (arg_no (a := vN)), trivial⟩ rfl trivial (fun h => by cases h) (am_no (a := .tup [.q eB ([] : List Bool), .i 7])) (place_cons (ost_no (cs := [.one, .q eSec ss, .q eIL pa, .q ePnt pp, .q eIL rr, .one, .one, .one, .i cn, .one, .rp [.one, .q eSec ss, .q eIL pa, .q ePnt pp, .one, .one, .one, .one, .one, .one], vN])) place_nil) ?_)
 refine mG (.tup [.q eB ([] : List Bool), .i 7]) ?_
 refine oG (qE ?_)
 refine oG (qE ?_)
 refine mG (.q eB ([] : List Bool)) ?_
 refine mG (.i 7) ?_
 refine rU (upd (upd (Z74 nn c) 8 (.pt 53 0)) 15 (.i 7)) (updO (updO (updO noOb 52 (.live ⟨[.one, .q eSec ss, .q eIL pa, .q ePnt pp, .q eIL rr, .i (1 + d.speed % (2 * (10 * (1 + d.len % 20)))), .i (1 + d.mute % 1000), .i (1 + d.wait % 1000), .i cn, .i (d.stay % 4)], 33, 1⟩)) 53 (.live ⟨[.one, .q eSec ss, .q eIL pa, .q ePnt pp, .q eIL rr, .one, .one, .one, .i cn, .one, .rp [.one, .q eSec ss, .q eIL pa, .q ePnt pp, .one, .one, .one, .one, .one, .one], vN], 65, 1⟩)) 53 (.live ⟨[.one, .q eSec ss, .q eIL pa, .q ePnt pp, .q eIL rr, .one, .one, .one, .i cn, .one, .rp [.one, .q eSec ss, .q eIL pa, .q ePnt pp, .one, .one, .one, .one, .one, .one], vN], 65, 1⟩)) ?_
 refine seqR ?_
 refine mG (.i 7) ?_
 refine bG ((.bool true)) ?_
 refine mG (.b true) ?_
 refine opY rfl rfl rfl rfl (aop_move (av := .pt 53 0) (.inl rfl) rfl rfl rfl ?_)
 refine opY rfl rfl rfl rfl (aop_move (av := .i nn) (.inl rfl) rfl rfl rfl ?_)
 refine opY rfl rfl rfl rfl (aop_move (av := .v (.int .u16 c)) (.inl rfl) rfl rfl rfl ?_)
 refine opY rfl rfl rfl rfl (aop_conv' rfl rfl rfl ut22 ut2 rfl (IntWalk.i64_in _ om) ?_)
 refine opY rfl rfl rfl rfl (callL_ (r_Can7 rr [] nn c om (by simp) hnr) rfl rfl rfl rfl rfl bd15 (lends_cons (lend_pt rfl (lends_cons (lend_n (av := .one)) (lends_cons (.one _ rfl) (lends_cons (.one _ rfl) (lends_cons (.one _ rfl) (lends_cons (lend_n (av := .q eIL rr)) (lends_cons (lend_n (av := .one)) (lends_cons (lend_n (av := .one)) (lends_cons (lend_n (av := .one)) (lends_cons (.one _ rfl) (lends_cons (lend_n (av := .one)) (lends_cons (.one _ rfl) (lends_cons lend_nil lends_nil))))))))))))) lS) ?_)
 refine opY rfl rfl rfl rfl (aop_binI (u := (.bool true)) rfl rfl rfl rfl rfl trivial rfl ?_)
 refine oG (aop_pick (b := true) (av := .b true) rfl rfl rfl rfl rfl ?_)
 refine mG (.b true) ?_
 refine opY rfl rfl rfl rfl (aop_move (av := .pt 53 0) (.inl rfl) rfl rfl rfl ?_)
 refine opY rfl rfl rfl rfl (callL_ (r_Locks0 ()) rfl rfl rfl rfl rfl bd12 (lends_cons (lend_pt rfl (lends_cons (lend_n (av := .one)) (lends_cons (.one _ rfl) (lends_cons (.one _ rfl) (lends_cons (.one _ rfl) (lends_cons (.one _ rfl) (lends_cons (lend_n (av := .one)) (lends_cons (lend_n (av := .one)) (lends_cons (lend_n (av := .one)) (lends_cons (.one _ rfl) (lends_cons (lend_n (av := .one)) (lends_cons (.one _ rfl) (lends_cons lend_nil lends_nil))))))))))))) lends_nil) ?_)
 refine opY rfl rfl rfl rfl (aop_len rfl rfl rfl rfl ut44 (len_nil rfl) ?_)
 refine opY rfl rfl rfl rfl (aop_binI (u := (.bool true)) rfl rfl rfl rfl rfl trivial rfl ?_)
 refine oG (aop_pick (b := true) (av := .b true) rfl rfl rfl rfl rfl ?_)
 refine mG (.b true) ?_
 refine rU (upd none_ 6 (.b true)) (updO (updO (updO noOb 52 (.live ⟨[.one, .q eSec ss, .q eIL pa, .q ePnt pp, .q eIL rr, .i (1 + d.speed % (2 * (10 * (1 + d.len % 20)))), .i (1 + d.mute % 1000), .i (1 + d.wait % 1000), .i cn, .i (d.stay % 4)], 33, 1⟩)) 53 (.live ⟨[.one, .q eSec ss, .q eIL pa, .q ePnt pp, .q eIL rr, .one, .one, .one, .i cn, .one, .rp [.one, .q eSec ss, .q eIL pa, .q ePnt pp, .one, .one, .one, .one, .one, .one], vN], 65, 1⟩)) 53 (.live ⟨[.one, .q eSec ss, .q eIL pa, .q ePnt pp, .q eIL rr, .one, .one, .one, .i cn, .one, .rp [.one, .q eSec ss, .q eIL pa, .q ePnt pp, .one, .one, .one, .one, .one, .one], vN], 65, 1⟩)) ?_
 refine awp_ret ?_
 exact fret (av := .v (.bool true)) rfl rfl rfl
end Go.Lo
