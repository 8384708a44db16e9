/- Walks of Go functions in the logic of values: what the law reaches. -/
import Derived.Test.YtnjncdidiijpgaaPFnPo2
set_option linter.unusedVariables false
set_option linter.unusedSimpArgs false
set_option maxRecDepth 10000
set_option maxHeartbeats 16000000
namespace Go.Lo
open Go.Proofs
abbrev Z4m : List AV := [.ro 0 [], .v (.bool false)]
abbrev Z4k (c : List Sec) (d : List Pnt) : List AV := [.one, .q eSec c, .one, .q ePnt d, .one, .one, .one, .one, .one, .one]
abbrev Z4j (c : List Sec) (d : List Pnt) (a : List Int) (j : Nat) : AV := (.q eN (wyL c d (a.getD 0 0) (j : Int) (a.drop 1)))
abbrev Z4i (c : List Sec) (d : List Pnt) (a : List Int) : Nat → AV := (upd (upd (upd (upd none_ 0 (.rp (Z4k c d))) 1 (.q eI a)) 4 vN) 5 (.b false))
abbrev Z4l (c : List Sec) (d : List Pnt) (a : List Int) (k : Nat) : Nat → AV := (upd (upd (upd (upd (upd (Z4i c d a) 6 (.i (k : Int))) 7 (.i (a.getD k 0))) 14 (.q eI a)) 15 (.i (a.length : Int))) 16 (.i (k : Int)))
theorem g_Path (c : List Sec) (d : List Pnt) (a : List Int) (hs : c.length ≤ 65536) (hp : d.length ≤ 65536) (hpl : a.length ≤ 65536) : Fn Try.prog 68 [.rp [.one, .ro c.length (enc eSec c), .one, .ro d.length (enc ePnt d), .one, .one, .one, .one, .one, .one], .ro a.length (enc eI a)] (.tup [.ro ((paL c d a).length) (enc eN (paL c d a)), .v (.bool (paB c d a))]) := by
 refine fnE_of_body (N := 45) Try.func68 rfl rfl (resOf2 rfl) (by simp) (fun w0 X hL_ => ?_)
 refine seqR ?_
 refine mG vN ?_
 refine mG (.b false) ?_
 refine op0 ?_
 refine awp_seq ?_
 refine seqR ?_
 refine mG (.q eI a) ?_
 refine oG (qN ut48 ?_)
 refine bG ((.bool (decide ((a.length : Int) < 2)))) ?_
 refine rU (upd (Z4i c d a) 13 (.b (decide ((a.length : Int) < 2)))) noOb ?_
 refine awp_cond (decide ((a.length : Int) < 2)) rfl rfl (fun hc0 => ?_) (fun hc0 => ?_)
 ·skip
  have hf1 := of_decide_eq_true hc0
  have hp2 := pa_short (secs := c) (pts := d) (path := a) om
  refine seqR ?_
  refine mG vN ?_
  refine mG (.b false) ?_
  refine op0 ?_
  refine awp_imp _ (imp_frozen rfl (fun _ h => h) (lee_lend 5 (.b false) (lend_n (av := .b false)) (lee_lend 4 (.ro 0 []) .nil lee_lend0))) ?_
  refine awp_ret ?_
  exact fret (av := .tup Z4m) rfl rfl (by rw [hp2.1, hp2.2]; rfl)
 have hf2 := of_decide_eq_false hc0
 have hp2 : ¬ a.length < 2 := by omega
 refine awp_skip ?_
 refine awp_seq ?_
 refine seqR ?_
 refine mG (.q eI a) ?_
 refine oG (qN ut48 ?_)
 refine mG (.i 0) ?_
 refine op0 ?_
 refine awp_block ?_
 refine awp_countI (fun k => ⟨(upd (upd (upd (Z4i c d a) 14 (.q eI a)) 15 (.i (a.length : Int))) 16 (.i (k : Int))), noOb⟩) (fun k => (a.take k).Nodup) (a.length) ?_ (by simp) (fun k hk_k hinv => ?_)
 ·skip
  exact iN
 refine seqR ?_
 refine bG ((.bool (decide ((k : Int) < (a.length : Int))))) ?_
 refine op0 ?_
 refine awp_seq ?_
 refine awp_cond (decide ((k : Int) < (a.length : Int))) rfl rfl (fun hc1 => ?_) (fun hc1 => ?_)
 ·skip
  have hf3 := of_decide_eq_true hc1
  refine awp_skip ?_
  refine awp_seq ?_
  refine awp_block ?_
  refine seqR ?_
  refine mG (.i (k : Int)) ?_
  refine oG (qX (0 : Int) ut48 sz3 ?_)
  refine oG (qL (.i (a.getD k 0)) ag3 ?_)
  refine mG (.i (k : Int)) ?_
  refine mG (.i (a.getD k 0)) ?_
  refine rU (Z4l c d a k) noOb ?_
  refine seqR ?_
  refine mG (.q eI a) ?_
  refine mG (.i (k : Int)) ?_
  refine oG (aop_sliceRoN (l := 0) (hgh := k) (cells' := enc eI (a.take k)) ((a.take k)).length rfl rfl rfl ut48 sz3 rfl rfl ⟨_, rfl⟩ om oo (sliceE (f := eI) (fun _ => rfl) _ 0 _) (by simp; omega) ?_)
  refine mG (.i (a.getD k 0)) ?_
  refine oG (qJ (coI (a.take k) (a.getD k 0) oo) bd67 ?_)
  refine rU (upd (Z4l c d a k) 25 (.b (decide ((a.getD k 0) ∈ (a.take k))))) noOb ?_
  refine awp_cond (decide ((a.getD k 0) ∈ (a.take k))) rfl rfl (fun hc2 => ?_) (fun hc2 => ?_)
  ·skip
   have hdu := pa_dup (secs := c) (pts := d) (seen_dup (path := a) (k := k) om (of_decide_eq_true hc2))
   refine seqR ?_
   refine mG vN ?_
   refine mG (.b false) ?_
   refine op0 ?_
   refine awp_imp _ (imp_frozen rfl (fun _ h => h) (lee_lend 5 (.b false) (lend_n (av := .b false)) (lee_lend 4 (.ro 0 []) .nil lee_lend0))) ?_
   refine awp_ret ?_
   exact fret (av := .tup Z4m) rfl rfl (by rw [hdu.1, hdu.2]; rfl)
  have hnm : ¬ a.getD k 0 ∈ a.take k := of_decide_eq_false hc2
  refine awp_skip ?_
  refine regR ?_
  refine oG (qB (.int .i64 ((k + 1 : Nat) : Int)) (addN om) ?_)
  refine mG (.i ((k + 1 : Nat) : Int)) ?_
  refine op0 ?_
  show _ ∧ _
  refine ⟨by omega, (seen_step om hinv hnm), ?_⟩
  exact iN
 have hf4 := of_decide_eq_false hc1
 have hnd : a.Nodup := by rw [List.take_of_length_le om] at hinv; exact hinv
 refine awp_exit ?_
 refine awp_seq ?_
 refine seqR ?_
 refine mG (.i 0) ?_
 refine op0 ?_
 refine awp_block ?_
 refine awp_countI (fun j => ⟨(upd (Z4i c d a) 27 (.i (j : Int))), noOb⟩) (fun j => ∀ j_, j_ < j → wyB c d (a.getD 0 0) (j_ : Int) (a.drop 1) = false) (2) ?_ (fun _ h => by omega) (fun j hk_j hinv => ?_)
 ·skip
  exact iN
 refine seqR ?_
 refine bG ((.bool (decide ((j : Int) < 2)))) ?_
 refine op0 ?_
 refine awp_seq ?_
 refine awp_cond (decide ((j : Int) < 2)) rfl rfl (fun hc3 => ?_) (fun hc3 => ?_)
 ·skip
  have hf5 := of_decide_eq_true hc3
  refine awp_skip ?_
  refine awp_seq ?_
  refine awp_block ?_
  refine seqR ?_
  refine mG (.i (j : Int)) ?_
  refine mG (.i (j : Int)) ?_
  refine op0 ?_
  refine awp_seq ?_
  refine aD 13 [(9, .q eN (wyL c d (a.getD 0 0) (j : Int) (a.drop 1))), (41, .b (wyB c d (a.getD 0 0) (j : Int) (a.drop 1))), (40, .q eN (wyL c d (a.getD 0 0) (j : Int) (a.drop 1))), (30, .tup [.q eN (wyL c d (a.getD 0 0) (j : Int) (a.drop 1)), .b (wyB c d (a.getD 0 0) (j : Int) (a.drop 1))]), (39, .tup [.q eN (wyL c d (a.getD 0 0) (j : Int) (a.drop 1)), .b (wyB c d (a.getD 0 0) (j : Int) (a.drop 1))]), (38, .q eI (a.drop 1)), (37, .q eI a), (36, .agg [.i (a.getD 0 0), .i (j : Int)]), (35, .i (j : Int)), (34, .i (a.getD 0 0)), (33, .rp (([.i (a.getD 0 0)] : List AV) ++ ((enc eI a).drop ((0 + 1) * 1)))), (32, .q eI a), (31, .rp (Z4k c d))] mixed ?_ ?_
  ·iterate 13 (refine ⟨?_, ?_⟩; rotate_left)
   trivial
   ·exact sMv
   ·exact sMv
   ·exact dW 33 fun st hob hE => aop_ixE (k := 0) 0 rfl rfl rfl ut48 sz3 (hE 32 rfl) rfl (fun _ => rfl) rfl oo (by rw [hob]; rfl)
   ·exact (sLd ag3)
   ·exact sMv
   ·exact dW 36 fun st hob hE => aop_build rfl rfl rfl pl114 (by simp only [partsA, List.map, evA, hE 34 rfl, hE 35 rfl]; rfl) (by rw [hob]; rfl)
   ·exact sMv
   ·exact dW 38 fun st hob hE => aop_sliceRoN (l := 1) (hgh := a.length) (cells' := enc eI (a.drop 1)) ((a.drop 1)).length rfl rfl rfl ut48 sz3 (hE 37 rfl) ⟨_, rfl⟩ rfl oo oo (sliceE1 (f := eI) (fun _ => rfl) _ _ _ rfl) oz (by rw [hob]; rfl)
   ·exact dW 39 fun st hob hE => call_ (g_way c d (a.getD 0 0) (j : Int) (a.drop 1) oo oo oo) rfl rfl rfl rfl rfl bd73 (by show [st.env 31, st.env 36, st.env 38] ++ _ = _; rw [hE 31 rfl, hE 36 rfl, hE 38 rfl]; rfl) (by rw [hob]; rfl)
   ·exact sMv
   ·exact dW 40 fun st hob hE => aop_extract rfl rfl rfl (hE 30 rfl) rfl (by rw [hob]; rfl)
   ·exact dW 41 fun st hob hE => aop_extract rfl rfl rfl (hE 30 rfl) rfl (by rw [hob]; rfl)
   exact sMv
  refine mG (.b (wyB c d (a.getD 0 0) (j : Int) (a.drop 1))) ?_
  refine op0 ?_
  refine rT (upd (upd (upd (upd (Z4i c d a) 8 (.i (j : Int))) 9 (Z4j c d a j)) 10 (.b (wyB c d (a.getD 0 0) (j : Int) (a.drop 1)))) 27 (.i (j : Int))) noOb ?_
  refine seqR ?_
  refine mG (.b (wyB c d (a.getD 0 0) (j : Int) (a.drop 1))) ?_
  refine op0 ?_
  refine awp_cond (wyB c d (a.getD 0 0) (j : Int) (a.drop 1)) rfl rfl (fun hc4 => ?_) (fun hc4 => ?_)
  ·skip
   have hpa := pa_at hp2 hnd om hinv hc4
   refine seqR ?_
   refine mG (Z4j c d a j) ?_
   refine mG (Z4j c d a j) ?_
   refine mG (.b true) ?_
   refine rU (upd (upd (upd (upd (upd (upd (upd (upd none_ 0 (.rp (Z4k c d))) 1 (.q eI a)) 4 (Z4j c d a j)) 5 (.b true)) 8 (.i (j : Int))) 9 (Z4j c d a j)) 10 (.b (wyB c d (a.getD 0 0) (j : Int) (a.drop 1)))) 27 (.i (j : Int))) noOb ?_
   refine awp_ret ?_
   exact fret (av := .tup [.ro ((wyL c d (a.getD 0 0) (j : Int) (a.drop 1)).length) (enc eN (wyL c d (a.getD 0 0) (j : Int) (a.drop 1))), .v (.bool true)]) rfl rfl (by rw [hpa.1, hpa.2])
  refine awp_skip ?_
  refine regR ?_
  refine oG (qB (.int .i64 ((j + 1 : Nat) : Int)) (addN om) ?_)
  refine mG (.i ((j + 1 : Nat) : Int)) ?_
  refine op0 ?_
  show _ ∧ _
  refine ⟨by omega, (fun j_ h => by rcases Nat.lt_or_ge j_ j with h2 | h2; exact hinv j_ h2; rw [show j_ = j by omega]; exact hc4), ?_⟩
  exact iN
 have hf6 := of_decide_eq_false hc3
 have hpe := pa_end (secs := c) (pts := d) hp2 hnd om hinv
 refine awp_exit ?_
 refine seqR ?_
 refine mG vN ?_
 refine mG (.b false) ?_
 refine op0 ?_
 refine awp_imp _ (imp_frozen rfl (fun _ h => h) (lee_lend 5 (.b false) (lend_n (av := .b false)) (lee_lend 4 (.ro 0 []) .nil lee_lend0))) ?_
 refine awp_ret ?_
 exact fret (av := .tup Z4m) rfl rfl (by rw [hpe.1, hpe.2]; rfl)
abbrev Z55 (c : List Sec) (a : List Pnt) (d : List Int) (s e : Int) (k : Nat) : AV := (.tup [.i (nodeA c ((wyK c a d ⟨s, e, []⟩ k).s) ((wyK c a d ⟨s, e, []⟩ k).e)), .b (!noNode c ((wyK c a d ⟨s, e, []⟩ k).s) ((wyK c a d ⟨s, e, []⟩ k).e))])
abbrev Z53 (c : List Sec) (a : List Pnt) (d : List Int) (s e : Int) (k : Nat) : List AV := [.i ((wyK c a d ⟨s, e, []⟩ k).s), .i ((wyK c a d ⟨s, e, []⟩ k).e)]
abbrev Z50 (a : List Pnt) (c : List Sec) (d : List Int) (s e : Int) (k : Nat) : AV := (.rp (([.i ((a.getD (pointI a (nodeA c ((wyK c a d ⟨s, e, []⟩ k).s) ((wyK c a d ⟨s, e, []⟩ k).e))).toNat dP).right)] : List AV) ++ ((enc ePnt a).drop (((pointI a (nodeA c ((wyK c a d ⟨s, e, []⟩ k).s) ((wyK c a d ⟨s, e, []⟩ k).e))).toNat + 1) * 4))))
abbrev Z4y (c : List Sec) (a : List Pnt) (d : List Int) (s e : Int) (k : Nat) : AV := (.q eEn (aroundL c a ((wyK c a d ⟨s, e, []⟩ k).s) ((wyK c a d ⟨s, e, []⟩ k).e)))
abbrev Z4x (d : List Int) : Nat → AV := (upd (upd (upd (upd (upd none_ 2 (.q eI d)) 3 (.pt 2 0)) 4 (.pt 3 0)) 6 vN) 7 (.b false))
abbrev Z4w (c : List Sec) (a : List Pnt) : List AV := [.one, .q eSec c, .one, .q ePnt a, .one, .one, .one, .one, .one, .one]
abbrev Z4v (a : List Pnt) (c : List Sec) (d : List Int) (s e : Int) (k : Nat) : AV := (.rp (([.i ((a.getD (pointI a (nodeA c ((wyK c a d ⟨s, e, []⟩ k).s) ((wyK c a d ⟨s, e, []⟩ k).e))).toNat dP).stem), .i ((a.getD (pointI a (nodeA c ((wyK c a d ⟨s, e, []⟩ k).s) ((wyK c a d ⟨s, e, []⟩ k).e))).toNat dP).left), .i ((a.getD (pointI a (nodeA c ((wyK c a d ⟨s, e, []⟩ k).s) ((wyK c a d ⟨s, e, []⟩ k).e))).toNat dP).right)] : List AV) ++ ((enc ePnt a).drop (((pointI a (nodeA c ((wyK c a d ⟨s, e, []⟩ k).s) ((wyK c a d ⟨s, e, []⟩ k).e))).toNat + 1) * 4))))
abbrev Z4u (c : List Sec) (a : List Pnt) (d : List Int) (s e : Int) (k j : Nat) : List AV := [.i (((aroundL c a ((wyK c a d ⟨s, e, []⟩ k).s) ((wyK c a d ⟨s, e, []⟩ k).e)).getD j dE).en)]
abbrev Z4t (d : List Int) (k : Nat) (c : List Sec) (a : List Pnt) (s e : Int) (j : Nat) : List AV := [.i (d.getD k 0), .i (1 - (((aroundL c a ((wyK c a d ⟨s, e, []⟩ k).s) ((wyK c a d ⟨s, e, []⟩ k).e)).getD j dE).en))]
abbrev Z4s (c : List Sec) (a : List Pnt) (d : List Int) (s e : Int) (k : Nat) : List AV := (enc eEn (aroundL c a ((wyK c a d ⟨s, e, []⟩ k).s) ((wyK c a d ⟨s, e, []⟩ k).e)))
abbrev Z4q (a : List Pnt) (c : List Sec) (d : List Int) (s e : Int) (k : Nat) : AV := (.rp (([.i ((a.getD (pointI a (nodeA c ((wyK c a d ⟨s, e, []⟩ k).s) ((wyK c a d ⟨s, e, []⟩ k).e))).toNat dP).node), .i ((a.getD (pointI a (nodeA c ((wyK c a d ⟨s, e, []⟩ k).s) ((wyK c a d ⟨s, e, []⟩ k).e))).toNat dP).stem), .i ((a.getD (pointI a (nodeA c ((wyK c a d ⟨s, e, []⟩ k).s) ((wyK c a d ⟨s, e, []⟩ k).e))).toNat dP).left), .i ((a.getD (pointI a (nodeA c ((wyK c a d ⟨s, e, []⟩ k).s) ((wyK c a d ⟨s, e, []⟩ k).e))).toNat dP).right)] : List AV) ++ ((enc ePnt a).drop (((pointI a (nodeA c ((wyK c a d ⟨s, e, []⟩ k).s) ((wyK c a d ⟨s, e, []⟩ k).e))).toNat + 1) * 4))))
abbrev Z4p (c : List Sec) (a : List Pnt) (d : List Int) (s e : Int) (k j : Nat) : List AV := [.i (((aroundL c a ((wyK c a d ⟨s, e, []⟩ k).s) ((wyK c a d ⟨s, e, []⟩ k).e)).getD j dE).sec), .i (((aroundL c a ((wyK c a d ⟨s, e, []⟩ k).s) ((wyK c a d ⟨s, e, []⟩ k).e)).getD j dE).en)]
abbrev Z4n (c : List Sec) (a : List Pnt) (d : List Int) (s e : Int) (k : Nat) : Nat → OSt := (updO (updO (updO noOb 1 (.live ⟨(enc eN ((wyK c a d ⟨s, e, []⟩ k).ns)), 110, 2⟩)) 2 (.live ⟨(Z4w c a), 39, 1⟩)) 3 (.live ⟨(Z53 c a d s e k), 114, 1⟩))
abbrev Z56 (d : List Int) (c : List Sec) (a : List Pnt) (s e : Int) (k : Nat) : Nat → AV := (upd (upd (Z4x d) 8 (.sl 1 0 ((wyK c a d ⟨s, e, []⟩ k).ns.length))) 9 (.i (k : Int)))
abbrev Z52 (c : List Sec) (a : List Pnt) (d : List Int) (s e : Int) (k j : Nat) : AV := (.rp (((Z4u c a d s e k j) : List AV) ++ ((Z4s c a d s e k).drop ((j + 1) * 2))))
abbrev Z4z (c : List Sec) (a : List Pnt) (d : List Int) (s e : Int) (k j : Nat) : AV := (.rp (((Z4p c a d s e k j) : List AV) ++ ((Z4s c a d s e k).drop ((j + 1) * 2))))
abbrev Z4o (d : List Int) (c : List Sec) (a : List Pnt) (s e : Int) (k : Nat) : Nat → AV := (upd (Z56 d c a s e k) 10 (Z4y c a d s e k))
abbrev Z57 (d : List Int) (c : List Sec) (a : List Pnt) (s e : Int) (k j : Nat) : Nat → AV := (upd (upd (Z4o d c a s e k) 11 (.i (j : Int))) 46 (.b ((j : Int) == ((aroundL c a ((wyK c a d ⟨s, e, []⟩ k).s) ((wyK c a d ⟨s, e, []⟩ k).e)).length : Int))))
abbrev Z51 (d : List Int) (c : List Sec) (a : List Pnt) (s e : Int) (k j : Nat) : Nat → AV := (upd (upd (Z4o d c a s e k) 11 (.i (j : Int))) 12 (.i (nodeA c ((wyK c a d ⟨s, e, []⟩ k).s) ((wyK c a d ⟨s, e, []⟩ k).e))))
abbrev Z4r (d : List Int) (c : List Sec) (a : List Pnt) (s e : Int) (k j : Nat) : Nat → AV := (upd (Z51 d c a s e k j) 14 (.i (pointI a (nodeA c ((wyK c a d ⟨s, e, []⟩ k).s) ((wyK c a d ⟨s, e, []⟩ k).e)))))
abbrev Z54 (d : List Int) (c : List Sec) (a : List Pnt) (s e : Int) (k j : Nat) : Nat → AV := (upd (upd (Z4r d c a s e k j) 15 (.i (d.getD k 0))) 69 (.b ((d.getD k 0) == ((a.getD (pointI a (nodeA c ((wyK c a d ⟨s, e, []⟩ k).s) ((wyK c a d ⟨s, e, []⟩ k).e))).toNat dP).stem))))
theorem r05_way (c : List Sec) (a : List Pnt) (s e : Int) (d : List Int) (hs : c.length ≤ 65536) (hp : a.length ≤ 65536) (hpl : d.length ≤ 65536) : Fn Try.prog 60 [.agg [.one, .ro c.length (enc eSec c), .one, .ro a.length (enc ePnt a), .one, .one, .one, .one, .one, .one], .agg [.v (.int .i64 s), .v (.int .i64 e)], .ro d.length (enc eI d)] (.tup [.ro ((wyL c a s e d).length) (enc eN (wyL c a s e d)), .v (.bool (wyB c a s e d))]) := by
 refine fnE_of_body (N := 97) Try.func60 rfl rfl (resOf2 rfl) (by simp) (fun w0 X hL_ => ?_)
 refine seqR ?_
 refine oG (qW 51 ?_)
 refine oG (qW 52 ?_)
 refine mG vN ?_
 refine mG (.b false) ?_
 refine rU (upd (upd (upd (upd (upd none_ 2 (.q eI d)) 3 (.pt 51 0)) 4 (.pt 52 0)) 6 vN) 7 (.b false)) (updO (updO noOb 51 (.live ⟨(Z4w c a), 39, 1⟩)) 52 (.live ⟨[.i s, .i e], 114, 1⟩)) ?_
 refine seqR ?_
 refine mG vN ?_
 refine op0 ?_
 refine awp_seq ?_
 refine seqR ?_
 refine mG (.i 0) ?_
 refine op0 ?_
 refine awp_block ?_
 refine awp_countI (fun k => ⟨(Z56 d c a s e k), (Z4n c a d s e k)⟩) (fun k => wyF c a (d.drop k) (wyK c a d ⟨s, e, []⟩ k) = wyO c a s e d) (d.length) ?_ rfl (fun k hk_k hinv => ?_)
 ·skip
  refine (imp_adopt 8 53 110 2 rfl rfl).trans ?_
  exact iL [(53, 1), (51, 2), (52, 3)] [((53, 1), .live _), ((51, 2), .live _), ((52, 3), .live _)] ⟨row_no (o := ⟨[], 110, 2⟩) rfl rfl, row_no rfl rfl, row_no rfl rfl, trivial⟩
 have hwl := wyK_len (secs := c) (pts := a) (path := d) ⟨s, e, []⟩ rfl k
 have hal := aroundL_len c a (wyK c a d ⟨s, e, []⟩ k).s (wyK c a d ⟨s, e, []⟩ k).e
 have hW := hinv
 refine awp_seq ?_
 refine seqR ?_
 refine mG (.i (k : Int)) ?_
 refine mG (.q eI d) ?_
 refine oG (qN ut48 ?_)
 refine bG ((.bool (decide ((k : Int) < (d.length : Int))))) ?_
 refine rU (upd (Z56 d c a s e k) 19 (.b (decide ((k : Int) < (d.length : Int))))) (Z4n c a d s e k) ?_
 refine awp_cond (decide ((k : Int) < (d.length : Int))) rfl rfl (fun hc0 => ?_) (fun hc0 => ?_)
 ·skip
  have hf1 := of_decide_eq_true hc0
  refine awp_skip ?_
  refine awp_seq ?_
  refine awp_block ?_
  refine seqR ?_
  refine oG (qLB (Z4w c a) ag39 sz39 ?_)
  refine oG (qLB (Z53 c a d s e k) ag114 sz114 ?_)
  refine oG (qJ (r05_Around c a ((wyK c a d ⟨s, e, []⟩ k).s) ((wyK c a d ⟨s, e, []⟩ k).e) oo oo) bd51 ?_)
  refine mG (Z4y c a d s e k) ?_
  refine rU (Z4o d c a s e k) (Z4n c a d s e k) ?_
  refine seqR ?_
  refine mG (.i 0) ?_
  refine op0 ?_
  refine awp_seq ?_
  refine awp_block ?_
  refine awp_countI (fun j => ⟨(upd (Z4o d c a s e k) 11 (.i (j : Int))), (Z4n c a d s e k)⟩) (fun j => ((aroundL c a (wyK c a d ⟨s, e, []⟩ k).s (wyK c a d ⟨s, e, []⟩ k).e).take j).any (fun x : En => decide (x.sec = (d.getD k 0))) = false) ((aroundL c a (wyK c a d ⟨s, e, []⟩ k).s (wyK c a d ⟨s, e, []⟩ k).e).length) ?_ (by simp) (fun j hk_j hinv => ?_)
  ·skip
   exact iL [(1, 1), (2, 2), (3, 3)] [((1, 1), .live _), ((2, 2), .live _), ((3, 3), .live _)] ⟨row_no rfl rfl, row_no rfl rfl, row_no rfl rfl, trivial⟩
  refine awp_seq ?_
  refine awp_seq ?_
  refine (Bool.eq_false_or_eq_true (decide ((j : Int) < ((aroundL c a ((wyK c a d ⟨s, e, []⟩ k).s) ((wyK c a d ⟨s, e, []⟩ k).e)).length : Int)))).elim (fun hg2 => ?_) (fun hg2 => ?_)
  ·skip
   have hf3 := of_decide_eq_true hg2
   refine aD 16 [(40, .b ((((aroundL c a ((wyK c a d ⟨s, e, []⟩ k).s) ((wyK c a d ⟨s, e, []⟩ k).e)).getD j dE).sec) != (d.getD k 0))), (39, .b ((((aroundL c a ((wyK c a d ⟨s, e, []⟩ k).s) ((wyK c a d ⟨s, e, []⟩ k).e)).getD j dE).sec) != (d.getD k 0))), (38, .i (d.getD k 0)), (37, .rp (([.i (d.getD k 0)] : List AV) ++ ((enc eI d).drop ((k + 1) * 1)))), (36, .i (k : Int)), (35, .q eI d), (34, .i (((aroundL c a ((wyK c a d ⟨s, e, []⟩ k).s) ((wyK c a d ⟨s, e, []⟩ k).e)).getD j dE).sec)), (33, .rp (((Z4p c a d s e k j) : List AV) ++ ((Z4s c a d s e k).drop ((j + 1) * 2)))), (32, .rp (((Z4p c a d s e k j) : List AV) ++ ((Z4s c a d s e k).drop ((j + 1) * 2)))), (31, .i (j : Int)), (30, .q eEn (aroundL c a ((wyK c a d ⟨s, e, []⟩ k).s) ((wyK c a d ⟨s, e, []⟩ k).e))), (29, .b (decide ((j : Int) < ((aroundL c a ((wyK c a d ⟨s, e, []⟩ k).s) ((wyK c a d ⟨s, e, []⟩ k).e)).length : Int)))), (28, .b (decide ((j : Int) < ((aroundL c a ((wyK c a d ⟨s, e, []⟩ k).s) ((wyK c a d ⟨s, e, []⟩ k).e)).length : Int)))), (27, .i ((aroundL c a ((wyK c a d ⟨s, e, []⟩ k).s) ((wyK c a d ⟨s, e, []⟩ k).e)).length : Int)), (26, .q eEn (aroundL c a ((wyK c a d ⟨s, e, []⟩ k).s) ((wyK c a d ⟨s, e, []⟩ k).e))), (25, .i (j : Int))] mixed ?_ ?_
   ·iterate 16 (refine ⟨?_, ?_⟩; rotate_left)
    trivial
    ·exact sMv
    ·exact sMv
    ·exact dW 27 fun st hob hE => aop_len rfl rfl rfl rfl ut115 (len_ro (hE 26 rfl)) (by rw [hob]; rfl)
    ·exact sB (.bool (decide ((j : Int) < ((aroundL c a ((wyK c a d ⟨s, e, []⟩ k).s) ((wyK c a d ⟨s, e, []⟩ k).e)).length : Int)))) rfl
    ·exact sMv
    ·exact gy1 hg2 sMv
    ·exact gy1 hg2 sMv
    ·exact gy1 hg2 (sIx dE ut115 sz114)
    ·exact gy1 hg2 (sF (Z4z c a d s e k j) (Z4z c a d s e k j) ft114_0 sz3)
    ·exact gy1 hg2 (sLd ag3)
    ·exact gy1 hg2 sMv
    ·exact gy1 hg2 sMv
    ·exact gy1 hg2 (sIx (0 : Int) ut48 sz3)
    ·exact gy1 hg2 (sLd ag3)
    ·exact gy1 hg2 (sB (.bool ((((aroundL c a ((wyK c a d ⟨s, e, []⟩ k).s) ((wyK c a d ⟨s, e, []⟩ k).e)).getD j dE).sec) != (d.getD k 0))) rfl)
    exact dW 40 fun st hob hE => aop_pick (b := (decide ((j : Int) < ((aroundL c a ((wyK c a d ⟨s, e, []⟩ k).s) ((wyK c a d ⟨s, e, []⟩ k).e)).length : Int)))) (av := .b ((((aroundL c a ((wyK c a d ⟨s, e, []⟩ k).s) ((wyK c a d ⟨s, e, []⟩ k).e)).getD j dE).sec) != (d.getD k 0))) rfl rfl rfl (hE 29 rfl) (by rw [hg2]; exact hE 39 rfl) (by rw [hob]; rfl)
   refine op0 ?_
   refine awp_cond ((((aroundL c a ((wyK c a d ⟨s, e, []⟩ k).s) ((wyK c a d ⟨s, e, []⟩ k).e)).getD j dE).sec) != (d.getD k 0)) rfl rfl (fun hc1 => ?_) (fun hc1 => ?_)
   ·skip
    have hf4 := (bne_iff_ne).1 hc1
    refine awp_skip ?_
    refine awp_block ?_
    refine regR ?_
    refine mG (.i (j : Int)) ?_
    refine oG (qB (.int .i64 ((j + 1 : Nat) : Int)) (addN om) ?_)
    refine mG (.i ((j + 1 : Nat) : Int)) ?_
    refine op0 ?_
    show _ ∧ _
    refine ⟨by omega, (any_step dE om hinv (by simpa using hc1)), ?_⟩
    exact iL [(1, 1), (2, 2), (3, 3)] [((1, 1), .live _), ((2, 2), .live _), ((3, 3), .live _)] ⟨row_no rfl rfl, row_no rfl rfl, row_no rfl rfl, trivial⟩
   have hf5 := (bne_eq_false_iff_eq).1 hc1
   refine awp_exit ?_
   refine awp_seq ?_
   refine seqR ?_
   refine mG (.i (j : Int)) ?_
   refine mG (Z4y c a d s e k) ?_
   refine oG (qN ut115 ?_)
   refine bG ((.bool ((j : Int) == ((aroundL c a ((wyK c a d ⟨s, e, []⟩ k).s) ((wyK c a d ⟨s, e, []⟩ k).e)).length : Int)))) ?_
   refine rU (Z57 d c a s e k j) (Z4n c a d s e k) ?_
   refine awp_cond ((j : Int) == ((aroundL c a ((wyK c a d ⟨s, e, []⟩ k).s) ((wyK c a d ⟨s, e, []⟩ k).e)).length : Int)) rfl rfl (fun hc2 => ?_) (fun hc2 => ?_)
   ·skip
    have hf6 := (beq_iff_eq).1 hc2
    have hlt : (wyI c a (wyK c a d ⟨s, e, []⟩ k).s (wyK c a d ⟨s, e, []⟩ k).e (d.getD k 0)) < 0 := by have h_ := idxB_end (f := fun x : En => decide (x.sec = (d.getD k 0))) (show (aroundL c a (wyK c a d ⟨s, e, []⟩ k).s (wyK c a d ⟨s, e, []⟩ k).e).length ≤ j by omega) hinv; unfold wyI; omega
    have hO := wy_stop om hW hlt
    refine seqR ?_
    refine mG vN ?_
    refine mG (.b false) ?_
    refine op0 ?_
    refine awp_imp _ (imp_frozen rfl (fun _ h => h) (lee_lend 7 (.b false) (lend_n (av := .b false)) (lee_lend 6 (.ro 0 []) .nil lee_lend0))) ?_
    refine awp_ret ?_
    exact fret (av := .tup [.ro 0 [], .v (.bool false)]) rfl rfl (by rw [(wyL_none hO).1, (wyL_none hO).2]; rfl)
   have hf7 := (beq_eq_false_iff_ne).1 hc2
   have hix : (wyI c a (wyK c a d ⟨s, e, []⟩ k).s (wyK c a d ⟨s, e, []⟩ k).e (d.getD k 0)) = (j : Int) := by first | (unfold wyI; exact idxB_stop dE om hinv (by simpa using hc1)) | (exfalso; omega)
   have hns : ¬ (wyI c a (wyK c a d ⟨s, e, []⟩ k).s (wyK c a d ⟨s, e, []⟩ k).e (d.getD k 0)) < 0 := by omega
   have hxo := wyX_ok (secs := c) (pts := a) (p := (d.getD k 0)) (w := (wyK c a d ⟨s, e, []⟩ k)) hns
   have hjx : (wyI c a (wyK c a d ⟨s, e, []⟩ k).s (wyK c a d ⟨s, e, []⟩ k).e (d.getD k 0)).toNat = j := by rw [hix]; rfl
   have hxx : wyX c a (d.getD k 0) (wyK c a d ⟨s, e, []⟩ k) = (aroundL c a (wyK c a d ⟨s, e, []⟩ k).s (wyK c a d ⟨s, e, []⟩ k).e).getD j dE := by unfold wyX; rw [hjx]
   have hsec := hxo.2.1
   have hx1 : ((aroundL c a (wyK c a d ⟨s, e, []⟩ k).s (wyK c a d ⟨s, e, []⟩ k).e).getD j dE).en = 0 ∨ ((aroundL c a (wyK c a d ⟨s, e, []⟩ k).s (wyK c a d ⟨s, e, []⟩ k).e).getD j dE).en = 1 := by rw [← hxx]; exact hxo.1
   have hx3 : j < (aroundL c a (wyK c a d ⟨s, e, []⟩ k).s (wyK c a d ⟨s, e, []⟩ k).e).length := by have := hxo.2.2; omega
   have hr_ := pointI_range a (nodeA c (wyK c a d ⟨s, e, []⟩ k).s (wyK c a d ⟨s, e, []⟩ k).e)
   refine awp_skip ?_
   refine seqR ?_
   refine oG (qLB (Z4w c a) ag39 sz39 ?_)
   refine oG (qLB (Z53 c a d s e k) ag114 sz114 ?_)
   refine oG (qC (r05_node c ((wyK c a d ⟨s, e, []⟩ k).s) ((wyK c a d ⟨s, e, []⟩ k).e) oo) bd61 ?_)
   refine mG (Z55 c a d s e k) ?_
   refine oG (qE ?_)
   refine oG (qE ?_)
   refine mG (.i (nodeA c ((wyK c a d ⟨s, e, []⟩ k).s) ((wyK c a d ⟨s, e, []⟩ k).e))) ?_
   refine mG (.b (!noNode c ((wyK c a d ⟨s, e, []⟩ k).s) ((wyK c a d ⟨s, e, []⟩ k).e))) ?_
   refine rU (Z51 d c a s e k j) (Z4n c a d s e k) ?_
   refine seqR ?_
   refine oG (qLB (Z4w c a) ag39 sz39 ?_)
   refine mG (.i (nodeA c ((wyK c a d ⟨s, e, []⟩ k).s) ((wyK c a d ⟨s, e, []⟩ k).e))) ?_
   refine oG (qC (r05_Point a (nodeA c ((wyK c a d ⟨s, e, []⟩ k).s) ((wyK c a d ⟨s, e, []⟩ k).e)) oo) bd62 ?_)
   refine mG (.i (pointI a (nodeA c ((wyK c a d ⟨s, e, []⟩ k).s) ((wyK c a d ⟨s, e, []⟩ k).e)))) ?_
   refine rU (Z4r d c a s e k j) (Z4n c a d s e k) ?_
   refine awp_seq ?_
   refine seqR ?_
   refine mG (.i (pointI a (nodeA c ((wyK c a d ⟨s, e, []⟩ k).s) ((wyK c a d ⟨s, e, []⟩ k).e)))) ?_
   refine bG ((.bool (decide ((pointI a (nodeA c ((wyK c a d ⟨s, e, []⟩ k).s) ((wyK c a d ⟨s, e, []⟩ k).e))) ≥ 0)))) ?_
   refine op0 ?_
   refine awp_cond (decide ((pointI a (nodeA c ((wyK c a d ⟨s, e, []⟩ k).s) ((wyK c a d ⟨s, e, []⟩ k).e))) ≥ 0)) rfl rfl (fun hc3 => ?_) (fun hc3 => ?_)
   ·skip
    have hf8 := of_decide_eq_true hc3
    have hpi : ¬ (pointI a (nodeA c (wyK c a d ⟨s, e, []⟩ k).s (wyK c a d ⟨s, e, []⟩ k).e)) < 0 := by omega
    refine seqR ?_
    refine mG (.q eI d) ?_
    refine mG (.i (k : Int)) ?_
    refine oG (qX (0 : Int) ut48 sz3 ?_)
    refine oG (qL (.i (d.getD k 0)) ag3 ?_)
    refine mG (.i (d.getD k 0)) ?_
    refine rU (upd (Z4r d c a s e k j) 15 (.i (d.getD k 0))) (Z4n c a d s e k) ?_
    refine awp_seq ?_
    refine seqR ?_
    refine mG (.i (d.getD k 0)) ?_
    refine fG (.pt 2 3) ft39_3 sz37 ?_
    refine oG (qL (.q ePnt a) ag37 ?_)
    refine mG (.i (pointI a (nodeA c ((wyK c a d ⟨s, e, []⟩ k).s) ((wyK c a d ⟨s, e, []⟩ k).e)))) ?_
    refine oG (aop_ixI dP rfl rfl rfl ut37 sz100 rfl rfl (fun _ => rfl) rfl om oo ?_)
    refine oG (qF (Z4q a c d s e k) (Z4v a c d s e k) ft100_1 sz3 ?_)
    refine oG (qL (.i ((a.getD (pointI a (nodeA c ((wyK c a d ⟨s, e, []⟩ k).s) ((wyK c a d ⟨s, e, []⟩ k).e))).toNat dP).stem)) ag3 ?_)
    refine bG ((.bool ((d.getD k 0) == ((a.getD (pointI a (nodeA c ((wyK c a d ⟨s, e, []⟩ k).s) ((wyK c a d ⟨s, e, []⟩ k).e))).toNat dP).stem)))) ?_
    refine rU (Z54 d c a s e k j) (Z4n c a d s e k) ?_
    refine cutG ⟨(upd (Z4r d c a s e k j) 15 (.i (if (a.getD (pointI a (nodeA c (wyK c a d ⟨s, e, []⟩ k).s (wyK c a d ⟨s, e, []⟩ k).e)).toNat dP).stem = (d.getD k 0) then (wyK c a d ⟨s, e, []⟩ k).s else (d.getD k 0)))), (Z4n c a d s e k)⟩ (fun s h => h) ?_ ?_
    ·skip
     refine awp_cond ((d.getD k 0) == ((a.getD (pointI a (nodeA c ((wyK c a d ⟨s, e, []⟩ k).s) ((wyK c a d ⟨s, e, []⟩ k).e))).toNat dP).stem)) rfl rfl (fun hc4 => ?_) (fun hc4 => ?_)
     ·skip
      have hf9 := (beq_iff_eq).1 hc4
      refine regR ?_
      refine fG (.pt 3 0) ft114_0 sz3 ?_
      refine oG (qL (.i ((wyK c a d ⟨s, e, []⟩ k).s)) ag3 ?_)
      refine mG (.i ((wyK c a d ⟨s, e, []⟩ k).s)) ?_
      refine op0 ?_
      show Imp _ _ _
      exact iL [(1, 1), (2, 2), (3, 3)] [((1, 1), .live _), ((2, 2), .live _), ((3, 3), .live _)] ⟨row_no rfl rfl, row_no rfl rfl, row_no rfl rfl, trivial⟩ (he := (sS (by exact congrArg (fun n_ : Int => AV.v (.int .i64 n_)) (by first | exact (if_pos (Eq.symm (by simpa using hc4))).symm | exact (if_neg (fun h_ => absurd h_.symm (by simpa using hc4))).symm)) (sS rfl (sS rfl (sS rfl (sS rfl (sS rfl (sM rfl (sS rfl (sS rfl (sM rfl (sM rfl (sS rfl sr_none)))))))))))))
     have hf10 := (beq_eq_false_iff_ne).1 hc4
     refine awp_skip ?_
     show Imp _ _ _
     exact iL [(1, 1), (2, 2), (3, 3)] [((1, 1), .live _), ((2, 2), .live _), ((3, 3), .live _)] ⟨row_no rfl rfl, row_no rfl rfl, row_no rfl rfl, trivial⟩ (he := (sS (by exact congrArg (fun n_ : Int => AV.v (.int .i64 n_)) (by first | exact (if_pos (Eq.symm (by simpa using hc4))).symm | exact (if_neg (fun h_ => absurd h_.symm (by simpa using hc4))).symm)) (sS rfl (sS rfl (sS rfl (sS rfl (sS rfl (sM rfl (sS rfl (sS rfl (sM rfl (sM rfl (sS rfl sr_none)))))))))))))
    refine regR ?_
    refine mG (.sl 1 0 ((wyK c a d ⟨s, e, []⟩ k).ns.length)) ?_
    refine mG (.i (pointI a (nodeA c ((wyK c a d ⟨s, e, []⟩ k).s) ((wyK c a d ⟨s, e, []⟩ k).e)))) ?_
    refine fG (.pt 2 3) ft39_3 sz37 ?_
    refine oG (qL (.q ePnt a) ag37 ?_)
    refine mG (.i (pointI a (nodeA c ((wyK c a d ⟨s, e, []⟩ k).s) ((wyK c a d ⟨s, e, []⟩ k).e)))) ?_
    refine oG (aop_ixI dP rfl rfl rfl ut37 sz100 rfl rfl (fun _ => rfl) rfl om oo ?_)
    refine oG (qF (Z4q a c d s e k) (Z50 a c d s e k) ft100_3 sz3 ?_)
    refine oG (qL (.i ((a.getD (pointI a (nodeA c ((wyK c a d ⟨s, e, []⟩ k).s) ((wyK c a d ⟨s, e, []⟩ k).e))).toNat dP).right)) ag3 ?_)
    refine mG (.i (if (a.getD (pointI a (nodeA c (wyK c a d ⟨s, e, []⟩ k).s (wyK c a d ⟨s, e, []⟩ k).e)).toNat dP).stem = (d.getD k 0) then (wyK c a d ⟨s, e, []⟩ k).s else (d.getD k 0))) ?_
    refine bG ((.bool (((a.getD (pointI a (nodeA c ((wyK c a d ⟨s, e, []⟩ k).s) ((wyK c a d ⟨s, e, []⟩ k).e))).toNat dP).right) == (if (a.getD (pointI a (nodeA c (wyK c a d ⟨s, e, []⟩ k).s (wyK c a d ⟨s, e, []⟩ k).e)).toNat dP).stem = (d.getD k 0) then (wyK c a d ⟨s, e, []⟩ k).s else (d.getD k 0))))) ?_
    refine oG (qD pl110 ?_)
    refine oG (aop_lit rfl rfl rfl ut91 iz110 (by decide) (by decide) rfl rfl ?_)
    refine oG (aop_app1 (f := eN) (l := (wyK c a d ⟨s, e, []⟩ k).ns) 54 (⟨pointI a (nodeA c ((wyK c a d ⟨s, e, []⟩ k).s) ((wyK c a d ⟨s, e, []⟩ k).e)), (((a.getD (pointI a (nodeA c ((wyK c a d ⟨s, e, []⟩ k).s) ((wyK c a d ⟨s, e, []⟩ k).e))).toNat dP).right) == (if (a.getD (pointI a (nodeA c (wyK c a d ⟨s, e, []⟩ k).s (wyK c a d ⟨s, e, []⟩ k).e)).toNat dP).stem = (d.getD k 0) then (wyK c a d ⟨s, e, []⟩ k).s else (d.getD k 0)))⟩ : Need) rfl rfl rfl rfl ut91 in110 rfl (by decide) rfl rfl rfl rfl rfl rfl (fun _ => rfl) rfl rfl oo oo rfl ?_)
    refine mG (.sl 54 0 ((((wyK c a d ⟨s, e, []⟩ k).ns) ++ [(⟨pointI a (nodeA c ((wyK c a d ⟨s, e, []⟩ k).s) ((wyK c a d ⟨s, e, []⟩ k).e)), (((a.getD (pointI a (nodeA c ((wyK c a d ⟨s, e, []⟩ k).s) ((wyK c a d ⟨s, e, []⟩ k).e))).toNat dP).right) == (if (a.getD (pointI a (nodeA c (wyK c a d ⟨s, e, []⟩ k).s (wyK c a d ⟨s, e, []⟩ k).e)).toNat dP).stem = (d.getD k 0) then (wyK c a d ⟨s, e, []⟩ k).s else (d.getD k 0)))⟩ : Need)]).length)) ?_
    refine op0 ?_
    refine rT (upd (upd (upd (upd (upd (upd (upd (Z4x d) 8 (.sl 54 0 ((((wyK c a d ⟨s, e, []⟩ k).ns) ++ [(⟨pointI a (nodeA c ((wyK c a d ⟨s, e, []⟩ k).s) ((wyK c a d ⟨s, e, []⟩ k).e)), (((a.getD (pointI a (nodeA c ((wyK c a d ⟨s, e, []⟩ k).s) ((wyK c a d ⟨s, e, []⟩ k).e))).toNat dP).right) == (if (a.getD (pointI a (nodeA c (wyK c a d ⟨s, e, []⟩ k).s (wyK c a d ⟨s, e, []⟩ k).e)).toNat dP).stem = (d.getD k 0) then (wyK c a d ⟨s, e, []⟩ k).s else (d.getD k 0)))⟩ : Need)]).length))) 9 (.i (k : Int))) 10 (Z4y c a d s e k)) 11 (.i (j : Int))) 12 (.i (nodeA c ((wyK c a d ⟨s, e, []⟩ k).s) ((wyK c a d ⟨s, e, []⟩ k).e)))) 14 (.i (pointI a (nodeA c ((wyK c a d ⟨s, e, []⟩ k).s) ((wyK c a d ⟨s, e, []⟩ k).e))))) 15 (.i (if (a.getD (pointI a (nodeA c (wyK c a d ⟨s, e, []⟩ k).s (wyK c a d ⟨s, e, []⟩ k).e)).toNat dP).stem = (d.getD k 0) then (wyK c a d ⟨s, e, []⟩ k).s else (d.getD k 0)))) (updO (updO (Z4n c a d s e k) 1 .dead) 54 (.live ⟨(enc eN (((wyK c a d ⟨s, e, []⟩ k).ns) ++ [(⟨pointI a (nodeA c ((wyK c a d ⟨s, e, []⟩ k).s) ((wyK c a d ⟨s, e, []⟩ k).e)), (((a.getD (pointI a (nodeA c ((wyK c a d ⟨s, e, []⟩ k).s) ((wyK c a d ⟨s, e, []⟩ k).e))).toNat dP).right) == (if (a.getD (pointI a (nodeA c (wyK c a d ⟨s, e, []⟩ k).s (wyK c a d ⟨s, e, []⟩ k).e)).toNat dP).stem = (d.getD k 0) then (wyK c a d ⟨s, e, []⟩ k).s else (d.getD k 0)))⟩ : Need)])), 110, 2⟩)) ?_
    refine aD 11 [(95, .agg (Z4t d k c a s e j)), (94, .i (1 - (((aroundL c a ((wyK c a d ⟨s, e, []⟩ k).s) ((wyK c a d ⟨s, e, []⟩ k).e)).getD j dE).en))), (93, .i (((aroundL c a ((wyK c a d ⟨s, e, []⟩ k).s) ((wyK c a d ⟨s, e, []⟩ k).e)).getD j dE).en)), (92, .rp (((Z4u c a d s e k j) : List AV) ++ ((Z4s c a d s e k).drop ((j + 1) * 2)))), (91, .rp (((Z4p c a d s e k j) : List AV) ++ ((Z4s c a d s e k).drop ((j + 1) * 2)))), (90, .i (j : Int)), (89, .q eEn (aroundL c a ((wyK c a d ⟨s, e, []⟩ k).s) ((wyK c a d ⟨s, e, []⟩ k).e))), (88, .i (d.getD k 0)), (87, .rp (([.i (d.getD k 0)] : List AV) ++ ((enc eI d).drop ((k + 1) * 1)))), (86, .i (k : Int)), (85, .q eI d)] mixed ?_ ?_
    ·refine ⟨?_, ?_, ?_, ?_, ?_, ?_, ?_, ?_, ?_, ?_, ?_, trivial⟩
     ·exact sMv
     ·exact sMv
     ·exact (sIx (0 : Int) ut48 sz3)
     ·exact (sLd ag3)
     ·exact sMv
     ·exact sMv
     ·exact (sIx dE ut115 sz114)
     ·exact sF (Z4z c a d s e k j) (Z52 c a d s e k j) ft114_1 sz3
     ·exact (sLd ag3)
     ·exact sB (.int .i64 (1 - (((aroundL c a ((wyK c a d ⟨s, e, []⟩ k).s) ((wyK c a d ⟨s, e, []⟩ k).e)).getD j dE).en))) (subI om)
     exact dW 95 fun st hob hE => aop_build rfl rfl rfl pl114 (by simp only [partsA, List.map, evA, hE 88 rfl, hE 94 rfl]; rfl) (by rw [hob]; rfl)
    refine oG (qS sz114 ?_)
    refine op0 ?_
    refine regR ?_
    refine mG (.i (k : Int)) ?_
    refine oG (qB (.int .i64 ((k + 1 : Nat) : Int)) (addN om) ?_)
    refine mG (.i ((k + 1 : Nat) : Int)) ?_
    refine op0 ?_
    show _ ∧ _
    have hrow : (wyK c a d ⟨s, e, []⟩ (k + 1)).ns = (wyK c a d ⟨s, e, []⟩ k).ns ++ [(⟨(pointI a (nodeA c (wyK c a d ⟨s, e, []⟩ k).s (wyK c a d ⟨s, e, []⟩ k).e)), ((a.getD (pointI a (nodeA c (wyK c a d ⟨s, e, []⟩ k).s (wyK c a d ⟨s, e, []⟩ k).e)).toNat dP).right == (if (a.getD (pointI a (nodeA c (wyK c a d ⟨s, e, []⟩ k).s (wyK c a d ⟨s, e, []⟩ k).e)).toNat dP).stem = (d.getD k 0) then (wyK c a d ⟨s, e, []⟩ k).s else (d.getD k 0)))⟩ : Need)] := by show (wyK c a d ⟨s, e, []⟩ k).ns ++ needL c a (wyK c a d ⟨s, e, []⟩ k).s (wyK c a d ⟨s, e, []⟩ k).e (wyX c a (d.getD k 0) (wyK c a d ⟨s, e, []⟩ k)).sec = _; rw [hsec, need_yes hpi rfl rfl]; rfl
    refine ⟨by omega, (wy_step om hW hns), ?_⟩
    exact iL [(54, 1), (2, 2), (3, 3)] [((54, 1), .live _), ((2, 2), .live _), ((3, 3), .live _)] ⟨row_no rfl (by exact congrArg (fun l_ => LObj.mk (enc eN l_) 110 2) hrow), row_no rfl rfl, row_no (o := ⟨(Z4t d k c a s e j), 114, 1⟩) rfl (congrArg (fun x_ : En => LObj.mk [.i (d.getD k 0), .i (1 - x_.en)] 114 1) hxx), trivial⟩ (he := (sS rfl (sM (by exact congrArg (AV.sl 1 0) (congrArg List.length hrow.symm)) (sS rfl (sS rfl (sM rfl (sM rfl (sS rfl sr_none))))))))
   have hf11 := of_decide_eq_false hc3
   have hpi : (pointI a (nodeA c (wyK c a d ⟨s, e, []⟩ k).s (wyK c a d ⟨s, e, []⟩ k).e)) < 0 := by omega
   refine awp_skip ?_
   refine aD 11 [(95, .agg (Z4t d k c a s e j)), (94, .i (1 - (((aroundL c a ((wyK c a d ⟨s, e, []⟩ k).s) ((wyK c a d ⟨s, e, []⟩ k).e)).getD j dE).en))), (93, .i (((aroundL c a ((wyK c a d ⟨s, e, []⟩ k).s) ((wyK c a d ⟨s, e, []⟩ k).e)).getD j dE).en)), (92, .rp (((Z4u c a d s e k j) : List AV) ++ ((Z4s c a d s e k).drop ((j + 1) * 2)))), (91, .rp (((Z4p c a d s e k j) : List AV) ++ ((Z4s c a d s e k).drop ((j + 1) * 2)))), (90, .i (j : Int)), (89, .q eEn (aroundL c a ((wyK c a d ⟨s, e, []⟩ k).s) ((wyK c a d ⟨s, e, []⟩ k).e))), (88, .i (d.getD k 0)), (87, .rp (([.i (d.getD k 0)] : List AV) ++ ((enc eI d).drop ((k + 1) * 1)))), (86, .i (k : Int)), (85, .q eI d)] mixed ?_ ?_
   ·refine ⟨?_, ?_, ?_, ?_, ?_, ?_, ?_, ?_, ?_, ?_, ?_, trivial⟩
    ·exact sMv
    ·exact sMv
    ·exact (sIx (0 : Int) ut48 sz3)
    ·exact (sLd ag3)
    ·exact sMv
    ·exact sMv
    ·exact (sIx dE ut115 sz114)
    ·exact sF (Z4z c a d s e k j) (Z52 c a d s e k j) ft114_1 sz3
    ·exact (sLd ag3)
    ·exact sB (.int .i64 (1 - (((aroundL c a ((wyK c a d ⟨s, e, []⟩ k).s) ((wyK c a d ⟨s, e, []⟩ k).e)).getD j dE).en))) (subI om)
    exact dW 95 fun st hob hE => aop_build rfl rfl rfl pl114 (by simp only [partsA, List.map, evA, hE 88 rfl, hE 94 rfl]; rfl) (by rw [hob]; rfl)
   refine oG (qS sz114 ?_)
   refine op0 ?_
   refine regR ?_
   refine mG (.i (k : Int)) ?_
   refine oG (qB (.int .i64 ((k + 1 : Nat) : Int)) (addN om) ?_)
   refine mG (.i ((k + 1 : Nat) : Int)) ?_
   refine op0 ?_
   show _ ∧ _
   have hrow : (wyK c a d ⟨s, e, []⟩ (k + 1)).ns = (wyK c a d ⟨s, e, []⟩ k).ns := by show (wyK c a d ⟨s, e, []⟩ k).ns ++ needL c a (wyK c a d ⟨s, e, []⟩ k).s (wyK c a d ⟨s, e, []⟩ k).e (wyX c a (d.getD k 0) (wyK c a d ⟨s, e, []⟩ k)).sec = _; rw [hsec, need_no hpi, List.append_nil]
   refine ⟨by omega, (wy_step om hW hns), ?_⟩
   exact iL [(1, 1), (2, 2), (3, 3)] [((1, 1), .live _), ((2, 2), .live _), ((3, 3), .live _)] ⟨row_no rfl (by exact congrArg (fun l_ => LObj.mk (enc eN l_) 110 2) hrow), row_no rfl rfl, row_no (o := ⟨(Z4t d k c a s e j), 114, 1⟩) rfl (congrArg (fun x_ : En => LObj.mk [.i (d.getD k 0), .i (1 - x_.en)] 114 1) hxx), trivial⟩ (he := (sS rfl (sM (by exact congrArg (AV.sl 1 0) (congrArg List.length hrow.symm)) (sS rfl (sS rfl (sM rfl (sM rfl (sS rfl sr_none))))))))
  have hf12 := of_decide_eq_false hg2
  refine aD 16 [(40, .b false), (39, .v undef), (38, .v undef), (37, .v undef), (36, .v undef), (35, .v undef), (34, .v undef), (33, .v undef), (32, .v undef), (31, .v undef), (30, .v undef), (29, .b (decide ((j : Int) < ((aroundL c a ((wyK c a d ⟨s, e, []⟩ k).s) ((wyK c a d ⟨s, e, []⟩ k).e)).length : Int)))), (28, .b (decide ((j : Int) < ((aroundL c a ((wyK c a d ⟨s, e, []⟩ k).s) ((wyK c a d ⟨s, e, []⟩ k).e)).length : Int)))), (27, .i ((aroundL c a ((wyK c a d ⟨s, e, []⟩ k).s) ((wyK c a d ⟨s, e, []⟩ k).e)).length : Int)), (26, .q eEn (aroundL c a ((wyK c a d ⟨s, e, []⟩ k).s) ((wyK c a d ⟨s, e, []⟩ k).e))), (25, .i (j : Int))] mixed ?_ ?_
  ·iterate 16 (refine ⟨?_, ?_⟩; rotate_left)
   trivial
   ·exact sMv
   ·exact sMv
   ·exact dW 27 fun st hob hE => aop_len rfl rfl rfl rfl ut115 (len_ro (hE 26 rfl)) (by rw [hob]; rfl)
   ·exact sB (.bool (decide ((j : Int) < ((aroundL c a ((wyK c a d ⟨s, e, []⟩ k).s) ((wyK c a d ⟨s, e, []⟩ k).e)).length : Int)))) rfl
   ·exact sMv
   ·exact gn1 hg2
   ·exact gn1 hg2
   ·exact gn1 hg2
   ·exact gn1 hg2
   ·exact gn1 hg2
   ·exact gn1 hg2
   ·exact gn1 hg2
   ·exact gn1 hg2
   ·exact gn1 hg2
   ·exact gn1 hg2
   exact sPk (decide ((j : Int) < ((aroundL c a ((wyK c a d ⟨s, e, []⟩ k).s) ((wyK c a d ⟨s, e, []⟩ k).e)).length : Int))) (.b false) hg2
  refine op0 ?_
  refine awp_cond false rfl rfl (fun h => by cases h) (fun _ => ?_)
  refine awp_exit ?_
  refine awp_seq ?_
  refine seqR ?_
  refine mG (.i (j : Int)) ?_
  refine mG (Z4y c a d s e k) ?_
  refine oG (qN ut115 ?_)
  refine bG ((.bool ((j : Int) == ((aroundL c a ((wyK c a d ⟨s, e, []⟩ k).s) ((wyK c a d ⟨s, e, []⟩ k).e)).length : Int)))) ?_
  refine rU (Z57 d c a s e k j) (Z4n c a d s e k) ?_
  refine awp_cond ((j : Int) == ((aroundL c a ((wyK c a d ⟨s, e, []⟩ k).s) ((wyK c a d ⟨s, e, []⟩ k).e)).length : Int)) rfl rfl (fun hc2 => ?_) (fun hc2 => ?_)
  ·skip
   have hf13 := (beq_iff_eq).1 hc2
   have hlt : (wyI c a (wyK c a d ⟨s, e, []⟩ k).s (wyK c a d ⟨s, e, []⟩ k).e (d.getD k 0)) < 0 := by have h_ := idxB_end (f := fun x : En => decide (x.sec = (d.getD k 0))) (show (aroundL c a (wyK c a d ⟨s, e, []⟩ k).s (wyK c a d ⟨s, e, []⟩ k).e).length ≤ j by omega) hinv; unfold wyI; omega
   have hO := wy_stop om hW hlt
   refine seqR ?_
   refine mG vN ?_
   refine mG (.b false) ?_
   refine op0 ?_
   refine awp_imp _ (imp_frozen rfl (fun _ h => h) (lee_lend 7 (.b false) (lend_n (av := .b false)) (lee_lend 6 (.ro 0 []) .nil lee_lend0))) ?_
   refine awp_ret ?_
   exact fret (av := .tup [.ro 0 [], .v (.bool false)]) rfl rfl (by rw [(wyL_none hO).1, (wyL_none hO).2]; rfl)
  have hf14 := (beq_eq_false_iff_ne).1 hc2
  have hix : (wyI c a (wyK c a d ⟨s, e, []⟩ k).s (wyK c a d ⟨s, e, []⟩ k).e (d.getD k 0)) = (j : Int) := by first | (unfold wyI; exact idxB_stop dE om hinv (by simpa using hc1)) | (exfalso; omega)
  have hns : ¬ (wyI c a (wyK c a d ⟨s, e, []⟩ k).s (wyK c a d ⟨s, e, []⟩ k).e (d.getD k 0)) < 0 := by omega
  have hxo := wyX_ok (secs := c) (pts := a) (p := (d.getD k 0)) (w := (wyK c a d ⟨s, e, []⟩ k)) hns
  have hjx : (wyI c a (wyK c a d ⟨s, e, []⟩ k).s (wyK c a d ⟨s, e, []⟩ k).e (d.getD k 0)).toNat = j := by rw [hix]; rfl
  have hxx : wyX c a (d.getD k 0) (wyK c a d ⟨s, e, []⟩ k) = (aroundL c a (wyK c a d ⟨s, e, []⟩ k).s (wyK c a d ⟨s, e, []⟩ k).e).getD j dE := by unfold wyX; rw [hjx]
  have hsec := hxo.2.1
  have hx1 : ((aroundL c a (wyK c a d ⟨s, e, []⟩ k).s (wyK c a d ⟨s, e, []⟩ k).e).getD j dE).en = 0 ∨ ((aroundL c a (wyK c a d ⟨s, e, []⟩ k).s (wyK c a d ⟨s, e, []⟩ k).e).getD j dE).en = 1 := by rw [← hxx]; exact hxo.1
  have hx3 : j < (aroundL c a (wyK c a d ⟨s, e, []⟩ k).s (wyK c a d ⟨s, e, []⟩ k).e).length := by have := hxo.2.2; omega
  have hr_ := pointI_range a (nodeA c (wyK c a d ⟨s, e, []⟩ k).s (wyK c a d ⟨s, e, []⟩ k).e)
  refine awp_skip ?_
  refine seqR ?_
  refine oG (qLB (Z4w c a) ag39 sz39 ?_)
  refine oG (qLB (Z53 c a d s e k) ag114 sz114 ?_)
  refine oG (qC (r05_node c ((wyK c a d ⟨s, e, []⟩ k).s) ((wyK c a d ⟨s, e, []⟩ k).e) oo) bd61 ?_)
  refine mG (Z55 c a d s e k) ?_
  refine oG (qE ?_)
  refine oG (qE ?_)
  refine mG (.i (nodeA c ((wyK c a d ⟨s, e, []⟩ k).s) ((wyK c a d ⟨s, e, []⟩ k).e))) ?_
  refine mG (.b (!noNode c ((wyK c a d ⟨s, e, []⟩ k).s) ((wyK c a d ⟨s, e, []⟩ k).e))) ?_
  refine rU (Z51 d c a s e k j) (Z4n c a d s e k) ?_
  refine seqR ?_
  refine oG (qLB (Z4w c a) ag39 sz39 ?_)
  refine mG (.i (nodeA c ((wyK c a d ⟨s, e, []⟩ k).s) ((wyK c a d ⟨s, e, []⟩ k).e))) ?_
  refine oG (qC (r05_Point a (nodeA c ((wyK c a d ⟨s, e, []⟩ k).s) ((wyK c a d ⟨s, e, []⟩ k).e)) oo) bd62 ?_)
  refine mG (.i (pointI a (nodeA c ((wyK c a d ⟨s, e, []⟩ k).s) ((wyK c a d ⟨s, e, []⟩ k).e)))) ?_
  refine rU (Z4r d c a s e k j) (Z4n c a d s e k) ?_
  refine awp_seq ?_
  refine seqR ?_
  refine mG (.i (pointI a (nodeA c ((wyK c a d ⟨s, e, []⟩ k).s) ((wyK c a d ⟨s, e, []⟩ k).e)))) ?_
  refine bG ((.bool (decide ((pointI a (nodeA c ((wyK c a d ⟨s, e, []⟩ k).s) ((wyK c a d ⟨s, e, []⟩ k).e))) ≥ 0)))) ?_
  refine op0 ?_
  refine awp_cond (decide ((pointI a (nodeA c ((wyK c a d ⟨s, e, []⟩ k).s) ((wyK c a d ⟨s, e, []⟩ k).e))) ≥ 0)) rfl rfl (fun hc3 => ?_) (fun hc3 => ?_)
  ·skip
   have hf15 := of_decide_eq_true hc3
   have hpi : ¬ (pointI a (nodeA c (wyK c a d ⟨s, e, []⟩ k).s (wyK c a d ⟨s, e, []⟩ k).e)) < 0 := by omega
   refine seqR ?_
   refine mG (.q eI d) ?_
   refine mG (.i (k : Int)) ?_
   refine oG (qX (0 : Int) ut48 sz3 ?_)
   refine oG (qL (.i (d.getD k 0)) ag3 ?_)
   refine mG (.i (d.getD k 0)) ?_
   refine rU (upd (Z4r d c a s e k j) 15 (.i (d.getD k 0))) (Z4n c a d s e k) ?_
   refine awp_seq ?_
   refine seqR ?_
   refine mG (.i (d.getD k 0)) ?_
   refine fG (.pt 2 3) ft39_3 sz37 ?_
   refine oG (qL (.q ePnt a) ag37 ?_)
   refine mG (.i (pointI a (nodeA c ((wyK c a d ⟨s, e, []⟩ k).s) ((wyK c a d ⟨s, e, []⟩ k).e)))) ?_
   refine oG (aop_ixI dP rfl rfl rfl ut37 sz100 rfl rfl (fun _ => rfl) rfl om oo ?_)
   refine oG (qF (Z4q a c d s e k) (Z4v a c d s e k) ft100_1 sz3 ?_)
   refine oG (qL (.i ((a.getD (pointI a (nodeA c ((wyK c a d ⟨s, e, []⟩ k).s) ((wyK c a d ⟨s, e, []⟩ k).e))).toNat dP).stem)) ag3 ?_)
   refine bG ((.bool ((d.getD k 0) == ((a.getD (pointI a (nodeA c ((wyK c a d ⟨s, e, []⟩ k).s) ((wyK c a d ⟨s, e, []⟩ k).e))).toNat dP).stem)))) ?_
   refine rU (Z54 d c a s e k j) (Z4n c a d s e k) ?_
   refine cutG ⟨(upd (Z4r d c a s e k j) 15 (.i (if (a.getD (pointI a (nodeA c (wyK c a d ⟨s, e, []⟩ k).s (wyK c a d ⟨s, e, []⟩ k).e)).toNat dP).stem = (d.getD k 0) then (wyK c a d ⟨s, e, []⟩ k).s else (d.getD k 0)))), (Z4n c a d s e k)⟩ (fun s h => h) ?_ ?_
   ·skip
    refine awp_cond ((d.getD k 0) == ((a.getD (pointI a (nodeA c ((wyK c a d ⟨s, e, []⟩ k).s) ((wyK c a d ⟨s, e, []⟩ k).e))).toNat dP).stem)) rfl rfl (fun hc4 => ?_) (fun hc4 => ?_)
    ·skip
     have hf16 := (beq_iff_eq).1 hc4
     refine regR ?_
     refine fG (.pt 3 0) ft114_0 sz3 ?_
     refine oG (qL (.i ((wyK c a d ⟨s, e, []⟩ k).s)) ag3 ?_)
     refine mG (.i ((wyK c a d ⟨s, e, []⟩ k).s)) ?_
     refine op0 ?_
     show Imp _ _ _
     exact iL [(1, 1), (2, 2), (3, 3)] [((1, 1), .live _), ((2, 2), .live _), ((3, 3), .live _)] ⟨row_no rfl rfl, row_no rfl rfl, row_no rfl rfl, trivial⟩ (he := (sS (by exact congrArg (fun n_ : Int => AV.v (.int .i64 n_)) (by first | exact (if_pos (Eq.symm (by simpa using hc4))).symm | exact (if_neg (fun h_ => absurd h_.symm (by simpa using hc4))).symm)) (sS rfl (sS rfl (sS rfl (sS rfl (sS rfl (sM rfl (sS rfl (sS rfl (sM rfl (sM rfl (sS rfl sr_none)))))))))))))
    have hf17 := (beq_eq_false_iff_ne).1 hc4
    refine awp_skip ?_
    show Imp _ _ _
    exact iL [(1, 1), (2, 2), (3, 3)] [((1, 1), .live _), ((2, 2), .live _), ((3, 3), .live _)] ⟨row_no rfl rfl, row_no rfl rfl, row_no rfl rfl, trivial⟩ (he := (sS (by exact congrArg (fun n_ : Int => AV.v (.int .i64 n_)) (by first | exact (if_pos (Eq.symm (by simpa using hc4))).symm | exact (if_neg (fun h_ => absurd h_.symm (by simpa using hc4))).symm)) (sS rfl (sS rfl (sS rfl (sS rfl (sS rfl (sM rfl (sS rfl (sS rfl (sM rfl (sM rfl (sS rfl sr_none)))))))))))))
   refine regR ?_
   refine mG (.sl 1 0 ((wyK c a d ⟨s, e, []⟩ k).ns.length)) ?_
   refine mG (.i (pointI a (nodeA c ((wyK c a d ⟨s, e, []⟩ k).s) ((wyK c a d ⟨s, e, []⟩ k).e)))) ?_
   refine fG (.pt 2 3) ft39_3 sz37 ?_
   refine oG (qL (.q ePnt a) ag37 ?_)
   refine mG (.i (pointI a (nodeA c ((wyK c a d ⟨s, e, []⟩ k).s) ((wyK c a d ⟨s, e, []⟩ k).e)))) ?_
   refine oG (aop_ixI dP rfl rfl rfl ut37 sz100 rfl rfl (fun _ => rfl) rfl om oo ?_)
   refine oG (qF (Z4q a c d s e k) (Z50 a c d s e k) ft100_3 sz3 ?_)
   refine oG (qL (.i ((a.getD (pointI a (nodeA c ((wyK c a d ⟨s, e, []⟩ k).s) ((wyK c a d ⟨s, e, []⟩ k).e))).toNat dP).right)) ag3 ?_)
   refine mG (.i (if (a.getD (pointI a (nodeA c (wyK c a d ⟨s, e, []⟩ k).s (wyK c a d ⟨s, e, []⟩ k).e)).toNat dP).stem = (d.getD k 0) then (wyK c a d ⟨s, e, []⟩ k).s else (d.getD k 0))) ?_
   refine bG ((.bool (((a.getD (pointI a (nodeA c ((wyK c a d ⟨s, e, []⟩ k).s) ((wyK c a d ⟨s, e, []⟩ k).e))).toNat dP).right) == (if (a.getD (pointI a (nodeA c (wyK c a d ⟨s, e, []⟩ k).s (wyK c a d ⟨s, e, []⟩ k).e)).toNat dP).stem = (d.getD k 0) then (wyK c a d ⟨s, e, []⟩ k).s else (d.getD k 0))))) ?_
   refine oG (qD pl110 ?_)
   refine oG (aop_lit rfl rfl rfl ut91 iz110 (by decide) (by decide) rfl rfl ?_)
   refine oG (aop_app1 (f := eN) (l := (wyK c a d ⟨s, e, []⟩ k).ns) 55 (⟨pointI a (nodeA c ((wyK c a d ⟨s, e, []⟩ k).s) ((wyK c a d ⟨s, e, []⟩ k).e)), (((a.getD (pointI a (nodeA c ((wyK c a d ⟨s, e, []⟩ k).s) ((wyK c a d ⟨s, e, []⟩ k).e))).toNat dP).right) == (if (a.getD (pointI a (nodeA c (wyK c a d ⟨s, e, []⟩ k).s (wyK c a d ⟨s, e, []⟩ k).e)).toNat dP).stem = (d.getD k 0) then (wyK c a d ⟨s, e, []⟩ k).s else (d.getD k 0)))⟩ : Need) rfl rfl rfl rfl ut91 in110 rfl (by decide) rfl rfl rfl rfl rfl rfl (fun _ => rfl) rfl rfl oo oo rfl ?_)
   refine mG (.sl 55 0 ((((wyK c a d ⟨s, e, []⟩ k).ns) ++ [(⟨pointI a (nodeA c ((wyK c a d ⟨s, e, []⟩ k).s) ((wyK c a d ⟨s, e, []⟩ k).e)), (((a.getD (pointI a (nodeA c ((wyK c a d ⟨s, e, []⟩ k).s) ((wyK c a d ⟨s, e, []⟩ k).e))).toNat dP).right) == (if (a.getD (pointI a (nodeA c (wyK c a d ⟨s, e, []⟩ k).s (wyK c a d ⟨s, e, []⟩ k).e)).toNat dP).stem = (d.getD k 0) then (wyK c a d ⟨s, e, []⟩ k).s else (d.getD k 0)))⟩ : Need)]).length)) ?_
   refine op0 ?_
   refine rT (upd (upd (upd (upd (upd (upd (upd (Z4x d) 8 (.sl 55 0 ((((wyK c a d ⟨s, e, []⟩ k).ns) ++ [(⟨pointI a (nodeA c ((wyK c a d ⟨s, e, []⟩ k).s) ((wyK c a d ⟨s, e, []⟩ k).e)), (((a.getD (pointI a (nodeA c ((wyK c a d ⟨s, e, []⟩ k).s) ((wyK c a d ⟨s, e, []⟩ k).e))).toNat dP).right) == (if (a.getD (pointI a (nodeA c (wyK c a d ⟨s, e, []⟩ k).s (wyK c a d ⟨s, e, []⟩ k).e)).toNat dP).stem = (d.getD k 0) then (wyK c a d ⟨s, e, []⟩ k).s else (d.getD k 0)))⟩ : Need)]).length))) 9 (.i (k : Int))) 10 (Z4y c a d s e k)) 11 (.i (j : Int))) 12 (.i (nodeA c ((wyK c a d ⟨s, e, []⟩ k).s) ((wyK c a d ⟨s, e, []⟩ k).e)))) 14 (.i (pointI a (nodeA c ((wyK c a d ⟨s, e, []⟩ k).s) ((wyK c a d ⟨s, e, []⟩ k).e))))) 15 (.i (if (a.getD (pointI a (nodeA c (wyK c a d ⟨s, e, []⟩ k).s (wyK c a d ⟨s, e, []⟩ k).e)).toNat dP).stem = (d.getD k 0) then (wyK c a d ⟨s, e, []⟩ k).s else (d.getD k 0)))) (updO (updO (Z4n c a d s e k) 1 .dead) 55 (.live ⟨(enc eN (((wyK c a d ⟨s, e, []⟩ k).ns) ++ [(⟨pointI a (nodeA c ((wyK c a d ⟨s, e, []⟩ k).s) ((wyK c a d ⟨s, e, []⟩ k).e)), (((a.getD (pointI a (nodeA c ((wyK c a d ⟨s, e, []⟩ k).s) ((wyK c a d ⟨s, e, []⟩ k).e))).toNat dP).right) == (if (a.getD (pointI a (nodeA c (wyK c a d ⟨s, e, []⟩ k).s (wyK c a d ⟨s, e, []⟩ k).e)).toNat dP).stem = (d.getD k 0) then (wyK c a d ⟨s, e, []⟩ k).s else (d.getD k 0)))⟩ : Need)])), 110, 2⟩)) ?_
   refine aD 11 [(95, .agg (Z4t d k c a s e j)), (94, .i (1 - (((aroundL c a ((wyK c a d ⟨s, e, []⟩ k).s) ((wyK c a d ⟨s, e, []⟩ k).e)).getD j dE).en))), (93, .i (((aroundL c a ((wyK c a d ⟨s, e, []⟩ k).s) ((wyK c a d ⟨s, e, []⟩ k).e)).getD j dE).en)), (92, .rp (((Z4u c a d s e k j) : List AV) ++ ((Z4s c a d s e k).drop ((j + 1) * 2)))), (91, .rp (((Z4p c a d s e k j) : List AV) ++ ((Z4s c a d s e k).drop ((j + 1) * 2)))), (90, .i (j : Int)), (89, .q eEn (aroundL c a ((wyK c a d ⟨s, e, []⟩ k).s) ((wyK c a d ⟨s, e, []⟩ k).e))), (88, .i (d.getD k 0)), (87, .rp (([.i (d.getD k 0)] : List AV) ++ ((enc eI d).drop ((k + 1) * 1)))), (86, .i (k : Int)), (85, .q eI d)] mixed ?_ ?_
   ·refine ⟨?_, ?_, ?_, ?_, ?_, ?_, ?_, ?_, ?_, ?_, ?_, trivial⟩
    ·exact sMv
    ·exact sMv
    ·exact (sIx (0 : Int) ut48 sz3)
    ·exact (sLd ag3)
    ·exact sMv
    ·exact sMv
    ·exact (sIx dE ut115 sz114)
    ·exact sF (Z4z c a d s e k j) (Z52 c a d s e k j) ft114_1 sz3
    ·exact (sLd ag3)
    ·exact sB (.int .i64 (1 - (((aroundL c a ((wyK c a d ⟨s, e, []⟩ k).s) ((wyK c a d ⟨s, e, []⟩ k).e)).getD j dE).en))) (subI om)
    exact dW 95 fun st hob hE => aop_build rfl rfl rfl pl114 (by simp only [partsA, List.map, evA, hE 88 rfl, hE 94 rfl]; rfl) (by rw [hob]; rfl)
   refine oG (qS sz114 ?_)
   refine op0 ?_
   refine regR ?_
   refine mG (.i (k : Int)) ?_
   refine oG (qB (.int .i64 ((k + 1 : Nat) : Int)) (addN om) ?_)
   refine mG (.i ((k + 1 : Nat) : Int)) ?_
   refine op0 ?_
   show _ ∧ _
   have hrow : (wyK c a d ⟨s, e, []⟩ (k + 1)).ns = (wyK c a d ⟨s, e, []⟩ k).ns ++ [(⟨(pointI a (nodeA c (wyK c a d ⟨s, e, []⟩ k).s (wyK c a d ⟨s, e, []⟩ k).e)), ((a.getD (pointI a (nodeA c (wyK c a d ⟨s, e, []⟩ k).s (wyK c a d ⟨s, e, []⟩ k).e)).toNat dP).right == (if (a.getD (pointI a (nodeA c (wyK c a d ⟨s, e, []⟩ k).s (wyK c a d ⟨s, e, []⟩ k).e)).toNat dP).stem = (d.getD k 0) then (wyK c a d ⟨s, e, []⟩ k).s else (d.getD k 0)))⟩ : Need)] := by show (wyK c a d ⟨s, e, []⟩ k).ns ++ needL c a (wyK c a d ⟨s, e, []⟩ k).s (wyK c a d ⟨s, e, []⟩ k).e (wyX c a (d.getD k 0) (wyK c a d ⟨s, e, []⟩ k)).sec = _; rw [hsec, need_yes hpi rfl rfl]; rfl
   refine ⟨by omega, (wy_step om hW hns), ?_⟩
   exact iL [(55, 1), (2, 2), (3, 3)] [((55, 1), .live _), ((2, 2), .live _), ((3, 3), .live _)] ⟨row_no rfl (by exact congrArg (fun l_ => LObj.mk (enc eN l_) 110 2) hrow), row_no rfl rfl, row_no (o := ⟨(Z4t d k c a s e j), 114, 1⟩) rfl (congrArg (fun x_ : En => LObj.mk [.i (d.getD k 0), .i (1 - x_.en)] 114 1) hxx), trivial⟩ (he := (sS rfl (sM (by exact congrArg (AV.sl 1 0) (congrArg List.length hrow.symm)) (sS rfl (sS rfl (sM rfl (sM rfl (sS rfl sr_none))))))))
  have hf18 := of_decide_eq_false hc3
  have hpi : (pointI a (nodeA c (wyK c a d ⟨s, e, []⟩ k).s (wyK c a d ⟨s, e, []⟩ k).e)) < 0 := by omega
  refine awp_skip ?_
  refine aD 11 [(95, .agg (Z4t d k c a s e j)), (94, .i (1 - (((aroundL c a ((wyK c a d ⟨s, e, []⟩ k).s) ((wyK c a d ⟨s, e, []⟩ k).e)).getD j dE).en))), (93, .i (((aroundL c a ((wyK c a d ⟨s, e, []⟩ k).s) ((wyK c a d ⟨s, e, []⟩ k).e)).getD j dE).en)), (92, .rp (((Z4u c a d s e k j) : List AV) ++ ((Z4s c a d s e k).drop ((j + 1) * 2)))), (91, .rp (((Z4p c a d s e k j) : List AV) ++ ((Z4s c a d s e k).drop ((j + 1) * 2)))), (90, .i (j : Int)), (89, .q eEn (aroundL c a ((wyK c a d ⟨s, e, []⟩ k).s) ((wyK c a d ⟨s, e, []⟩ k).e))), (88, .i (d.getD k 0)), (87, .rp (([.i (d.getD k 0)] : List AV) ++ ((enc eI d).drop ((k + 1) * 1)))), (86, .i (k : Int)), (85, .q eI d)] mixed ?_ ?_
  ·refine ⟨?_, ?_, ?_, ?_, ?_, ?_, ?_, ?_, ?_, ?_, ?_, trivial⟩
   ·exact sMv
   ·exact sMv
   ·exact (sIx (0 : Int) ut48 sz3)
   ·exact (sLd ag3)
   ·exact sMv
   ·exact sMv
   ·exact (sIx dE ut115 sz114)
   ·exact sF (Z4z c a d s e k j) (Z52 c a d s e k j) ft114_1 sz3
   ·exact (sLd ag3)
   ·exact sB (.int .i64 (1 - (((aroundL c a ((wyK c a d ⟨s, e, []⟩ k).s) ((wyK c a d ⟨s, e, []⟩ k).e)).getD j dE).en))) (subI om)
   exact dW 95 fun st hob hE => aop_build rfl rfl rfl pl114 (by simp only [partsA, List.map, evA, hE 88 rfl, hE 94 rfl]; rfl) (by rw [hob]; rfl)
  refine oG (qS sz114 ?_)
  refine op0 ?_
  refine regR ?_
  refine mG (.i (k : Int)) ?_
  refine oG (qB (.int .i64 ((k + 1 : Nat) : Int)) (addN om) ?_)
  refine mG (.i ((k + 1 : Nat) : Int)) ?_
  refine op0 ?_
  show _ ∧ _
  have hrow : (wyK c a d ⟨s, e, []⟩ (k + 1)).ns = (wyK c a d ⟨s, e, []⟩ k).ns := by show (wyK c a d ⟨s, e, []⟩ k).ns ++ needL c a (wyK c a d ⟨s, e, []⟩ k).s (wyK c a d ⟨s, e, []⟩ k).e (wyX c a (d.getD k 0) (wyK c a d ⟨s, e, []⟩ k)).sec = _; rw [hsec, need_no hpi, List.append_nil]
  refine ⟨by omega, (wy_step om hW hns), ?_⟩
  exact iL [(1, 1), (2, 2), (3, 3)] [((1, 1), .live _), ((2, 2), .live _), ((3, 3), .live _)] ⟨row_no rfl (by exact congrArg (fun l_ => LObj.mk (enc eN l_) 110 2) hrow), row_no rfl rfl, row_no (o := ⟨(Z4t d k c a s e j), 114, 1⟩) rfl (congrArg (fun x_ : En => LObj.mk [.i (d.getD k 0), .i (1 - x_.en)] 114 1) hxx), trivial⟩ (he := (sS rfl (sM (by exact congrArg (AV.sl 1 0) (congrArg List.length hrow.symm)) (sS rfl (sS rfl (sM rfl (sM rfl (sS rfl sr_none))))))))
 have hf19 := of_decide_eq_false hc0
 have hO := wy_end om hinv
 refine awp_exit ?_
 refine seqR ?_
 refine mG (.sl 1 0 ((wyK c a d ⟨s, e, []⟩ k).ns.length)) ?_
 refine mG (.sl 1 0 ((wyK c a d ⟨s, e, []⟩ k).ns.length)) ?_
 refine mG (.b true) ?_
 refine op0 ?_
 refine awp_imp _ (imp_frozen rfl (fun _ h => h) (lee_lend 7 (.b true) (lend_n (av := .b true)) (lee_lend 6 (.ro ((wyK c a d ⟨s, e, []⟩ k).ns.length) (enc eN ((wyK c a d ⟨s, e, []⟩ k).ns))) (lend_s (id := 1) (n := (wyK c a d ⟨s, e, []⟩ k).ns.length) (o := ⟨(enc eN ((wyK c a d ⟨s, e, []⟩ k).ns)), 110, 2⟩) rfl (enc_len (fun _ => rfl) (by first | rfl | (simp; done)))) lee_lend0))) ?_
 refine awp_ret ?_
 exact fret (av := .tup [.ro ((wyK c a d ⟨s, e, []⟩ k).ns.length) (enc eN ((wyK c a d ⟨s, e, []⟩ k).ns)), .v (.bool true)]) rfl rfl (by first | (rw [(wyL_none hO).1, (wyL_none hO).2]; rfl) | rw [(wyL_some hO).1, (wyL_some hO).2])
abbrev Z59 (a : List Int) (j : Nat) : Nat → AV := (upd (upd (upd (upd (upd none_ 1 (.q eI a)) 2 (.pt 1 0)) 4 vN) 5 (.b false)) 6 (.i (j : Int)))
abbrev Z58 (c : List Sec) (d : List Pnt) : List AV := [.one, .q eSec c, .one, .q ePnt d, .one, .one, .one, .one, .one, .one]
theorem r05_Path (c : List Sec) (d : List Pnt) (a : List Int) (hs : c.length ≤ 65536) (hp : d.length ≤ 65536) (hpl : a.length ≤ 65536) : Fn Try.prog 45 [.agg [.one, .ro c.length (enc eSec c), .one, .ro d.length (enc ePnt d), .one, .one, .one, .one, .one, .one], .ro a.length (enc eI a)] (.tup [.ro ((paL c d a).length) (enc eN (paL c d a)), .v (.bool (paB c d a))]) := by
 refine fnE_of_body (N := 38) Try.func45 rfl rfl (resOf2 rfl) (by simp) (fun w0 X hL_ => ?_)
 refine seqR ?_
 refine oG (qW 51 ?_)
 refine mG vN ?_
 refine mG (.b false) ?_
 refine op0 ?_
 refine awp_seq ?_
 refine seqR ?_
 refine mG (.q eI a) ?_
 refine oG (qN ut48 ?_)
 refine bG ((.bool (decide ((a.length : Int) < 2)))) ?_
 refine mG (.b (decide ((a.length : Int) < 2))) ?_
 refine aops_grp 7 19 (.b ((decide ((a.length : Int) < 2)) || (((riseL a).length : Int) != (a.length : Int)))) ?_ ?_
 ·refine (Bool.eq_false_or_eq_true (decide ((a.length : Int) < 2))).elim (fun hg1 => ?_) (fun hg1 => ?_)
  ·skip
   have hf2 := of_decide_eq_true hg1
   refine nG hg1 ?_
   refine nG hg1 ?_
   refine nG hg1 ?_
   refine nG hg1 ?_
   refine nG hg1 ?_
   refine nG hg1 ?_
   refine oG (qP (decide ((a.length : Int) < 2)) (.b true) hg1 ?_)
   refine op0 ?_
   exact imp_env (lee_both 19 _ _ (by rw [hg1] <;> rfl) lO)
  have hf3 := of_decide_eq_false hg1
  refine oY hg1 (qM (.q eI a) ?_)
  refine oY hg1 (qJ (r01_Rise a oo) bd42 ?_)
  refine oY hg1 (qN ut48 ?_)
  refine oY hg1 (qM (.q eI a) ?_)
  refine oY hg1 (qN ut48 ?_)
  refine oY hg1 (qB (.bool (((riseL a).length : Int) != (a.length : Int))) rfl ?_)
  refine oG (qP (decide ((a.length : Int) < 2)) (.b (((riseL a).length : Int) != (a.length : Int))) hg1 ?_)
  refine op0 ?_
  exact imp_env (lee_both 19 _ _ (by rw [hg1] <;> rfl) lO)
 refine op0 ?_
 refine rT (upd (upd (upd (upd (upd none_ 1 (.q eI a)) 2 (.pt 51 0)) 4 vN) 5 (.b false)) 19 (.b ((decide ((a.length : Int) < 2)) || (((riseL a).length : Int) != (a.length : Int))))) (updO noOb 51 (.live ⟨(Z58 c d), 39, 1⟩)) ?_
 refine awp_cond ((decide ((a.length : Int) < 2)) || (((riseL a).length : Int) != (a.length : Int))) rfl rfl (fun hc0 => ?_) (fun hc0 => ?_)
 ·skip
  have hp2 := pa_bad (secs := c) (pts := d) (path := a) (by simpa using hc0)
  refine seqR ?_
  refine mG vN ?_
  refine mG (.b false) ?_
  refine op0 ?_
  refine awp_imp _ (imp_frozen rfl (fun _ h => h) (lee_lend 5 (.b false) (lend_n (av := .b false)) (lee_lend 4 (.ro 0 []) .nil lee_lend0))) ?_
  refine awp_ret ?_
  exact fret (av := .tup [.ro 0 [], .v (.bool false)]) rfl rfl (by rw [hp2.1, hp2.2]; rfl)
 obtain ⟨hf4a, hf4b⟩ := or_f hc0
 have hf5 := of_decide_eq_false hf4a
 have hf6 := (bne_eq_false_iff_eq).1 hf4b
 obtain ⟨hp2, hnd⟩ := pa_good (path := a) (by simpa using hc0)
 refine awp_skip ?_
 refine awp_seq ?_
 refine seqR ?_
 refine mG (.i 0) ?_
 refine op0 ?_
 refine awp_block ?_
 refine awp_countI (fun j => ⟨(Z59 a j), (updO noOb 1 (.live ⟨(Z58 c d), 39, 1⟩))⟩) (fun j => ∀ j_, j_ < j → wyB c d (a.getD 0 0) (j_ : Int) (a.drop 1) = false) (2) ?_ (fun _ h => by omega) (fun j hk_j hinv => ?_)
 ·skip
  exact iI 51 1 rfl
 refine awp_seq ?_
 refine seqR ?_
 refine mG (.i (j : Int)) ?_
 refine bG ((.bool (decide ((j : Int) < 2)))) ?_
 refine op0 ?_
 refine awp_cond (decide ((j : Int) < 2)) rfl rfl (fun hc1 => ?_) (fun hc1 => ?_)
 ·skip
  have hf7 := of_decide_eq_true hc1
  refine awp_skip ?_
  refine awp_seq ?_
  refine awp_block ?_
  refine awp_seq ?_
  refine aD 13 [(7, .q eN (wyL c d (a.getD 0 0) (j : Int) (a.drop 1))), (35, .b (wyB c d (a.getD 0 0) (j : Int) (a.drop 1))), (34, .q eN (wyL c d (a.getD 0 0) (j : Int) (a.drop 1))), (24, .tup [.q eN (wyL c d (a.getD 0 0) (j : Int) (a.drop 1)), .b (wyB c d (a.getD 0 0) (j : Int) (a.drop 1))]), (33, .tup [.q eN (wyL c d (a.getD 0 0) (j : Int) (a.drop 1)), .b (wyB c d (a.getD 0 0) (j : Int) (a.drop 1))]), (32, .q eI (a.drop 1)), (31, .q eI a), (30, .agg [.i (a.getD 0 0), .i (j : Int)]), (29, .i (j : Int)), (28, .i (a.getD 0 0)), (27, .rp (([.i (a.getD 0 0)] : List AV) ++ ((enc eI a).drop ((0 + 1) * 1)))), (26, .q eI a), (25, .agg (Z58 c d))] mixed ?_ ?_
  ·iterate 13 (refine ⟨?_, ?_⟩; rotate_left)
   trivial
   ·exact sLB (Z58 c d) ag39 sz39
   ·exact sMv
   ·exact dW 27 fun st hob hE => aop_ixE (k := 0) 0 rfl rfl rfl ut48 sz3 (hE 26 rfl) rfl (fun _ => rfl) rfl oo (by rw [hob]; rfl)
   ·exact (sLd ag3)
   ·exact sMv
   ·exact dW 30 fun st hob hE => aop_build rfl rfl rfl pl114 (by simp only [partsA, List.map, evA, hE 28 rfl, hE 29 rfl]; rfl) (by rw [hob]; rfl)
   ·exact sMv
   ·exact dW 32 fun st hob hE => aop_sliceRoN (l := 1) (hgh := a.length) (cells' := enc eI (a.drop 1)) ((a.drop 1)).length rfl rfl rfl ut48 sz3 (hE 31 rfl) ⟨_, rfl⟩ rfl oo oo (sliceE1 (f := eI) (fun _ => rfl) _ _ _ rfl) oz (by rw [hob]; rfl)
   ·exact dW 33 fun st hob hE => call_ (r05_way c d (a.getD 0 0) (j : Int) (a.drop 1) oo oo oo) rfl rfl rfl rfl rfl bd60 (by show [st.env 25, st.env 30, st.env 32] ++ _ = _; rw [hE 25 rfl, hE 30 rfl, hE 32 rfl]; rfl) (by rw [hob]; rfl)
   ·exact sMv
   ·exact dW 34 fun st hob hE => aop_extract rfl rfl rfl (hE 24 rfl) rfl (by rw [hob]; rfl)
   ·exact dW 35 fun st hob hE => aop_extract rfl rfl rfl (hE 24 rfl) rfl (by rw [hob]; rfl)
   exact sMv
  refine mG (.b (wyB c d (a.getD 0 0) (j : Int) (a.drop 1))) ?_
  refine op0 ?_
  refine seqR ?_
  refine mG (.b (wyB c d (a.getD 0 0) (j : Int) (a.drop 1))) ?_
  refine rU (upd (upd (upd (Z59 a j) 7 (.q eN (wyL c d (a.getD 0 0) (j : Int) (a.drop 1)))) 8 (.b (wyB c d (a.getD 0 0) (j : Int) (a.drop 1)))) 36 (.b (wyB c d (a.getD 0 0) (j : Int) (a.drop 1)))) (updO noOb 1 (.live ⟨(Z58 c d), 39, 1⟩)) ?_
  refine awp_cond (wyB c d (a.getD 0 0) (j : Int) (a.drop 1)) rfl rfl (fun hc2 => ?_) (fun hc2 => ?_)
  ·skip
   have hpa := pa_at hp2 hnd om hinv hc2
   refine seqR ?_
   refine mG (.q eN (wyL c d (a.getD 0 0) (j : Int) (a.drop 1))) ?_
   refine mG (.q eN (wyL c d (a.getD 0 0) (j : Int) (a.drop 1))) ?_
   refine mG (.b true) ?_
   refine op0 ?_
   refine awp_ret ?_
   exact fret (av := .tup [.ro ((wyL c d (a.getD 0 0) (j : Int) (a.drop 1)).length) (enc eN (wyL c d (a.getD 0 0) (j : Int) (a.drop 1))), .v (.bool true)]) rfl rfl (by rw [hpa.1, hpa.2])
  refine awp_skip ?_
  refine regR ?_
  refine mG (.i (j : Int)) ?_
  refine oG (qB (.int .i64 ((j + 1 : Nat) : Int)) (addN om) ?_)
  refine mG (.i ((j + 1 : Nat) : Int)) ?_
  refine op0 ?_
  show _ ∧ _
  refine ⟨by omega, (fun j_ h => by rcases Nat.lt_or_ge j_ j with h2 | h2; exact hinv j_ h2; rw [show j_ = j by omega]; exact hc2), ?_⟩
  exact iI 1 1 rfl
 have hf8 := of_decide_eq_false hc1
 have hpe := pa_end (secs := c) (pts := d) hp2 hnd om hinv
 refine awp_exit ?_
 refine seqR ?_
 refine mG vN ?_
 refine mG (.b false) ?_
 refine rU (upd (upd none_ 4 vN) 5 (.b false)) (updO noOb 1 (.live ⟨(Z58 c d), 39, 1⟩)) ?_
 refine awp_imp _ (imp_frozen rfl (fun _ h => h) (lee_lend 5 (.b false) (lend_n (av := .b false)) (lee_lend 4 (.ro 0 []) .nil lee_lend0))) ?_
 refine awp_ret ?_
 exact fret (av := .tup [.ro 0 [], .v (.bool false)]) rfl rfl (by rw [hpe.1, hpe.2]; rfl)
theorem ag2 : aggT Try.prog 2 = some false := by kernel_rfl
theorem ag64 : aggT Try.prog 64 = some true := by kernel_rfl
theorem ag78 : aggT Try.prog 78 = some false := by kernel_rfl
theorem ag81 : aggT Try.prog 81 = some true := by kernel_rfl
theorem bd30 : bodied Try.prog 30 = true := by kernel_rfl
theorem bd31 : bodied Try.prog 31 = true := by kernel_rfl
theorem bd32 : bodied Try.prog 32 = true := by kernel_rfl
theorem bd33 : bodied Try.prog 33 = true := by kernel_rfl
theorem bd34 : bodied Try.prog 34 = true := by kernel_rfl
theorem bd35 : bodied Try.prog 35 = true := by kernel_rfl
theorem bd36 : bodied Try.prog 36 = true := by kernel_rfl
theorem bd55 : bodied Try.prog 55 = true := by kernel_rfl
theorem bd56 : bodied Try.prog 56 = true := by kernel_rfl
theorem bd57 : bodied Try.prog 57 = true := by kernel_rfl
theorem bd58 : bodied Try.prog 58 = true := by kernel_rfl
theorem bd68 : bodied Try.prog 68 = true := by kernel_rfl
theorem bd69 : bodied Try.prog 69 = true := by kernel_rfl
theorem bd70 : bodied Try.prog 70 = true := by kernel_rfl
theorem ft63_1 : fieldT Try.prog 63 1 = some (4, 1) := by kernel_rfl
theorem ft63_2 : fieldT Try.prog 63 2 = some (48, 2) := by kernel_rfl
theorem ft64_0 : fieldT Try.prog 64 0 = some (3, 0) := by kernel_rfl
theorem ft64_1 : fieldT Try.prog 64 1 = some (3, 1) := by kernel_rfl
theorem ft64_2 : fieldT Try.prog 64 2 = some (2, 2) := by kernel_rfl
theorem ft64_3 : fieldT Try.prog 64 3 = some (27, 3) := by kernel_rfl
theorem ft81_0 : fieldT Try.prog 81 0 = some (63, 0) := by kernel_rfl
theorem ft81_1 : fieldT Try.prog 81 1 = some (39, 3) := by kernel_rfl
theorem ft81_2 : fieldT Try.prog 81 2 = some (78, 13) := by kernel_rfl
theorem ft81_3 : fieldT Try.prog 81 3 = some (27, 14) := by kernel_rfl
theorem ft81_4 : fieldT Try.prog 81 4 = some (48, 15) := by kernel_rfl
theorem ft81_5 : fieldT Try.prog 81 5 = some (28, 16) := by kernel_rfl
theorem in64 : (Try.prog.info? 64).map (fun i => (i.zero, i.size, i.bytes)) = some (some (.agg #[(.int .i64 0), (.int .i64 0), (.int .i64 0), (.slice none 0 0)]), 4, 48) := by kernel_rfl
theorem iz64 : (Try.prog.info? 64).map (fun i => (i.zero, i.size)) = some (some (.agg #[(.int .i64 0), (.int .i64 0), (.int .i64 0), (.slice none 0 0)]), 4) := by kernel_rfl
theorem pl121 : placesOf Try.prog 121 = some ((.agg #[(.slice none 0 0), (.slice none 0 0), (.slice none 0 0), (.slice none 0 0), (.slice none 0 0), (.int .i64 0), (.int .i64 0), (.int .i64 0), (.int .i64 0), (.int .i64 0)]), fun i => ([(0, 10)] : List (Nat × Nat)).toArray[i]?) := by kernel_rfl
theorem pl81 : placesOf Try.prog 81 = some ((.agg #[(.int .i64 0), (.bool false), (.slice none 0 0), (.slice none 0 0), (.slice none 0 0), (.slice none 0 0), (.slice none 0 0), (.slice none 0 0), (.int .i64 0), (.int .i64 0), (.int .i64 0), (.int .i64 0), (.int .i64 0), (.pointer none), (.slice none 0 0), (.slice none 0 0), (.slice none 0 0)]), fun i => ([(0, 3), (3, 10), (13, 1), (14, 1), (15, 1), (16, 1)] : List (Nat × Nat)).toArray[i]?) := by kernel_rfl
theorem sz28 : (Try.prog.info? 28).map (·.size) = some 1 := by kernel_rfl
theorem sz64 : (Try.prog.info? 64).map (·.size) = some 4 := by kernel_rfl
theorem sz78 : (Try.prog.info? 78).map (·.size) = some 1 := by kernel_rfl
theorem sz81 : (Try.prog.info? 81).map (·.size) = some 17 := by kernel_rfl
theorem ut50 : Try.prog.underlying 50 = some (.slice 64) := by kernel_rfl
theorem ze64 : (Try.prog.info? 64).bind (·.zero) = some (.agg #[(.int .i64 0), (.int .i64 0), (.int .i64 0), (.slice none 0 0)]) := by kernel_rfl
theorem ze81 : (Try.prog.info? 81).bind (·.zero) = some (.agg #[(.int .i64 0), (.bool false), (.slice none 0 0), (.slice none 0 0), (.slice none 0 0), (.slice none 0 0), (.slice none 0 0), (.slice none 0 0), (.int .i64 0), (.int .i64 0), (.int .i64 0), (.int .i64 0), (.int .i64 0), (.pointer none), (.slice none 0 0), (.slice none 0 0), (.slice none 0 0)]) := by kernel_rfl
abbrev Z5b (f : Fld) : List AV := [.one, .one, .q eIL f.parts, .one, .one, .one, .one, .one, .one, .one]
abbrev Z5a (f : Fld) : Nat → OSt := (updO noOb 51 (.live ⟨[.i f.id, .one, .one, .one, .one, .one, .one, .one, .one, .one, .one, .one, .one, .rp (Z5b f), .q eU8 f.st, .q eI f.ow, .one], 81, 1⟩))
theorem a_open (f : Fld) (s : Int) (hf : FldOk f) (hs : 0 ≤ s ∧ s < (f.st.length : Int)) : Fn Try.prog 58 [.agg [.v (.int .i64 f.id), .one, .one, .one, .one, .one, .one, .one, .one, .one, .one, .one, .one, .rp [.one, .one, .ro f.parts.length (enc eIL f.parts), .one, .one, .one, .one, .one, .one, .one], .ro f.st.length (enc eU8 f.st), .ro f.ow.length (enc eI f.ow), .one], .v (.int .i64 s)] (.v (.bool (openB f s))) := by
 have hz1 := hf.hs
 have hz2 := hf.hp
 have hz3 := hf.hpa
 have hz4 := hf.hst
 have hz5 := hf.how
 have hz6 := hf.hr
 have hz7 := hf.hsp
 have hz8 := hf.hro
 have hpo := hf.hpo s hs.1 hs.2
 refine fnE_of_body (N := 26) Try.func58 rfl rfl (resOf1 rfl) (by simp) (fun w0 X hL_ => ?_)
 refine seqR ?_
 refine oG (qW 51 ?_)
 refine mG (.b false) ?_
 refine op0 ?_
 refine awp_seq ?_
 refine seqR ?_
 refine fG (.pt 51 14) ft81_3 sz27 ?_
 refine oG (qL (.q eU8 f.st) ag27 ?_)
 refine mG (.i s) ?_
 refine oG (aop_ixI 0 rfl rfl rfl ut27 sz5 rfl rfl (fun _ => rfl) rfl om oo ?_)
 refine oG (qL (.v (.int .u8 (f.st.getD s.toNat 0))) ag5 ?_)
 refine rU (upd (upd (upd (upd none_ 1 (.i s)) 2 (.pt 51 0)) 4 (.b false)) 9 (.v (.int .u8 (f.st.getD s.toNat 0)))) (Z5a f) ?_
 refine awp_block ?_
 refine seqR ?_
 refine bG ((.bool ((f.st.getD s.toNat 0) == 0))) ?_
 refine mG (.b ((f.st.getD s.toNat 0) == 0)) ?_
 refine op0 ?_
 refine awp_cond ((f.st.getD s.toNat 0) == 0) rfl rfl (fun hc0 => ?_) (fun hc0 => ?_)
 ·skip
  have hf1 := (beq_iff_eq).1 hc0
  have h0_ := (beq_iff_eq).1 hc0
  refine seqR ?_
  refine mG (.b true) ?_
  refine op0 ?_
  refine awp_ret ?_
  exact fret (av := .v (.bool true)) rfl rfl (by rw [openB_0 h0_])
 have hf2 := (beq_eq_false_iff_ne).1 hc0
 have h0_ := (beq_eq_false_iff_ne).1 hc0
 refine seqR ?_
 refine bG ((.bool ((f.st.getD s.toNat 0) == 1))) ?_
 refine mG (.b ((f.st.getD s.toNat 0) == 1)) ?_
 refine rU (upd (upd (upd (upd none_ 1 (.i s)) 2 (.pt 51 0)) 4 (.b false)) 12 (.b ((f.st.getD s.toNat 0) == 1))) (Z5a f) ?_
 refine awp_cond ((f.st.getD s.toNat 0) == 1) rfl rfl (fun hc1 => ?_) (fun hc1 => ?_)
 ·skip
  have hf3 := (beq_iff_eq).1 hc1
  have h1_ := (beq_iff_eq).1 hc1
  refine awp_seq ?_
  refine aD 12 [(25, .b ((f.ow.getD (partI f.parts s).toNat 0) == f.id)), (24, .i f.id), (23, .pt 51 0), (22, .pt 51 0), (21, .i (f.ow.getD (partI f.parts s).toNat 0)), (20, .rp (([.i (f.ow.getD (partI f.parts s).toNat 0)] : List AV) ++ ((enc eI f.ow).drop (((partI f.parts s).toNat + 1) * 1)))), (19, .i (partI f.parts s)), (18, .i s), (17, .rp (Z5b f)), (16, .pt 51 13), (15, .q eI f.ow), (14, .pt 51 15)] mixed ?_ ?_
  ·refine ⟨?_, ?_, ?_, ?_, ?_, ?_, ?_, ?_, ?_, ?_, ?_, ?_, trivial⟩
   ·exact sF (.pt 51 0) (.pt 51 15) ft81_4 sz48
   ·exact sL ag48
   ·exact sF (.pt 51 0) (.pt 51 13) ft81_2 sz78
   ·exact sL ag78
   ·exact sMv
   ·exact dW 19 fun st hob hE => call_ (g_Part f.parts s hz3 hf.hpl) rfl rfl rfl rfl rfl bd70 (by show [st.env 17, st.env 18] ++ _ = _; rw [hE 17 rfl, hE 18 rfl]; rfl) (by rw [hob]; rfl)
   ·exact dW 20 fun st hob hE => aop_ixI 0 rfl rfl rfl ut48 sz3 (hE 15 rfl) (hE 19 rfl) (fun _ => rfl) rfl om oo (by rw [hob]; rfl)
   ·exact (sLd ag3)
   ·exact sF (.pt 51 0) (.pt 51 0) ft81_0 sz63
   ·exact sF (.pt 51 0) (.pt 51 0) ft63_0 sz3
   ·exact sL ag3
   exact sB (.bool ((f.ow.getD (partI f.parts s).toNat 0) == f.id)) rfl
  refine mG (.b ((f.ow.getD (partI f.parts s).toNat 0) == f.id)) ?_
  refine op0 ?_
  refine awp_ret ?_
  exact fret (av := .v (.bool ((f.ow.getD (partI f.parts s).toNat 0) == f.id))) rfl rfl (by rw [openB_1 h0_ h1_]; rfl)
 have hf4 := (beq_eq_false_iff_ne).1 hc1
 have h1_ := (beq_eq_false_iff_ne).1 hc1
 refine awp_skip ?_
 refine seqR ?_
 refine mG (.b false) ?_
 refine op0 ?_
 refine awp_ret ?_
 exact fret (av := .v (.bool false)) rfl rfl (by rw [openB_2 h0_ h1_])
abbrev Z5c (f : Fld) : List AV := [.one, .q eSec f.secs, .one, .q ePnt f.pts, .one, .one, .one, .one, .one, .one]
theorem a_step (f : Fld) (a : List Int) (i : Nat) (hf : FldOk f) (hpl : a.length ≤ 65536) (hi : i + 1 < a.length) : Fn Try.prog 57 [.agg [.one, .one, .one, .one, .one, .one, .one, .one, .one, .one, .one, .one, .one, .rp [.one, .ro f.secs.length (enc eSec f.secs), .one, .ro f.pts.length (enc ePnt f.pts), .one, .one, .one, .one, .one, .one], .one, .one, .ro f.right.length (enc eB f.right)], .ro a.length (enc eI a), .v (.int .i64 (i : Int))] (.v (.bool (stepB f a i))) := by
 have hz1 := hf.hs
 have hz2 := hf.hp
 have hz3 := hf.hpa
 have hz4 := hf.hst
 have hz5 := hf.how
 have hz6 := hf.hr
 have hz7 := hf.hsp
 have hz8 := hf.hro
 have ht2 : (a.take (i + 2)).length = i + 2 := by rw [List.length_take]; omega
 have ht1 : (a.take (i + 1)).length = i + 1 := by rw [List.length_take]; omega
 have hl2 := paL_len (secs := f.secs) (pts := f.pts) (path := (a.take (i + 2)))
 have hl1 := paL_len (secs := f.secs) (pts := f.pts) (path := (a.take (i + 1)))
 refine fnE_of_body (N := 41) Try.func57 rfl rfl (resOf1 rfl) (by simp) (fun w0 X hL_ => ?_)
 refine seqR ?_
 refine oG (qW 51 ?_)
 refine mG (.b false) ?_
 refine op0 ?_
 refine awp_seq ?_
 refine aD 11 [(7, .q eN (paL f.secs f.pts (a.take (i + 2)))), (20, .b (paB f.secs f.pts (a.take (i + 2)))), (19, .q eN (paL f.secs f.pts (a.take (i + 2)))), (11, .tup [.q eN (paL f.secs f.pts (a.take (i + 2))), .b (paB f.secs f.pts (a.take (i + 2)))]), (18, .tup [.q eN (paL f.secs f.pts (a.take (i + 2))), .b (paB f.secs f.pts (a.take (i + 2)))]), (17, .q eI (a.take (i + 2))), (16, .i ((i + 2 : Nat) : Int)), (15, .i (i : Int)), (14, .q eI a), (13, .rp (Z5c f)), (12, .pt 51 13)] mixed ?_ ?_
 ·refine ⟨?_, ?_, ?_, ?_, ?_, ?_, ?_, ?_, ?_, ?_, ?_, trivial⟩
  ·exact sF (.pt 51 0) (.pt 51 13) ft81_2 sz78
  ·exact sL ag78
  ·exact sMv
  ·exact sMv
  ·exact sB (.int .i64 ((i + 2 : Nat) : Int)) (addN2 om)
  ·exact dW 17 fun st hob hE => aop_sliceRoN (l := 0) (hgh := i + 2) (cells' := enc eI (a.take (i + 2))) ((a.take (i + 2))).length rfl rfl rfl ut48 sz3 (hE 14 rfl) rfl ⟨_, (hE 16 rfl)⟩ om oo (sliceE (f := eI) (fun _ => rfl) _ 0 _) (by simp; omega) (by rw [hob]; rfl)
  ·exact dW 18 fun st hob hE => call_ (g_Path f.secs f.pts (a.take (i + 2)) hz1 hz2 om) rfl rfl rfl rfl rfl bd68 (by show [st.env 13, st.env 17] ++ _ = _; rw [hE 13 rfl, hE 17 rfl]; rfl) (by rw [hob]; rfl)
  ·exact sMv
  ·exact dW 19 fun st hob hE => aop_extract rfl rfl rfl (hE 11 rfl) rfl (by rw [hob]; rfl)
  ·exact dW 20 fun st hob hE => aop_extract rfl rfl rfl (hE 11 rfl) rfl (by rw [hob]; rfl)
  exact sMv
 refine mG (.b (paB f.secs f.pts (a.take (i + 2)))) ?_
 refine op0 ?_
 refine awp_seq ?_
 refine aD 11 [(9, .q eN (paL f.secs f.pts (a.take (i + 1)))), (30, .b (paB f.secs f.pts (a.take (i + 1)))), (29, .q eN (paL f.secs f.pts (a.take (i + 1)))), (21, .tup [.q eN (paL f.secs f.pts (a.take (i + 1))), .b (paB f.secs f.pts (a.take (i + 1)))]), (28, .tup [.q eN (paL f.secs f.pts (a.take (i + 1))), .b (paB f.secs f.pts (a.take (i + 1)))]), (27, .q eI (a.take (i + 1))), (26, .i ((i + 1 : Nat) : Int)), (25, .i (i : Int)), (24, .q eI a), (23, .rp (Z5c f)), (22, .pt 51 13)] mixed ?_ ?_
 ·refine ⟨?_, ?_, ?_, ?_, ?_, ?_, ?_, ?_, ?_, ?_, ?_, trivial⟩
  ·exact sF (.pt 51 0) (.pt 51 13) ft81_2 sz78
  ·exact sL ag78
  ·exact sMv
  ·exact sMv
  ·exact sB (.int .i64 ((i + 1 : Nat) : Int)) (addN om)
  ·exact dW 27 fun st hob hE => aop_sliceRoN (l := 0) (hgh := i + 1) (cells' := enc eI (a.take (i + 1))) ((a.take (i + 1))).length rfl rfl rfl ut48 sz3 (hE 24 rfl) rfl ⟨_, (hE 26 rfl)⟩ om oo (sliceE (f := eI) (fun _ => rfl) _ 0 _) (by simp; omega) (by rw [hob]; rfl)
  ·exact dW 28 fun st hob hE => call_ (g_Path f.secs f.pts (a.take (i + 1)) hz1 hz2 om) rfl rfl rfl rfl rfl bd68 (by show [st.env 23, st.env 27] ++ _ = _; rw [hE 23 rfl, hE 27 rfl]; rfl) (by rw [hob]; rfl)
  ·exact sMv
  ·exact dW 29 fun st hob hE => aop_extract rfl rfl rfl (hE 21 rfl) rfl (by rw [hob]; rfl)
  ·exact dW 30 fun st hob hE => aop_extract rfl rfl rfl (hE 21 rfl) rfl (by rw [hob]; rfl)
  exact sMv
 refine mG (.b (paB f.secs f.pts (a.take (i + 1)))) ?_
 refine op0 ?_
 refine rT (upd (upd (upd (upd none_ 3 (.pt 51 0)) 6 (.b false)) 7 (.q eN (paL f.secs f.pts (a.take (i + 2))))) 9 (.q eN (paL f.secs f.pts (a.take (i + 1))))) (updO noOb 51 (.live ⟨[.one, .one, .one, .one, .one, .one, .one, .one, .one, .one, .one, .one, .one, .rp (Z5c f), .one, .one, .q eB f.right], 81, 1⟩)) ?_
 refine awp_seq ?_
 refine aD 10 [(40, .b (!(((paL f.secs f.pts (a.take (i + 2))).drop (min (paL f.secs f.pts (a.take (i + 1))).length (paL f.secs f.pts (a.take (i + 2))).length)).any (wrB f.right)))), (39, .q eB f.right), (38, .pt 51 16), (37, .q eN ((paL f.secs f.pts (a.take (i + 2))).drop (min (paL f.secs f.pts (a.take (i + 1))).length (paL f.secs f.pts (a.take (i + 2))).length))), (36, .i ((min (paL f.secs f.pts (a.take (i + 1))).length (paL f.secs f.pts (a.take (i + 2))).length : Nat) : Int)), (35, .i ((paL f.secs f.pts (a.take (i + 2))).length : Int)), (34, .q eN (paL f.secs f.pts (a.take (i + 2)))), (33, .i ((paL f.secs f.pts (a.take (i + 1))).length : Int)), (32, .q eN (paL f.secs f.pts (a.take (i + 1)))), (31, .q eN (paL f.secs f.pts (a.take (i + 2))))] mixed ?_ ?_
 ·refine ⟨?_, ?_, ?_, ?_, ?_, ?_, ?_, ?_, ?_, ?_, trivial⟩
  ·exact sMv
  ·exact sMv
  ·exact dW 33 fun st hob hE => aop_len rfl rfl rfl rfl ut131 (len_ro (hE 32 rfl)) (by rw [hob]; rfl)
  ·exact sMv
  ·exact dW 35 fun st hob hE => aop_len rfl rfl rfl rfl ut131 (len_ro (hE 34 rfl)) (by rw [hob]; rfl)
  ·exact dW 36 fun st hob hE => aop_min (r := ((min (paL f.secs f.pts (a.take (i + 1))).length (paL f.secs f.pts (a.take (i + 2))).length : Nat) : Int)) rfl rfl rfl rfl (hE 33 rfl) (hE 35 rfl) (minI (by split <;> omega)) (by rw [hob]; rfl)
  ·exact dW 37 fun st hob hE => aop_sliceRoN (l := min (paL f.secs f.pts (a.take (i + 1))).length (paL f.secs f.pts (a.take (i + 2))).length) (hgh := ((paL f.secs f.pts (a.take (i + 2))).length)) (cells' := enc eN ((paL f.secs f.pts (a.take (i + 2))).drop (min (paL f.secs f.pts (a.take (i + 1))).length (paL f.secs f.pts (a.take (i + 2))).length))) (((paL f.secs f.pts (a.take (i + 2))).drop (min (paL f.secs f.pts (a.take (i + 1))).length (paL f.secs f.pts (a.take (i + 2))).length))).length rfl rfl rfl ut131 sz140 (hE 31 rfl) ⟨_, (hE 36 rfl)⟩ rfl oo oo (sliceE1 (f := eN) (fun _ => rfl) _ _ _ rfl) oz (by rw [hob]; rfl)
  ·exact sF (.pt 51 0) (.pt 51 16) ft81_5 sz28
  ·exact sL ag28
  exact dW 40 fun st hob hE => call_ (p_Stands (stepL f a i) f.right (by unfold stepL; rw [List.length_drop]; omega) om) rfl rfl rfl rfl rfl bd69 (by show [st.env 37, st.env 39] ++ _ = _; rw [hE 37 rfl, hE 39 rfl]; rfl) (by rw [hob]; rfl)
 refine mG (.b (!(((paL f.secs f.pts (a.take (i + 2))).drop (min (paL f.secs f.pts (a.take (i + 1))).length (paL f.secs f.pts (a.take (i + 2))).length)).any (wrB f.right)))) ?_
 refine op0 ?_
 refine awp_ret ?_
 exact fret (av := .v (.bool (!(((paL f.secs f.pts (a.take (i + 2))).drop (min (paL f.secs f.pts (a.take (i + 1))).length (paL f.secs f.pts (a.take (i + 2))).length)).any (wrB f.right))))) rfl rfl rfl
abbrev Z5i : Nat → AV := (upd (upd (upd (upd none_ 2 (.pt 51 0)) 3 (.pt 52 0)) 4 vN) 5 (.b false))
abbrev Z5h (c : List Int) : Nat → AV := (upd (upd (upd (upd none_ 2 (.pt 2 0)) 4 vN) 5 (.b false)) 6 (.q eI c))
abbrev Z5f (c ps : List Int) (k : Nat) : Nat → AV := (upd (upd (upd (upd (upd (upd (upd (upd (upd (upd none_ 2 (.pt 2 0)) 4 (.sl 1 0 ((pcO c ps k).length))) 5 (.b false)) 6 (.q eI c)) 7 (.sl 1 0 ((pcO c ps k).length))) 8 (.i (k : Int))) 9 (.v (.int .u8 (ps.getD k 0)))) 18 (.q eU8 ps)) 19 (.i (ps.length : Int))) 20 (.i (k : Int)))
abbrev Z5d (f : Fld) : List AV := [.i f.id, .one, .one, .one, .one, .one, .one, .q eIL f.routes, .one, .one, .one, .one, .one, .rp [.one, .q eSec f.secs, .q eIL f.parts, .q ePnt f.pts, .one, .one, .one, .one, .one, .one], .q eU8 f.st, .q eI f.ow, .q eB f.right]
abbrev Z5g (f : Fld) (r : Int) (ps : List Int) : Nat → OSt := (updO (updO noOb 51 (.live ⟨(Z5d f), 81, 1⟩)) 52 (.live ⟨[.i r, .one, .one, .q eU8 ps], 64, 1⟩))
abbrev Z5e (c ps : List Int) (k : Nat) (f : Fld) : Nat → OSt := (updO (updO noOb 1 (.live ⟨(enc eI (pcO c ps k)), 3, 1⟩)) 2 (.live ⟨(Z5d f), 81, 1⟩))
theorem a_pieces (f : Fld) (r : Int) (c ps : List Int) (hf : FldOk f) (hr : 0 ≤ r ∧ r < (f.routes.length : Int)) (e : f.routes.getD r.toNat [] = c) (hps : ps.length + 1 ≤ c.length) : Fn Try.prog 36 [.agg [.v (.int .i64 f.id), .one, .one, .one, .one, .one, .one, .ro f.routes.length (enc eIL f.routes), .one, .one, .one, .one, .one, .rp [.one, .ro f.secs.length (enc eSec f.secs), .ro f.parts.length (enc eIL f.parts), .ro f.pts.length (enc ePnt f.pts), .one, .one, .one, .one, .one, .one], .ro f.st.length (enc eU8 f.st), .ro f.ow.length (enc eI f.ow), .ro f.right.length (enc eB f.right)], .agg [.v (.int .i64 r), .one, .one, .ro ps.length (enc eU8 ps)]] (.tup [.ro ((pcF f c ps).1.length) (enc eI ((pcF f c ps).1)), .v (.bool ((pcF f c ps).2))]) := by
 have hz1 := hf.hs
 have hz2 := hf.hp
 have hz3 := hf.hpa
 have hz4 := hf.hst
 have hz5 := hf.how
 have hz6 := hf.hr
 have hz7 := hf.hsp
 have hz8 := hf.hro
 have hmem : c ∈ f.routes := by rw [← e]; exact getD_mem [] om
 have hpl := hf.hrl c hmem
 refine fnE_of_body (N := 53) Try.func36 rfl rfl (resOf2 rfl) (by simp) (fun w0 X hL_ => ?_)
 refine seqR ?_
 refine oG (qW 51 ?_)
 refine oG (qW 52 ?_)
 refine mG vN ?_
 refine mG (.b false) ?_
 refine rU Z5i (Z5g f r ps) ?_
 refine seqR ?_
 refine fG (.pt 51 3) ft81_1 sz39 ?_
 refine fG (.pt 51 7) ft39_4 sz36 ?_
 refine oG (qL (.q eIL f.routes) ag36 ?_)
 refine fG (.pt 52 0) ft64_0 sz3 ?_
 refine oG (qL (.i r) ag3 ?_)
 refine oG (aop_ixI [] rfl rfl rfl ut36 sz48 rfl rfl (fun _ => rfl) rfl om oo ?_)
 refine oG (aop_eqv (d := 16) (a := .q eI (f.routes.getD r.toNat [])) (b := .q eI c) (aop_ld (av := .q eI (f.routes.getD r.toNat [])) rfl rfl rfl ag48 rfl rfl rfl) (by rw [e]) ?_)
 refine mG (.q eI c) ?_
 refine rU (upd Z5i 6 (.q eI c)) (Z5g f r ps) ?_
 refine seqR ?_
 refine mG vN ?_
 refine op0 ?_
 refine awp_seq ?_
 refine seqR ?_
 refine fG (.pt 52 3) ft64_3 sz27 ?_
 refine oG (qL (.q eU8 ps) ag27 ?_)
 refine oG (qN ut27 ?_)
 refine mG (.i 0) ?_
 refine rU (upd (upd (upd (upd (upd (upd (upd (upd none_ 2 (.pt 51 0)) 4 vN) 5 (.b false)) 6 (.q eI c)) 7 vN) 18 (.q eU8 ps)) 19 (.i (ps.length : Int))) 20 (.i 0)) (Z5g f r ps) ?_
 refine awp_block ?_
 refine awp_countI (fun k => ⟨(upd (upd (upd (upd (Z5h c) 7 (.sl 1 0 ((pcO c ps k).length))) 18 (.q eU8 ps)) 19 (.i (ps.length : Int))) 20 (.i (k : Int))), (Z5e c ps k f)⟩) (fun k => pcR f c (ps.drop k) k (pcO c ps k) = (pcF f c ps)) (ps.length) ?_ rfl (fun k hk_k hinv => ?_)
 ·skip
  refine (imp_adopt 7 53 3 1 rfl rfl).trans ?_
  exact iL [(53, 1), (51, 2)] [((53, 1), .live _), ((51, 2), .live _)] ⟨row_no (o := ⟨[], 3, 1⟩) rfl rfl, row_no rfl rfl, trivial⟩
 have hpol := pcO_len c ps k
 refine seqR ?_
 refine bG ((.bool (decide ((k : Int) < (ps.length : Int))))) ?_
 refine op0 ?_
 refine awp_seq ?_
 refine awp_cond (decide ((k : Int) < (ps.length : Int))) rfl rfl (fun hc0 => ?_) (fun hc0 => ?_)
 ·skip
  have hf1 := of_decide_eq_true hc0
  have hkp : k + 1 < c.length := by omega
  have hsr := hf.hrs c hmem _ (getD_mem (l := c) (k := k + 1) 0 hkp)
  refine awp_skip ?_
  refine awp_seq ?_
  refine awp_block ?_
  refine seqR ?_
  refine mG (.i (k : Int)) ?_
  refine oG (qX (0 : Int) ut27 sz5 ?_)
  refine oG (qL (.v (.int .u8 (ps.getD k 0))) ag5 ?_)
  refine mG (.i (k : Int)) ?_
  refine mG (.v (.int .u8 (ps.getD k 0))) ?_
  refine rU (upd (upd (upd (upd (upd (upd (Z5h c) 7 (.sl 1 0 ((pcO c ps k).length))) 8 (.i (k : Int))) 9 (.v (.int .u8 (ps.getD k 0)))) 18 (.q eU8 ps)) 19 (.i (ps.length : Int))) 20 (.i (k : Int))) (Z5e c ps k f) ?_
  refine awp_seq ?_
  refine seqR ?_
  refine mG (.v (.int .u8 (ps.getD k 0))) ?_
  refine bG ((.bool ((ps.getD k 0) == 0))) ?_
  refine op0 ?_
  refine awp_cond ((ps.getD k 0) == 0) rfl rfl (fun hc1 => ?_) (fun hc1 => ?_)
  ·skip
   have hf2 := (beq_iff_eq).1 hc1
   have hz_ : ps.getD k 0 = 0 := (beq_iff_eq).1 hc1
   refine awp_exit ?_
   refine regR ?_
   refine oG (qB (.int .i64 ((k + 1 : Nat) : Int)) (addN om) ?_)
   refine mG (.i ((k + 1 : Nat) : Int)) ?_
   refine op0 ?_
   show _ ∧ _
   have hs_ := pcO_no (path := c) (ps := ps) (k := k) hz_
   refine ⟨by omega, (by first | exact pc_no om hinv hz_ | exact pc_on om hinv hz_ hok), ?_⟩
   exact iL [(1, 1), (2, 2)] [((1, 1), .live _), ((2, 2), .live _)] ⟨row_no rfl (by exact congrArg (fun l_ => LObj.mk (enc eI l_) 3 1) hs_), row_no rfl rfl, trivial⟩ (he := (sS rfl (sS rfl (sS rfl (sM (by exact congrArg (AV.sl 1 0) (congrArg List.length hs_.symm)) (sS rfl (sS rfl (sS rfl (sM rfl sr_none)))))))))
  have hf3 := (beq_eq_false_iff_ne).1 hc1
  have hz_ : ¬ ps.getD k 0 = 0 := (beq_eq_false_iff_ne).1 hc1
  refine awp_skip ?_
  refine awp_seq ?_
  refine awp_seq ?_
  refine (Bool.eq_false_or_eq_true (!(stepB f c k))).elim (fun hq0 => ?_) (fun hq0 => ?_)
  ·skip
   have hf5 := not_t hq0
   have hst_ : stepB f c k = false := by simpa using hq0
   have hok : okB f c k = false := by unfold okB; rw [hst_]; rfl
   have hO := pc_cut om hinv hz_ hok
   refine aD 15 [(41, .b true), (40, .v undef), (39, .v undef), (38, .v undef), (37, .v undef), (36, .v undef), (35, .v undef), (34, .v undef), (33, .v undef), (32, .b (!(stepB f c k))), (31, .b (!(stepB f c k))), (30, .b (stepB f c k)), (29, .i (k : Int)), (28, .q eI c), (27, .agg (Z5d f))] mixed ?_ ?_
   ·iterate 15 (refine ⟨?_, ?_⟩; rotate_left)
    trivial
    ·exact sLB (Z5d f) ag81 sz81
    ·exact sMv
    ·exact sMv
    ·exact sC (a_step f c k hf om hkp) bd57
    ·exact dW 31 fun st hob hE => aop_not rfl rfl rfl (hE 30 rfl) (by rw [hob]; rfl)
    ·exact sMv
    ·exact gn0 hq0
    ·exact gn0 hq0
    ·exact gn0 hq0
    ·exact gn0 hq0
    ·exact gn0 hq0
    ·exact gn0 hq0
    ·exact gn0 hq0
    ·exact gn0 hq0
    exact sPk (!(stepB f c k)) (.b true) hq0
   refine op0 ?_
   refine awp_cond true rfl rfl (fun _ => ?_) (fun h => by cases h)
   refine seqR ?_
   refine mG (.sl 1 0 ((pcO c ps k).length)) ?_
   refine mG (.sl 1 0 ((pcO c ps k).length)) ?_
   refine mG (.b false) ?_
   refine rU (Z5f c ps k) (Z5e c ps k f) ?_
   refine awp_imp _ (imp_frozen rfl (fun _ h => h) (lee_lend 5 (.b false) (lend_n (av := .b false)) (lee_lend 4 (.q eI (pcO c ps k)) (lend_s (id := 1) (n := (pcO c ps k).length) (o := ⟨(enc eI (pcO c ps k)), 3, 1⟩) rfl (enc_len (fun _ => rfl) (by first | rfl | (simp; done)))) lee_lend0))) ?_
   refine awp_ret ?_
   exact fret (av := .tup [.ro ((pcO c ps k).length) (enc eI (pcO c ps k)), .v (.bool false)]) rfl rfl (by rw [hO])
  have hf6 := not_f hq0
  have hst_ : stepB f c k = true := by simpa using hq0
  refine aD 15 [(41, .b (!(openB f (c.getD (k + 1) 0)))), (40, .b (!(openB f (c.getD (k + 1) 0)))), (39, .b (openB f (c.getD (k + 1) 0))), (38, .i (c.getD (k + 1) 0)), (37, .rp (([.i (c.getD (k + 1) 0)] : List AV) ++ ((enc eI c).drop (((k + 1) + 1) * 1)))), (36, .i ((k + 1 : Nat) : Int)), (35, .i (k : Int)), (34, .q eI c), (33, .agg (Z5d f)), (32, .b (!(stepB f c k))), (31, .b (!(stepB f c k))), (30, .b (stepB f c k)), (29, .i (k : Int)), (28, .q eI c), (27, .agg (Z5d f))] mixed ?_ ?_
  ·iterate 15 (refine ⟨?_, ?_⟩; rotate_left)
   trivial
   ·exact sLB (Z5d f) ag81 sz81
   ·exact sMv
   ·exact sMv
   ·exact sC (a_step f c k hf om hkp) bd57
   ·exact dW 31 fun st hob hE => aop_not rfl rfl rfl (hE 30 rfl) (by rw [hob]; rfl)
   ·exact sMv
   ·exact gy0 hq0 (sLB (Z5d f) ag81 sz81)
   ·exact gy0 hq0 sMv
   ·exact gy0 hq0 sMv
   ·exact gy0 hq0 (sB (.int .i64 ((k + 1 : Nat) : Int)) (addN om))
   ·exact gy0 hq0 (sIx (0 : Int) ut48 sz3)
   ·exact gy0 hq0 (sLd ag3)
   ·exact gy0 hq0 (sC (a_open f (c.getD (k + 1) 0) hf hsr) bd58)
   ·exact gy0 hq0 (dW 40 fun st hob hE => aop_not rfl rfl rfl (hE 39 rfl) (by rw [hob]; rfl))
   exact dW 41 fun st hob hE => aop_pick (b := (!(stepB f c k))) (av := .b (!(openB f (c.getD (k + 1) 0)))) rfl rfl rfl (hE 32 rfl) (by rw [hq0]; exact hE 40 rfl) (by rw [hob]; rfl)
  refine op0 ?_
  refine awp_cond (!(openB f (c.getD (k + 1) 0))) rfl rfl (fun hc2 => ?_) (fun hc2 => ?_)
  ·skip
   have hf7 := not_t hc2
   have hok : okB f c k = false := by unfold okB; rw [hst_, Bool.true_and]; simpa using hc2
   have hO := pc_cut om hinv hz_ hok
   refine seqR ?_
   refine mG (.sl 1 0 ((pcO c ps k).length)) ?_
   refine mG (.sl 1 0 ((pcO c ps k).length)) ?_
   refine mG (.b false) ?_
   refine rU (Z5f c ps k) (Z5e c ps k f) ?_
   refine awp_imp _ (imp_frozen rfl (fun _ h => h) (lee_lend 5 (.b false) (lend_n (av := .b false)) (lee_lend 4 (.q eI (pcO c ps k)) (lend_s (id := 1) (n := (pcO c ps k).length) (o := ⟨(enc eI (pcO c ps k)), 3, 1⟩) rfl (enc_len (fun _ => rfl) (by first | rfl | (simp; done)))) lee_lend0))) ?_
   refine awp_ret ?_
   exact fret (av := .tup [.ro ((pcO c ps k).length) (enc eI (pcO c ps k)), .v (.bool false)]) rfl rfl (by rw [hO])
  have hf8 := not_f hc2
  have hok : okB f c k = true := by unfold okB; rw [hst_, Bool.true_and]; simpa using hc2
  refine awp_skip ?_
  refine regR ?_
  refine mG (.sl 1 0 ((pcO c ps k).length)) ?_
  refine mG (.q eI c) ?_
  refine mG (.i (k : Int)) ?_
  refine oG (qB (.int .i64 ((k + 1 : Nat) : Int)) (addN om) ?_)
  refine oG (qX (0 : Int) ut48 sz3 ?_)
  refine oG (qL (.i (c.getD (k + 1) 0)) ag3 ?_)
  refine oG (aop_lit rfl rfl rfl ut48 iz3 (by decide) (by decide) rfl rfl ?_)
  refine oG (aop_app1 (f := eI) (l := pcO c ps k) 54 (c.getD (k + 1) 0 : Int) rfl rfl rfl rfl ut48 in3 rfl (by decide) rfl rfl rfl rfl rfl rfl (fun _ => rfl) rfl rfl oo oo rfl ?_)
  refine mG (.sl 54 0 (((pcO c ps k) ++ [(c.getD (k + 1) 0 : Int)]).length)) ?_
  refine op0 ?_
  refine rT (upd (upd (upd (upd (upd (upd (Z5h c) 7 (.sl 54 0 (((pcO c ps k) ++ [(c.getD (k + 1) 0 : Int)]).length))) 8 (.i (k : Int))) 9 (.v (.int .u8 (ps.getD k 0)))) 18 (.q eU8 ps)) 19 (.i (ps.length : Int))) 20 (.i (k : Int))) (updO (updO (Z5e c ps k f) 1 .dead) 54 (.live ⟨(enc eI ((pcO c ps k) ++ [(c.getD (k + 1) 0 : Int)])), 3, 1⟩)) ?_
  refine regR ?_
  refine oG (qB (.int .i64 ((k + 1 : Nat) : Int)) (addN om) ?_)
  refine mG (.i ((k + 1 : Nat) : Int)) ?_
  refine op0 ?_
  show _ ∧ _
  have hs_ := pcO_on (path := c) (ps := ps) (k := k) hz_
  refine ⟨by omega, (by first | exact pc_no om hinv hz_ | exact pc_on om hinv hz_ hok), ?_⟩
  exact iL [(54, 1), (2, 2)] [((54, 1), .live _), ((2, 2), .live _)] ⟨row_no rfl (by exact congrArg (fun l_ => LObj.mk (enc eI l_) 3 1) hs_), row_no rfl rfl, trivial⟩ (he := (sS rfl (sS rfl (sS rfl (sM (by exact congrArg (AV.sl 1 0) (congrArg List.length hs_.symm)) (sS rfl (sS rfl (sS rfl (sM rfl sr_none)))))))))
 have hf9 := of_decide_eq_false hc0
 have hO := pc_end om hinv
 refine awp_exit ?_
 refine seqR ?_
 refine mG (.sl 1 0 ((pcO c ps k).length)) ?_
 refine mG (.sl 1 0 ((pcO c ps k).length)) ?_
 refine mG (.b true) ?_
 refine rU (upd (upd none_ 4 (.sl 1 0 ((pcO c ps k).length))) 5 (.b true)) (Z5e c ps k f) ?_
 refine awp_imp _ (imp_frozen rfl (fun _ h => h) (lee_lend 5 (.b true) (lend_n (av := .b true)) (lee_lend 4 (.q eI (pcO c ps k)) (lend_s (id := 1) (n := (pcO c ps k).length) (o := ⟨(enc eI (pcO c ps k)), 3, 1⟩) rfl (enc_len (fun _ => rfl) (by first | rfl | (simp; done)))) lee_lend0))) ?_
 refine awp_ret ?_
 exact fret (av := .tup [.ro ((pcO c ps k).length) (enc eI (pcO c ps k)), .v (.bool true)]) rfl rfl (by rw [hO])
abbrev Z5j (f : Fld) (r : Int) : Nat → OSt := (updO (updO noOb 51 (.live ⟨[.one, .one, .q eI f.span, .one, .one, .one, .one, .q eIL f.routes, .one, .one, .one, .one, .one, .one, .one, .one, .one], 81, 1⟩)) 52 (.live ⟨[.i r, .one, .one, .one], 64, 1⟩))
theorem a_counts (f : Fld) (r : Int) (e c : List Int) (hf : FldOk f) (hr : 0 ≤ r ∧ r < (f.routes.length : Int)) (g : f.routes.getD r.toNat [] = e) (hla : c.length ≤ 65536) : Fn Try.prog 35 [.agg [.one, .one, .ro f.span.length (enc eI f.span), .one, .one, .one, .one, .ro f.routes.length (enc eIL f.routes), .one, .one, .one, .one, .one, .one, .one, .one, .one], .agg [.v (.int .i64 r), .one, .one, .one], .ro c.length (enc eI c)] (.v (.bool (cntB f e c))) := by
 have hz1 := hf.hs
 have hz2 := hf.hp
 have hz3 := hf.hpa
 have hz4 := hf.hst
 have hz5 := hf.how
 have hz6 := hf.hr
 have hz7 := hf.hsp
 have hz8 := hf.hro
 have hmem : e ∈ f.routes := by rw [← g]; exact getD_mem [] om
 have hpl := hf.hrl e hmem
 refine fnE_of_body (N := 33) Try.func35 rfl rfl (resOf1 rfl) (by simp) (fun w0 X hL_ => ?_)
 refine seqR ?_
 refine oG (qW 51 ?_)
 refine oG (qW 52 ?_)
 refine mG (.b false) ?_
 refine op0 ?_
 refine seqR ?_
 refine fG (.pt 51 3) ft81_1 sz39 ?_
 refine fG (.pt 51 7) ft39_4 sz36 ?_
 refine oG (qL (.q eIL f.routes) ag36 ?_)
 refine fG (.pt 52 0) ft64_0 sz3 ?_
 refine oG (qL (.i r) ag3 ?_)
 refine oG (aop_ixI [] rfl rfl rfl ut36 sz48 rfl rfl (fun _ => rfl) rfl om oo ?_)
 refine oG (aop_eqv (d := 14) (a := .q eI (f.routes.getD r.toNat [])) (b := .q eI e) (aop_ld (av := .q eI (f.routes.getD r.toNat [])) rfl rfl rfl ag48 rfl rfl rfl) (by rw [g]) ?_)
 refine mG (.q eI e) ?_
 refine rU (upd (upd (upd (upd none_ 2 (.q eI c)) 3 (.pt 51 0)) 6 (.b false)) 7 (.q eI e)) (Z5j f r) ?_
 refine awp_seq ?_
 refine seqR ?_
 refine mG (.q eI c) ?_
 refine oG (qN ut48 ?_)
 refine bG ((.bool ((c.length : Int) == 0))) ?_
 refine op0 ?_
 refine awp_cond ((c.length : Int) == 0) rfl rfl (fun hc0 => ?_) (fun hc0 => ?_)
 ·skip
  have hf1 := (beq_iff_eq).1 hc0
  have h0_ : c.length = 0 := by have := (beq_iff_eq).1 hc0; omega
  refine seqR ?_
  refine fG (.pt 51 0) ft81_0 sz63 ?_
  refine fG (.pt 51 2) ft63_2 sz48 ?_
  refine oG (qL (.q eI f.span) ag48 ?_)
  refine mG (.q eI e) ?_
  refine oG (qJ (c_Meets f.span e om om) bd56 ?_)
  refine mG (.b (f.span.any (fun s => decide (s ∈ e)))) ?_
  refine rU (upd (upd (upd none_ 2 (.q eI c)) 6 (.b (f.span.any (fun s => decide (s ∈ e))))) 7 (.q eI e)) (Z5j f r) ?_
  refine awp_ret ?_
  exact fret (av := .v (.bool (f.span.any (fun s => decide (s ∈ e))))) rfl rfl (by unfold cntB; rw [if_pos h0_])
 have hf2 := (beq_eq_false_iff_ne).1 hc0
 have h0_ : ¬ c.length = 0 := by have := (beq_eq_false_iff_ne).1 hc0; omega
 refine awp_skip ?_
 refine awp_seq ?_
 refine aD 10 [(32, .b ((e.getD 0 0) == (c.getD ((c.length : Int) - 1).toNat 0))), (31, .i (c.getD ((c.length : Int) - 1).toNat 0)), (30, .rp (([.i (c.getD ((c.length : Int) - 1).toNat 0)] : List AV) ++ ((enc eI c).drop ((((c.length : Int) - 1).toNat + 1) * 1)))), (29, .i ((c.length : Int) - 1)), (28, .i (c.length : Int)), (27, .q eI c), (26, .q eI c), (25, .i (e.getD 0 0)), (24, .rp (([.i (e.getD 0 0)] : List AV) ++ ((enc eI e).drop ((0 + 1) * 1)))), (23, .q eI e)] mixed ?_ ?_
 ·refine ⟨?_, ?_, ?_, ?_, ?_, ?_, ?_, ?_, ?_, ?_, trivial⟩
  ·exact sMv
  ·exact dW 24 fun st hob hE => aop_ixE (k := 0) 0 rfl rfl rfl ut48 sz3 (hE 23 rfl) rfl (fun _ => rfl) rfl oo (by rw [hob]; rfl)
  ·exact (sLd ag3)
  ·exact sMv
  ·exact sMv
  ·exact dW 28 fun st hob hE => aop_len rfl rfl rfl rfl ut48 (len_ro (hE 27 rfl)) (by rw [hob]; rfl)
  ·exact sB (.int .i64 ((c.length : Int) - 1)) (subI om)
  ·exact dW 30 fun st hob hE => aop_ixI 0 rfl rfl rfl ut48 sz3 (hE 26 rfl) (hE 29 rfl) (fun _ => rfl) rfl om oo (by rw [hob]; rfl)
  ·exact (sLd ag3)
  exact sB (.bool ((e.getD 0 0) == (c.getD ((c.length : Int) - 1).toNat 0))) rfl
 refine mG (.b ((e.getD 0 0) == (c.getD ((c.length : Int) - 1).toNat 0))) ?_
 refine op0 ?_
 refine rT (upd none_ 6 (.b ((e.getD 0 0) == (c.getD ((c.length : Int) - 1).toNat 0)))) (Z5j f r) ?_
 refine awp_ret ?_
 exact fret (av := .v (.bool ((e.getD 0 0) == (c.getD ((c.length : Int) - 1).toNat 0)))) rfl rfl (by unfold cntB; rw [if_neg h0_, show c.length - 1 = ((c.length : Int) - 1).toNat by omega]; rfl)
theorem a_Of1 (t i : Int)  : Fn Try.prog 34 [.agg [.one, .v (.int .i64 t), .one, .one], .rp [.v (.int .i64 i)]] (.v (.bool (!decide (t = i)))) := by
 refine fnE_of_body (N := 8) Try.func34 rfl rfl (resOf1 rfl) (by simp) (fun w0 X hL_ => ?_)
 refine seqR ?_
 refine oG (qW 51 ?_)
 refine mG (.b false) ?_
 refine op0 ?_
 refine seqR ?_
 refine fG (.pt 51 1) ft64_1 sz3 ?_
 refine oG (qL (.i t) ag3 ?_)
 refine oG (qL (.i i) ag3 ?_)
 refine bG ((.bool (t != i))) ?_
 refine mG (.b (t != i)) ?_
 refine rU (upd none_ 3 (.b (t != i))) (updO noOb 51 (.live ⟨[.one, .i t, .one, .one], 64, 1⟩)) ?_
 refine awp_ret ?_
 exact fret (av := .v (.bool (t != i))) rfl rfl (by rw [bne_dec])
theorem cl_Lk (l : List Lk) (hl : l.length ≤ 4294967296) : FnO Try.prog 33 [.ro l.length (enc eLk l)] (.sl 0 0 l.length) [⟨(enc eLk l), 64, 4⟩] := by
 refine fnE_of_body (N := 8) Try.func33 rfl rfl (resOf1 rfl) (by simp) (fun w0 X hL_ => ?_)
 refine seqR ?_
 refine mG vN ?_
 refine op0 ?_
 refine awp_seq ?_
 refine seqR ?_
 refine mG (.q eLk l) ?_
 refine oG (aop_slNil rfl rfl rfl ut50 rfl rfl (.inl rfl) (fun b4_ hb4_ => ?_))
 refine op0 ?_
 refine awp_cond b4_ rfl rfl (fun hc0 => ?_) (fun hc0 => ?_)
 ·skip
  have h0 : l.length = 0 := Decidable.byContradiction fun h => by have := hb4_ h; rw [hc0] at this; cases this
  refine seqR ?_
  refine mG vN ?_
  refine rU (upd (upd none_ 0 (.q eLk l)) 2 vN) noOb ?_
  refine awp_imp _ (imp_adopt 2 51 64 4 rfl rfl) ?_
  refine awp_ret ?_
  exact fretO 51 rfl rfl rfl h0.symm (by rw [List.length_eq_zero_iff.1 h0]; rfl)
 refine awp_skip ?_
 refine seqR ?_
 refine oG (aop_litO 52 rfl rfl rfl ut50 iz64 (by decide) (by decide) rfl rfl rfl rfl ?_)
 refine mG (.q eLk l) ?_
 refine oG (aop_appE (f := eLk) (l := ([] : List Lk)) (l2 := l) 53 rfl rfl rfl rfl ut50 in64 rfl (by decide) rfl rfl rfl rfl rfl rfl (fun _ => rfl) rfl rfl rfl oo oo rfl ?_)
 refine mG (.sl 53 0 ((([] : List Lk) ++ l).length)) ?_
 refine rU (upd none_ 2 (.sl 53 0 ((([] : List Lk) ++ l).length))) (updO (updO (updO noOb 52 (.live ⟨[], 64, 4⟩)) 52 .dead) 53 (.live ⟨(enc eLk (([] : List Lk) ++ l)), 64, 4⟩)) ?_
 refine awp_ret ?_
 exact fretO 53 rfl rfl rfl rfl rfl
abbrev Z5k (l : List Lk) (i : Int) : Nat → AV := (upd (upd (upd none_ 0 (.q eLk l)) 1 (.fn 34 [.rp [.i i]])) 4 (.i 0))
theorem ixLk (l : List Lk) (i : Int) (hl : l.length ≤ 4294967296)  : Fn Try.prog 55 [.ro l.length (enc eLk l), .fn 34 [.rp [.v (.int .i64 i)]]] (.v (.int .i64 (idxB (fun x : Lk => !decide (x.train = i)) l))) := by
 refine fnE_of_body (N := 19) Try.func55 rfl rfl (resOf1 rfl) (by simp) (fun w0 X hL_ => ?_)
 refine seqR ?_
 refine mG (.i 0) ?_
 refine op0 ?_
 refine awp_seq ?_
 refine seqR ?_
 refine mG (.q eLk l) ?_
 refine oG (qN ut50 ?_)
 refine mG (.i 0) ?_
 refine rU (upd (upd (Z5k l i) 7 (.i (l.length : Int))) 8 (.i 0)) noOb ?_
 refine awp_block ?_
 refine awp_countI (fun k => ⟨(upd (upd (Z5k l i) 7 (.i (l.length : Int))) 8 (.i (k : Int))), noOb⟩) (fun k => (l.take k).any (fun x : Lk => !decide (x.train = i)) = false) (l.length) ?_ (by simp) (fun k hk_k hinv => ?_)
 ·skip
  exact iN
 refine seqR ?_
 refine bG ((.bool (decide ((k : Int) < (l.length : Int))))) ?_
 refine op0 ?_
 refine awp_seq ?_
 refine awp_cond (decide ((k : Int) < (l.length : Int))) rfl rfl (fun hc0 => ?_) (fun hc0 => ?_)
 ·skip
  have hf1 := of_decide_eq_true hc0
  refine awp_skip ?_
  refine awp_seq ?_
  refine awp_block ?_
  refine seqR ?_
  refine mG (.i (k : Int)) ?_
  refine mG (.i (k : Int)) ?_
  refine op0 ?_
  refine seqR ?_
  refine mG (.fn 34 [.rp [.i i]]) ?_
  refine mG (.q eLk l) ?_
  refine mG (.i (k : Int)) ?_
  refine oG (qX dLk ut50 sz64 ?_)
  refine oG (qLB [.i ((l.getD k dLk).route), .i ((l.getD k dLk).train), .i ((l.getD k dLk).ends), .ro ((l.getD k dLk).pieces.length) (enc eU8 ((l.getD k dLk).pieces))] ag64 sz64 ?_)
  refine oG (qC (a_Of1 ((l.getD k dLk).train) i) bd34 ?_)
  refine rU (upd (upd (upd (upd (Z5k l i) 5 (.i (k : Int))) 7 (.i (l.length : Int))) 8 (.i (k : Int))) 16 (.b (!decide (((l.getD k dLk).train) = i)))) noOb ?_
  refine awp_cond (!decide (((l.getD k dLk).train) = i)) rfl rfl (fun hc1 => ?_) (fun hc1 => ?_)
  ·skip
   refine seqR ?_
   refine mG (.i (k : Int)) ?_
   refine mG (.i (k : Int)) ?_
   refine op0 ?_
   refine awp_ret ?_
   exact fret (av := .v (.int .i64 (k : Int))) rfl rfl (by rw [idxB_stop (f := fun x : Lk => !decide (x.train = i)) dLk om hinv hc1] <;> rfl)
  refine awp_skip ?_
  refine regR ?_
  refine oG (qB (.int .i64 ((k + 1 : Nat) : Int)) (addN om) ?_)
  refine mG (.i ((k + 1 : Nat) : Int)) ?_
  refine op0 ?_
  show _ ∧ _
  refine ⟨by omega, (any_step dLk om hinv hc1), ?_⟩
  exact iN
 have hf2 := of_decide_eq_false hc0
 refine awp_exit ?_
 refine seqR ?_
 refine mG (.i (-1)) ?_
 refine op0 ?_
 refine awp_ret ?_
 exact fret (av := .v (.int .i64 (-1))) rfl rfl (by rw [idxB_end (f := fun x : Lk => !decide (x.train = i)) om hinv] <;> rfl)
abbrev Z5n (l : List Lk) : Nat → OSt := (updO noOb 0 (.live ⟨(enc eLk l), 64, 4⟩))
abbrev Z5m : LObj := ⟨[.i 0, .i 0, .i 0, vN], 64, 1⟩
abbrev Z5l (l : List Lk) (i : Int) : Nat → AV := (upd (upd (upd none_ 0 (.sl 0 0 l.length)) 1 (.fn 34 [.rp [.i i]])) 4 vN)
theorem delLk (l : List Lk) (i : Int) (hl : l.length ≤ 4294967296)  : FnGO Try.prog 32 [⟨(enc eLk l), 64, 4⟩] [.sl 0 0 l.length, .fn 34 [.rp [.v (.int .i64 i)]]] (.sl 0 0 ((restG (fun x : Lk => !decide (x.train = i)) l).length)) [.live ⟨(enc eLk (restG (fun x : Lk => !decide (x.train = i)) l ++ List.replicate (l.length - (restG (fun x : Lk => !decide (x.train = i)) l).length) dLk)), 64, 4⟩] := by
 refine fnG_of_body (N := 42) 1 rfl Try.func32 rfl rfl (resOf1 rfl) (by simp) (fun w0 G C hL_ hLG_ => ?_)
 refine seqR ?_
 refine mG vN ?_
 refine op0 ?_
 refine seqR ?_
 refine mG (.sl 0 0 l.length) ?_
 refine mG (.fn 34 [.rp [.i i]]) ?_
 refine oG (callL_ (ixLk l i oo) rfl rfl rfl rfl rfl bd55 (lends_cons (lend_s (id := 0) (n := l.length) (o := ⟨(enc eLk l), 64, 4⟩) rfl (enc_len (fun _ => rfl) (by first | rfl | (simp; done)))) lS) ?_)
 refine mG (.i (idxB (fun x : Lk => !decide (x.train = i)) l)) ?_
 refine rU (upd (Z5l l i) 5 (.i (idxB (fun x : Lk => !decide (x.train = i)) l))) (Z5n l) ?_
 refine awp_seq ?_
 refine seqR ?_
 refine mG (.i (idxB (fun x : Lk => !decide (x.train = i)) l)) ?_
 refine bG ((.bool ((idxB (fun x : Lk => !decide (x.train = i)) l) == (-1)))) ?_
 refine op0 ?_
 refine awp_cond ((idxB (fun x : Lk => !decide (x.train = i)) l) == (-1)) rfl rfl (fun hc0 => ?_) (fun hc0 => ?_)
 ·skip
  have hf1 := (beq_iff_eq).1 hc0
  have hm0 := restG_none (fun x : Lk => !decide (x.train = i)) (any_none (fun x : Lk => !decide (x.train = i)) dLk hf1)
  refine seqR ?_
  refine mG (.sl 0 0 l.length) ?_
  refine mG (.sl 0 0 l.length) ?_
  refine rU (upd (upd (upd (upd none_ 0 (.sl 0 0 l.length)) 1 (.fn 34 [.rp [.i i]])) 4 (.sl 0 0 l.length)) 5 (.i (idxB (fun x : Lk => !decide (x.train = i)) l))) (Z5n l) ?_
  refine awp_imp ⟨(upd none_ 4 (.sl 0 0 ((restG (fun x : Lk => !decide (x.train = i)) l).length))), (updO noOb 0 (.live ⟨(enc eLk (restG (fun x : Lk => !decide (x.train = i)) l ++ List.replicate (l.length - (restG (fun x : Lk => !decide (x.train = i)) l).length) dLk)), 64, 4⟩))⟩ ?_ ?_
  ·skip
   exact iL [(0, 0)] [((0, 0), .live _)] ⟨row_no rfl (by exact congrArg (fun l_ => LObj.mk (enc eLk l_) 64 4) (by rw [hm0]; simp)), trivial⟩ (he := (sM (by exact congrArg (AV.sl 0 0) (by rw [hm0])) sr_none))
  refine awp_ret ?_
  exact fretG rfl rfl rfl rfl
 have hf2 := (beq_eq_false_iff_ne).1 hc0
 obtain ⟨i0, hi, hlt, hpre, hdel⟩ := idxB_found dLk (show ¬ idxB (fun x : Lk => !decide (x.train = i)) l = -1 from fun e => hf2 e)
 refine awp_skip ?_
 refine awp_seq ?_
 refine seqR ?_
 refine mG (.i (idxB (fun x : Lk => !decide (x.train = i)) l)) ?_
 refine oG (qB (.int .i64 ((idxB (fun x : Lk => !decide (x.train = i)) l) + 1)) (addI om) ?_)
 refine mG (.i ((idxB (fun x : Lk => !decide (x.train = i)) l) + 1)) ?_
 refine rU (upd (upd (Z5l l i) 5 (.i (idxB (fun x : Lk => !decide (x.train = i)) l))) 6 (.i ((idxB (fun x : Lk => !decide (x.train = i)) l) + 1))) (Z5n l) ?_
 refine awp_block ?_
 refine awp_countI (fun k => ⟨(upd (upd (Z5l l i) 5 (.i (((delG (fun x : Lk => !decide (x.train = i)) l (i0 + 1 + k)).2 : Nat) : Int))) 6 (.i ((i0 + 1 + k : Nat) : Int))), (updO noOb 0 (.live ⟨(enc eLk ((delG (fun x : Lk => !decide (x.train = i)) l (i0 + 1 + k)).1)), 64, 4⟩))⟩) (fun k => True) ((l.length - (i0 + 1))) ?_ trivial (fun k hk_k hinv => ?_)
 ·skip
  have hf0 := delG_first (fun x : Lk => !decide (x.train = i)) dLk hlt hpre hdel
  exact iL [(0, 0)] [((0, 0), .live _)] ⟨row_no rfl (by exact congrArg (fun l_ => LObj.mk (enc eLk l_) 64 4) (show (delG (fun x : Lk => !decide (x.train = i)) l (i0 + 1 + 0)).1 = l by rw [show i0 + 1 + 0 = i0 + 1 from rfl, hf0])), trivial⟩ (he := (sS (by exact congrArg (fun n_ : Int => AV.v (.int .i64 n_)) (show idxB (fun x : Lk => !decide (x.train = i)) l + 1 = ((i0 + 1 + 0 : Nat) : Int) by omega)) (sS (by exact congrArg (fun n_ : Int => AV.v (.int .i64 n_)) (show idxB (fun x : Lk => !decide (x.train = i)) l = (((delG (fun x : Lk => !decide (x.train = i)) l (i0 + 1 + 0)).2 : Nat) : Int) by rw [show i0 + 1 + 0 = i0 + 1 from rfl, hf0]; exact hi)) (sS rfl (sS rfl (sM rfl sr_none))))))
 obtain ⟨hv1, hv2, hv3, hv4, hv5⟩ := delG_inv (fun x : Lk => !decide (x.train = i)) l (i0 + 1 + k) om
 have hv6 := delG_lt (fun x : Lk => !decide (x.train = i)) dLk hlt hpre hdel k om
 refine awp_seq ?_
 refine seqR ?_
 refine mG (.i ((i0 + 1 + k : Nat) : Int)) ?_
 refine mG (.sl 0 0 l.length) ?_
 refine oG (aop_len rfl rfl rfl rfl ut50 (len_sl rfl) ?_)
 refine bG ((.bool (decide (((i0 + 1 + k : Nat) : Int) < (l.length : Int))))) ?_
 refine rU (upd (upd (upd (Z5l l i) 5 (.i (((delG (fun x : Lk => !decide (x.train = i)) l (i0 + 1 + k)).2 : Nat) : Int))) 6 (.i ((i0 + 1 + k : Nat) : Int))) 19 (.b (decide (((i0 + 1 + k : Nat) : Int) < (l.length : Int))))) (updO noOb 0 (.live ⟨(enc eLk ((delG (fun x : Lk => !decide (x.train = i)) l (i0 + 1 + k)).1)), 64, 4⟩)) ?_
 refine awp_cond (decide (((i0 + 1 + k : Nat) : Int) < (l.length : Int))) rfl rfl (fun hc1 => ?_) (fun hc1 => ?_)
 ·skip
  have hf3 := of_decide_eq_true hc1
  refine awp_skip ?_
  refine awp_seq ?_
  refine awp_block ?_
  refine seqR ?_
  refine mG (.sl 0 0 l.length) ?_
  refine mG (.i ((i0 + 1 + k : Nat) : Int)) ?_
  refine oG (aop_ixO (k := i0 + 1 + k) rfl rfl rfl ut50 sz64 rfl rfl oo ?_)
  refine oG (aop_ldOA (f := eLk) dLk rfl rfl rfl ag64 sz64 rfl rfl rfl (fun _ => rfl) oo rfl ?_)
  refine oG (aop_alloc 51 rfl rfl rfl rfl ze64 rfl ?_)
  refine oG (qS sz64 ?_)
  refine rU (upd (upd (upd (Z5l l i) 5 (.i (((delG (fun x : Lk => !decide (x.train = i)) l (i0 + 1 + k)).2 : Nat) : Int))) 6 (.i ((i0 + 1 + k : Nat) : Int))) 7 (.pt 51 0)) (updO (updO (updO noOb 0 (.live ⟨(enc eLk ((delG (fun x : Lk => !decide (x.train = i)) l (i0 + 1 + k)).1)), 64, 4⟩)) 51 (.live Z5m)) 51 (.live ⟨[.i ((((delG (fun x : Lk => !decide (x.train = i)) l (i0 + 1 + k)).1).getD (i0 + 1 + k) dLk).route), .i ((((delG (fun x : Lk => !decide (x.train = i)) l (i0 + 1 + k)).1).getD (i0 + 1 + k) dLk).train), .i ((((delG (fun x : Lk => !decide (x.train = i)) l (i0 + 1 + k)).1).getD (i0 + 1 + k) dLk).ends), .ro ((((delG (fun x : Lk => !decide (x.train = i)) l (i0 + 1 + k)).1).getD (i0 + 1 + k) dLk).pieces.length) (enc eU8 ((((delG (fun x : Lk => !decide (x.train = i)) l (i0 + 1 + k)).1).getD (i0 + 1 + k) dLk).pieces))], 64, 1⟩)) ?_
  refine seqR ?_
  refine mG (.fn 34 [.rp [.i i]]) ?_
  refine oG (qLB [.i ((((delG (fun x : Lk => !decide (x.train = i)) l (i0 + 1 + k)).1).getD (i0 + 1 + k) dLk).route), .i ((((delG (fun x : Lk => !decide (x.train = i)) l (i0 + 1 + k)).1).getD (i0 + 1 + k) dLk).train), .i ((((delG (fun x : Lk => !decide (x.train = i)) l (i0 + 1 + k)).1).getD (i0 + 1 + k) dLk).ends), .ro ((((delG (fun x : Lk => !decide (x.train = i)) l (i0 + 1 + k)).1).getD (i0 + 1 + k) dLk).pieces.length) (enc eU8 ((((delG (fun x : Lk => !decide (x.train = i)) l (i0 + 1 + k)).1).getD (i0 + 1 + k) dLk).pieces))] ag64 sz64 ?_)
  refine oG (qC (a_Of1 ((((delG (fun x : Lk => !decide (x.train = i)) l (i0 + 1 + k)).1).getD (i0 + 1 + k) dLk).train) i) bd34 ?_)
  refine oG (aop_not rfl rfl rfl rfl ?_)
  refine rU (upd (upd (upd (upd (Z5l l i) 5 (.i (((delG (fun x : Lk => !decide (x.train = i)) l (i0 + 1 + k)).2 : Nat) : Int))) 6 (.i ((i0 + 1 + k : Nat) : Int))) 7 (.pt 51 0)) 29 (.b (!(!decide (((((delG (fun x : Lk => !decide (x.train = i)) l (i0 + 1 + k)).1).getD (i0 + 1 + k) dLk).train) = i))))) (updO (updO (updO noOb 0 (.live ⟨(enc eLk ((delG (fun x : Lk => !decide (x.train = i)) l (i0 + 1 + k)).1)), 64, 4⟩)) 51 (.live Z5m)) 51 (.live ⟨[.i ((((delG (fun x : Lk => !decide (x.train = i)) l (i0 + 1 + k)).1).getD (i0 + 1 + k) dLk).route), .i ((((delG (fun x : Lk => !decide (x.train = i)) l (i0 + 1 + k)).1).getD (i0 + 1 + k) dLk).train), .i ((((delG (fun x : Lk => !decide (x.train = i)) l (i0 + 1 + k)).1).getD (i0 + 1 + k) dLk).ends), .ro ((((delG (fun x : Lk => !decide (x.train = i)) l (i0 + 1 + k)).1).getD (i0 + 1 + k) dLk).pieces.length) (enc eU8 ((((delG (fun x : Lk => !decide (x.train = i)) l (i0 + 1 + k)).1).getD (i0 + 1 + k) dLk).pieces))], 64, 1⟩)) ?_
  refine awp_cond (!(!decide (((((delG (fun x : Lk => !decide (x.train = i)) l (i0 + 1 + k)).1).getD (i0 + 1 + k) dLk).train) = i))) rfl rfl (fun hc2 => ?_) (fun hc2 => ?_)
  ·skip
   have hf4 := not_t hc2
   refine seqR ?_
   refine mG (.sl 0 0 l.length) ?_
   refine mG (.i (((delG (fun x : Lk => !decide (x.train = i)) l (i0 + 1 + k)).2 : Nat) : Int)) ?_
   refine oG (qLB [.i ((((delG (fun x : Lk => !decide (x.train = i)) l (i0 + 1 + k)).1).getD (i0 + 1 + k) dLk).route), .i ((((delG (fun x : Lk => !decide (x.train = i)) l (i0 + 1 + k)).1).getD (i0 + 1 + k) dLk).train), .i ((((delG (fun x : Lk => !decide (x.train = i)) l (i0 + 1 + k)).1).getD (i0 + 1 + k) dLk).ends), .ro ((((delG (fun x : Lk => !decide (x.train = i)) l (i0 + 1 + k)).1).getD (i0 + 1 + k) dLk).pieces.length) (enc eU8 ((((delG (fun x : Lk => !decide (x.train = i)) l (i0 + 1 + k)).1).getD (i0 + 1 + k) dLk).pieces))] ag64 sz64 ?_)
   refine oG (aop_ixO (k := (delG (fun x : Lk => !decide (x.train = i)) l (i0 + 1 + k)).2) rfl rfl rfl ut50 sz64 rfl rfl oo ?_)
   refine oG (aop_storeE (f := eLk) (l := (delG (fun x : Lk => !decide (x.train = i)) l (i0 + 1 + k)).1) (l' := ((delG (fun x : Lk => !decide (x.train = i)) l (i0 + 1 + k)).1).set ((delG (fun x : Lk => !decide (x.train = i)) l (i0 + 1 + k)).2) (⟨(((delG (fun x : Lk => !decide (x.train = i)) l (i0 + 1 + k)).1).getD (i0 + 1 + k) dLk).route, (((delG (fun x : Lk => !decide (x.train = i)) l (i0 + 1 + k)).1).getD (i0 + 1 + k) dLk).train, (((delG (fun x : Lk => !decide (x.train = i)) l (i0 + 1 + k)).1).getD (i0 + 1 + k) dLk).ends, (((delG (fun x : Lk => !decide (x.train = i)) l (i0 + 1 + k)).1).getD (i0 + 1 + k) dLk).pieces⟩ : Lk)) (⟨(((delG (fun x : Lk => !decide (x.train = i)) l (i0 + 1 + k)).1).getD (i0 + 1 + k) dLk).route, (((delG (fun x : Lk => !decide (x.train = i)) l (i0 + 1 + k)).1).getD (i0 + 1 + k) dLk).train, (((delG (fun x : Lk => !decide (x.train = i)) l (i0 + 1 + k)).1).getD (i0 + 1 + k) dLk).ends, (((delG (fun x : Lk => !decide (x.train = i)) l (i0 + 1 + k)).1).getD (i0 + 1 + k) dLk).pieces⟩ : Lk) rfl rfl rfl sz64 rfl rfl rfl rfl rfl (fun _ => rfl) oo rfl rfl ?_)
   refine rU (upd (upd (upd (Z5l l i) 5 (.i (((delG (fun x : Lk => !decide (x.train = i)) l (i0 + 1 + k)).2 : Nat) : Int))) 6 (.i ((i0 + 1 + k : Nat) : Int))) 7 (.pt 51 0)) (updO (updO (updO (updO noOb 0 (.live ⟨(enc eLk ((delG (fun x : Lk => !decide (x.train = i)) l (i0 + 1 + k)).1)), 64, 4⟩)) 51 (.live Z5m)) 51 (.live ⟨[.i ((((delG (fun x : Lk => !decide (x.train = i)) l (i0 + 1 + k)).1).getD (i0 + 1 + k) dLk).route), .i ((((delG (fun x : Lk => !decide (x.train = i)) l (i0 + 1 + k)).1).getD (i0 + 1 + k) dLk).train), .i ((((delG (fun x : Lk => !decide (x.train = i)) l (i0 + 1 + k)).1).getD (i0 + 1 + k) dLk).ends), .ro ((((delG (fun x : Lk => !decide (x.train = i)) l (i0 + 1 + k)).1).getD (i0 + 1 + k) dLk).pieces.length) (enc eU8 ((((delG (fun x : Lk => !decide (x.train = i)) l (i0 + 1 + k)).1).getD (i0 + 1 + k) dLk).pieces))], 64, 1⟩)) 0 (.live ⟨(enc eLk (((delG (fun x : Lk => !decide (x.train = i)) l (i0 + 1 + k)).1).set ((delG (fun x : Lk => !decide (x.train = i)) l (i0 + 1 + k)).2) (⟨(((delG (fun x : Lk => !decide (x.train = i)) l (i0 + 1 + k)).1).getD (i0 + 1 + k) dLk).route, (((delG (fun x : Lk => !decide (x.train = i)) l (i0 + 1 + k)).1).getD (i0 + 1 + k) dLk).train, (((delG (fun x : Lk => !decide (x.train = i)) l (i0 + 1 + k)).1).getD (i0 + 1 + k) dLk).ends, (((delG (fun x : Lk => !decide (x.train = i)) l (i0 + 1 + k)).1).getD (i0 + 1 + k) dLk).pieces⟩ : Lk))), 64, 4⟩)) ?_
   refine regR ?_
   refine mG (.i (((delG (fun x : Lk => !decide (x.train = i)) l (i0 + 1 + k)).2 : Nat) : Int)) ?_
   refine oG (qB (.int .i64 (((delG (fun x : Lk => !decide (x.train = i)) l (i0 + 1 + k)).2 + 1 : Nat) : Int)) (addN om) ?_)
   refine mG (.i (((delG (fun x : Lk => !decide (x.train = i)) l (i0 + 1 + k)).2 + 1 : Nat) : Int)) ?_
   refine op0 ?_
   refine regR ?_
   refine mG (.i ((i0 + 1 + k : Nat) : Int)) ?_
   refine oG (qB (.int .i64 ((i0 + 1 + k + 1 : Nat) : Int)) (addN om) ?_)
   refine mG (.i ((i0 + 1 + k + 1 : Nat) : Int)) ?_
   refine op0 ?_
   show _ ∧ _
   have hs := delG_keep (fun x : Lk => !decide (x.train = i)) dLk (l := l) (j := i0 + 1 + k) om ((Bool.not_eq_true' _).mp hc2)
   refine ⟨by omega, trivial, ?_⟩
   exact iL [(0, 0)] [((0, 0), .live _)] ⟨row_no rfl (by exact congrArg (fun l_ => LObj.mk (enc eLk l_) 64 4) (congrArg Prod.fst hs)), trivial⟩ (he := (sS rfl (sS (by exact congrArg (fun n_ : Int => AV.v (.int .i64 n_)) (congrArg (fun q : List Lk × Nat => ((q.2 : Nat) : Int)) hs.symm)) (sS rfl (sS rfl (sM rfl sr_none))))))
  have hf5 := not_f hc2
  refine awp_skip ?_
  refine regR ?_
  refine mG (.i ((i0 + 1 + k : Nat) : Int)) ?_
  refine oG (qB (.int .i64 ((i0 + 1 + k + 1 : Nat) : Int)) (addN om) ?_)
  refine mG (.i ((i0 + 1 + k + 1 : Nat) : Int)) ?_
  refine op0 ?_
  show _ ∧ _
  have hs := delG_drop (fun x : Lk => !decide (x.train = i)) dLk (l := l) (j := i0 + 1 + k) om ((Bool.not_eq_false' _).mp hc2)
  refine ⟨by omega, trivial, ?_⟩
  exact iL [(0, 0)] [((0, 0), .live _)] ⟨row_no rfl (by exact congrArg (fun l_ => LObj.mk (enc eLk l_) 64 4) (congrArg Prod.fst hs)), trivial⟩ (he := (sS rfl (sS (by exact congrArg (fun n_ : Int => AV.v (.int .i64 n_)) (congrArg (fun q : List Lk × Nat => ((q.2 : Nat) : Int)) hs.symm)) (sS rfl (sS rfl (sM rfl sr_none))))))
 have hf6 := of_decide_eq_false hc1
 refine awp_exit ?_
 refine seqR ?_
 refine mG (.sl 0 0 l.length) ?_
 refine mG (.i (((delG (fun x : Lk => !decide (x.train = i)) l (i0 + 1 + k)).2 : Nat) : Int)) ?_
 refine oG (aop_sliceFrom (l := (delG (fun x : Lk => !decide (x.train = i)) l (i0 + 1 + k)).2) (ob := ⟨(enc eLk ((delG (fun x : Lk => !decide (x.train = i)) l (i0 + 1 + k)).1)), 64, 4⟩) rfl rfl rfl ut50 sz64 rfl rfl rfl ⟨_, rfl⟩ oo ?_)
 refine oG (aop_clearW (n := l.length - ((delG (fun x : Lk => !decide (x.train = i)) l (i0 + 1 + k)).2)) (ob := ⟨(enc eLk ((delG (fun x : Lk => !decide (x.train = i)) l (i0 + 1 + k)).1)), 64, 4⟩) (zs := enc eLk (List.replicate (l.length - (delG (fun x : Lk => !decide (x.train = i)) l (i0 + 1 + k)).2) dLk)) rfl rfl rfl rfl ut50 (run_zero_ ze64) rfl rfl rfl oo (clear_fit (fun _ => rfl) om) (by rw [enc_length (f := eLk) (s := 4) (fun _ => rfl), List.length_replicate]; rfl) (zeds_rep rfl zed_Lk) (clear_rowW (e := eLk) (v := dLk) (s := 4) (i := (delG (fun x : Lk => !decide (x.train = i)) l (i0 + 1 + k)).2) (n := l.length - (delG (fun x : Lk => !decide (x.train = i)) l (i0 + 1 + k)).2) (fun _ => rfl) om) ?_)
 refine rU (upd (upd (upd none_ 0 (.sl 0 0 l.length)) 4 vN) 5 (.i (((delG (fun x : Lk => !decide (x.train = i)) l (i0 + 1 + k)).2 : Nat) : Int))) (updO (updO noOb 0 (.live ⟨(enc eLk ((delG (fun x : Lk => !decide (x.train = i)) l (i0 + 1 + k)).1)), 64, 4⟩)) 0 (.live ⟨(enc eLk ((delG (fun x : Lk => !decide (x.train = i)) l (i0 + 1 + k)).1.take (delG (fun x : Lk => !decide (x.train = i)) l (i0 + 1 + k)).2 ++ List.replicate (l.length - (delG (fun x : Lk => !decide (x.train = i)) l (i0 + 1 + k)).2) dLk)), 64, 4⟩)) ?_
 refine seqR ?_
 refine mG (.sl 0 0 l.length) ?_
 refine mG (.i (((delG (fun x : Lk => !decide (x.train = i)) l (i0 + 1 + k)).2 : Nat) : Int)) ?_
 refine oG (aop_sliceOwn (hgh := (delG (fun x : Lk => !decide (x.train = i)) l (i0 + 1 + k)).2) rfl rfl rfl ut50 sz64 rfl ⟨_, rfl⟩ oo ?_)
 refine mG (.sl 0 0 ((delG (fun x : Lk => !decide (x.train = i)) l (i0 + 1 + k)).2)) ?_
 refine rU (upd none_ 4 (.sl 0 0 ((delG (fun x : Lk => !decide (x.train = i)) l (i0 + 1 + k)).2))) (updO (updO noOb 0 (.live ⟨(enc eLk ((delG (fun x : Lk => !decide (x.train = i)) l (i0 + 1 + k)).1)), 64, 4⟩)) 0 (.live ⟨(enc eLk ((delG (fun x : Lk => !decide (x.train = i)) l (i0 + 1 + k)).1.take (delG (fun x : Lk => !decide (x.train = i)) l (i0 + 1 + k)).2 ++ List.replicate (l.length - (delG (fun x : Lk => !decide (x.train = i)) l (i0 + 1 + k)).2) dLk)), 64, 4⟩)) ?_
 have hjk : i0 + 1 + k = l.length := by omega
 rw [hjk, List.take_of_length_le (Nat.le_refl _)] at hv4 hv5
 refine awp_imp ⟨(upd none_ 4 (.sl 0 0 ((restG (fun x : Lk => !decide (x.train = i)) l).length))), (updO noOb 0 (.live ⟨(enc eLk (restG (fun x : Lk => !decide (x.train = i)) l ++ List.replicate (l.length - (restG (fun x : Lk => !decide (x.train = i)) l).length) dLk)), 64, 4⟩))⟩ ?_ ?_
 ·skip
  exact iL [(0, 0)] [((0, 0), .live _)] ⟨row_no rfl (by exact congrArg (fun l_ => LObj.mk (enc eLk l_) 64 4) (by rw [hjk, hv4, hv5])), trivial⟩ (he := (sM (by exact congrArg (AV.sl 0 0) (by rw [hjk, hv5])) sr_none))
 refine awp_ret ?_
 exact fretG rfl rfl rfl rfl
theorem a_New (a : List Sec) (b : List (List Int)) (c : List Pnt)  : Fn Try.prog 31 [.agg [.one, .ro a.length (enc eSec a), .ro b.length (enc eIL b), .ro c.length (enc ePnt c), .one, .one, .one, .one, .one, .one]] (.rp [.one, .ro a.length (enc eSec a), .ro b.length (enc eIL b), .ro c.length (enc ePnt c), .one, .one, .one, .one, .one, .one]) := by
 refine fnE_of_body (N := 6) Try.func31 rfl rfl (resOf1 rfl) (by simp) (fun w0 X hL_ => ?_)
 refine seqR ?_
 refine oG (qW 51 ?_)
 refine mG (.v (.pointer none)) ?_
 refine op0 ?_
 refine seqR ?_
 refine oG (qLB [.one, .q eSec a, .q eIL b, .q ePnt c, .one, .one, .one, .one, .one, .one] ag39 sz39 ?_)
 refine oG (qD pl121 ?_)
 refine oG (qW 52 ?_)
 refine mG (.pt 52 0) ?_
 refine rU (upd none_ 2 (.pt 52 0)) (updO (updO noOb 51 (.live ⟨[.one, .q eSec a, .q eIL b, .q ePnt c, .one, .one, .one, .one, .one, .one], 39, 1⟩)) 52 (.live ⟨[.one, .q eSec a, .q eIL b, .q ePnt c, .one, .one, .one, .one, .one, .one], 121, 1⟩)) ?_
 refine awp_imp _ (imp_frozen rfl (fun _ h => h) (lee_lend 2 (.rp [.one, .q eSec a, .q eIL b, .q ePnt c, .one, .one, .one, .one, .one, .one]) (lend_pt rfl lS) lee_lend0)) ?_
 refine awp_ret ?_
 exact fret (av := .rp [.one, .ro a.length (enc eSec a), .ro b.length (enc eIL b), .ro c.length (enc ePnt c), .one, .one, .one, .one, .one, .one]) rfl rfl rfl
abbrev Z5z (u : List Lk) (s ow : List Int) (t : List Bool) : Nat → AV := (upd (upd (upd (upd (upd (upd (upd (upd none_ 1 (.q eLk u)) 2 (.q eU8 s)) 3 (.q eI ow)) 5 (.q eB t)) 7 (.pt 51 0)) 13 (.pt 52 0)) 14 vN) 15 (.pt 53 0))
abbrev Z5x : Nat → AV := (upd (upd (upd none_ 7 (.pt 51 0)) 14 vN) 17 (.pt 54 0))
abbrev Z5w : LObj := ⟨[.i 0, .i 0, .i 0, vN], 64, 1⟩
abbrev Z5v : LObj := ⟨[.i 0, .b false, vN, vN, vN, vN, vN, vN, .i 0, .i 0, .i 0, .i 0, .i 0, .v (.pointer none), vN, vN, vN], 81, 1⟩
abbrev Z5u (d : List View) (c : Int) : List AV := [.i ((findV d c).id), .b ((findV d c).sure), .ro ((findV d c).span.length) (enc eI ((findV d c).span))]
abbrev Z5t : Nat → AV := (upd (upd (upd none_ 7 (.pt 2 0)) 14 vN) 17 (.pt 1 0))
abbrev Z5q (d : List View) (c : Int) (e : List Sec) (g : List (List Int)) (j : List Pnt) (p : List (List Int)) (s ow : List Int) (t : List Bool) : Fld := (fldOf (findV d c) e g j p s ow t)
abbrev Z5p (e : List Sec) (g : List (List Int)) (j : List Pnt) (p : List (List Int)) : List AV := [.one, .q eSec e, .q eIL g, .q ePnt j, .q eIL p, .one, .one, .one, .one, .one]
abbrev Z5o (d : List View) (c : Int) (e : List Sec) (g : List (List Int)) (j : List Pnt) (p : List (List Int)) (s ow : List Int) (t : List Bool) : List AV := [.i ((findV d c).id), .b ((findV d c).sure), .ro ((findV d c).span.length) (enc eI ((findV d c).span)), .one, .q eSec e, .q eIL g, .q ePnt j, .q eIL p, .one, .one, .one, .one, .one, .rp [.one, .q eSec e, .q eIL g, .q ePnt j, .one, .one, .one, .one, .one, .one], .q eU8 s, .q eI ow, .q eB t]
abbrev Z5y (e : List Sec) (g : List (List Int)) (j : List Pnt) (p : List (List Int)) (d : List View) (c : Int) (s ow : List Int) (t : List Bool) : Nat → OSt := (updO (updO noOb 51 (.live ⟨(Z5p e g j p), 39, 1⟩)) 54 (.live ⟨(Z5o d c e g j p s ow t), 81, 1⟩))
abbrev Z5s (d : List View) (c : Int) (e : List Sec) (g : List (List Int)) (j : List Pnt) (p : List (List Int)) (s ow : List Int) (t : List Bool) : Nat → OSt := (updO (updO noOb 1 (.live ⟨(Z5o d c e g j p s ow t), 81, 1⟩)) 2 (.live ⟨(Z5p e g j p), 39, 1⟩))
abbrev Z5r (e : List Sec) (g : List (List Int)) (j : List Pnt) (p : List (List Int)) (c : Int) (d : List View) : Nat → OSt := (updO (updO (updO (updO noOb 51 (.live ⟨(Z5p e g j p), 39, 1⟩)) 52 (.live ⟨[.i c], 3, 1⟩)) 53 (.live ⟨[.i 0, .b false, vN], 63, 1⟩)) 53 (.live ⟨(Z5u d c), 63, 1⟩))
theorem a_Of (d : List View) (c : Int) (e : List Sec) (g : List (List Int)) (j : List Pnt) (p : List (List Int)) (s ow : List Int) (t : List Bool) (u : List Lk) (hf : FldOk (fldOf (findV d c) e g j p s ow t)) (hlk : ∀ x, x ∈ u → LkOk (fldOf (findV d c) e g j p s ow t) x) (hll : u.length ≤ 65536) (hv : d.length ≤ 65536) : Fn Try.prog 17 [.agg [.one, .ro e.length (enc eSec e), .ro g.length (enc eIL g), .ro j.length (enc ePnt j), .ro p.length (enc eIL p), .one, .one, .one, .one, .one], .ro u.length (enc eLk u), .ro s.length (enc eU8 s), .ro ow.length (enc eI ow), .ro d.length (enc eV d), .ro t.length (enc eB t), .v (.int .i64 c)] (.ro ((auT d c (fldOf (findV d c) e g j p s ow t) u).length) (enc eI (auT d c (fldOf (findV d c) e g j p s ow t) u))) := by
 refine fnE_of_body (N := 85) Try.func17 rfl rfl (resOf1 rfl) (by simp) (fun w0 X hL_ => ?_)
 refine seqR ?_
 refine oG (qW 51 ?_)
 refine oG (qW 52 ?_)
 refine mG vN ?_
 refine op0 ?_
 refine seqR ?_
 refine mG (.q eV d) ?_
 refine oG (qL (.i c) ag3 ?_)
 refine oG (qJ (o_Find d c om) bd30 ?_)
 refine mG (.tup [.agg (Z5u d c), .b (!decide (findI d c < 0))]) ?_
 refine oG (qE ?_)
 refine oG (qE ?_)
 refine oG (aop_alloc 53 rfl rfl rfl rfl ze63 rfl ?_)
 refine oG (qS sz63 ?_)
 refine mG (.b (!decide (findI d c < 0))) ?_
 refine rU (upd (Z5z u s ow t) 16 (.b (!decide (findI d c < 0)))) (Z5r e g j p c d) ?_
 refine awp_seq ?_
 refine seqR ?_
 refine mG (.b (!decide (findI d c < 0))) ?_
 refine oG (aop_not rfl rfl rfl rfl ?_)
 refine mG (.b (!(!decide (findI d c < 0)))) ?_
 refine aops_grp 4 37 (.b ((!(!decide (findI d c < 0))) || (!((findV d c).sure)))) ?_ ?_
 ·refine (Bool.eq_false_or_eq_true (!(!decide (findI d c < 0)))).elim (fun hg1 => ?_) (fun hg1 => ?_)
  ·skip
   have hf2 := not_t hg1
   refine nG hg1 ?_
   refine nG hg1 ?_
   refine nG hg1 ?_
   refine oG (qP (!(!decide (findI d c < 0))) (.b true) hg1 ?_)
   refine op0 ?_
   exact imp_env (lee_both 37 _ _ (by rw [hg1] <;> rfl) lO)
  have hf3 := not_f hg1
  refine oY hg1 (qF (.pt 53 0) (.pt 53 1) ft63_1 sz4 ?_)
  refine oY hg1 (qL (.b ((findV d c).sure)) ag4 ?_)
  refine oY hg1 (aop_not rfl rfl rfl rfl ?_)
  refine oG (qP (!(!decide (findI d c < 0))) (.b (!((findV d c).sure))) hg1 ?_)
  refine op0 ?_
  exact imp_env (lee_both 37 _ _ (by rw [hg1] <;> rfl) lO)
 refine op0 ?_
 refine awp_cond ((!(!decide (findI d c < 0))) || (!((findV d c).sure))) rfl rfl (fun hc0 => ?_) (fun hc0 => ?_)
 ·skip
  have hT : (auT d c (Z5q d c e g j p s ow t) u) = [] := auT_no (by simpa using hc0)
  refine seqR ?_
  refine mG vN ?_
  refine rU (Z5z u s ow t) (Z5r e g j p c d) ?_
  refine awp_imp _ (imp_frozen rfl (fun _ h => h) (lee_lend 14 (.ro 0 []) .nil lee_lend0)) ?_
  refine awp_ret ?_
  exact fret (av := .ro 0 []) rfl rfl (by rw [hT]; rfl)
 obtain ⟨hf4a, hf4b⟩ := or_f hc0
 have hf5 := not_f hf4a
 have hf6 := not_f hf4b
 obtain ⟨hv1, hv2⟩ : ¬ findI d c < 0 ∧ (findV d c).sure = true := by simpa using hc0
 have hT : (auT d c (Z5q d c e g j p s ow t) u) = _ := auT_yes hv1 hv2
 refine awp_skip ?_
 refine awp_seq ?_
 refine awp_drawZ (m := 9) (fun b => (updO (Z5r e g j p c d) 54 (cond (b 8) (.live Z5v) .free))) (updO (Z5r e g j p c d) 54 (.live Z5v)) [8] (funext fun id_ => by by_cases e0_ : id_ = 54 <;> first | (subst e0_; rfl) | simp only [addO, updO, nbeq_ne e0_, cond_false]) (fun b b' h => by simp only [h 8 (by decide)]) (fun b h => by simp only [h 8 (by decide), cond_true]) [(17, .pt 54 0), (45, .agg (Z5o d c e g j p s ow t)), (44, .q eB t), (43, .q eI ow), (42, .q eU8 s), (41, .rp [.one, .q eSec e, .q eIL g, .q ePnt j, .one, .one, .one, .one, .one, .one]), (40, .agg (Z5p e g j p)), (39, .agg (Z5p e g j p)), (38, .agg (Z5u d c))] mixed (by kernel_rfl) ?_ ?_
 ·refine ⟨?_, ?_, ?_, ?_, ?_, ?_, ?_, ?_, ?_, trivial⟩
  ·exact sy_pure (by decide) (fun b => sLB (Z5u d c) ag63 sz63)
  ·exact sy_pure (by decide) (fun b => sLB (Z5p e g j p) ag39 sz39)
  ·exact sy_pure (by decide) (fun b => sLB (Z5p e g j p) ag39 sz39)
  ·exact sy_pure (by decide) (fun b => sC (a_New e g j) bd31)
  ·exact sy_pure (by decide) (fun b => dW 42 fun st hob hE => aop_move (av := .q eU8 s) (.inl rfl) rfl rfl (hE 2 rfl) (by rw [hob]; rfl))
  ·exact sy_pure (by decide) (fun b => dW 43 fun st hob hE => aop_move (av := .q eI ow) (.inl rfl) rfl rfl (hE 3 rfl) (by rw [hob]; rfl))
  ·exact sy_pure (by decide) (fun b => dW 44 fun st hob hE => aop_move (av := .q eB t) (.inl rfl) rfl rfl (hE 5 rfl) (by rw [hob]; rfl))
  ·exact sy_pure (by decide) (fun b => dW 45 fun st hob hE => aop_build rfl rfl rfl pl81 (by simp only [partsA, List.map, evA, hE 38 rfl, hE 39 rfl, hE 41 rfl, hE 42 rfl, hE 43 rfl, hE 44 rfl]; rfl) (by rw [hob]; rfl))
  exact sy_fx (by decide) ⟨rfl, (fun d_ h_ => by cases h_ <;> exact blt_lt rfl), fun b hb_ hdep_ hcl_ st hob hE => by obtain ⟨en_, ob_⟩ := st; have hob_ : ob_ = (updO (Z5r e g j p c d) 54 .free) := Eq.trans hob (by simp only [hb_, cond_false, cond_true]); subst hob_; exact aop_alloc 54 rfl rfl rfl rfl ze81 rfl ⟨rfl, fun id_ => by by_cases e0_ : id_ = 54 <;> first | (subst e0_; rfl) | simp only [addO, updO, nbeq_ne e0_, cond_false]⟩⟩
 refine oG (qS sz81 ?_)
 refine op0 ?_
 refine rT (upd (upd (upd (upd (upd none_ 1 (.q eLk u)) 7 (.pt 51 0)) 13 (.pt 52 0)) 14 vN) 17 (.pt 54 0)) (updO (updO (Z5r e g j p c d) 54 (.live Z5v)) 54 (.live ⟨(Z5o d c e g j p s ow t), 81, 1⟩)) ?_
 refine awp_imp ⟨(upd (upd (upd (upd (upd none_ 1 (.q eLk u)) 7 (.pt 51 0)) 13 (.rp [.i c])) 14 vN) 17 (.pt 54 0)), (Z5y e g j p d c s ow t)⟩ ?_ ?_
 ·skip
  refine (frz_ [51, 54] [(51, ⟨(Z5p e g j p), 39, 1⟩), (54, ⟨(Z5o d c e g j p s ow t), 81, 1⟩)] rfl (fun _ h => h) ⟨keep_cells (cs := (Z5p e g j p)) (by simp) rfl rfl fzA, keep_cells (cs := (Z5o d c e g j p s ow t)) (by simp) rfl rfl fzA, trivial⟩ (fz_same 17 (.pt 54 0) rfl (fz_same 14 vN rfl (fz_lend 13 (.rp [.i c]) (lend_pt rfl lS) (fz_same 7 (.pt 51 0) rfl (fz_same 1 (.q eLk u) rfl fz_none)))))).trans ?_
  exact iJ 51 51 54 54 (o := ⟨(Z5p e g j p), 39, 1⟩) (o2 := ⟨(Z5o d c e g j p s ow t), 81, 1⟩) rfl rfl
 refine seqR ?_
 refine mG (.q eLk u) ?_
 refine oG (callN_ 55 (cl_Lk u om) rfl rfl rfl rfl rfl bd33 (fun _ => lS) newsN1 (free1 rfl) rfl rfl ?_)
 refine oG (aop_makeFunc (caps := [.tmp 13]) rfl rfl rfl rfl ?_)
 refine oG (callG_ false [55] [] (delLk u c om) rfl rfl rfl rfl rfl bd32 (by decide) ⟨giv_no (o := ⟨(enc eLk u), 64, 4⟩) rfl rfl, trivial⟩ ⟨(arg_own (.sl _ _ _ (by simp)) rfl), (arg_no (a := .fn 34 [.rp [.i c]])), trivial⟩ rfl trivial (fun h => by cases h) rfl (place_cons (ost_no (cs := (enc eLk (restG (fun x : Lk => !decide (x.train = c)) u ++ List.replicate (u.length - (restG (fun x : Lk => !decide (x.train = c)) u).length) dLk)))) place_nil) ?_)
 refine mG (.sl 55 0 ((restG (fun x : Lk => !decide (x.train = c)) u).length)) ?_
 refine rU (upd Z5x 18 (.sl 55 0 ((restG (fun x : Lk => !decide (x.train = c)) u).length))) (updO (updO (Z5y e g j p d c s ow t) 55 (.live ⟨(enc eLk u), 64, 4⟩)) 55 (.live ⟨(enc eLk (restG (fun x : Lk => !decide (x.train = c)) u ++ List.replicate (u.length - (restG (fun x : Lk => !decide (x.train = c)) u).length) dLk)), 64, 4⟩)) ?_
 obtain ⟨MN, hMN⟩ : ∃ m_, m_ = mineL u c := ⟨_, rfl⟩
 have hml : MN.length ≤ 65536 := by rw [hMN]; exact Nat.le_trans (mine_len u c) hll
 have hmk : ∀ x, x ∈ MN → LkOk (Z5q d c e g j p s ow t) x := fun x h_ => hlk x (mine_mem (by rw [← hMN]; exact h_))
 have hmp : ∀ x, x ∈ MN → x.pieces.length ≤ 65536 := fun x h_ => by have h1_ : x.pieces.length + 1 ≤ (p.getD x.route.toNat []).length := (hmk x h_).ps; have h3_ : 0 ≤ x.route ∧ x.route < (p.length : Int) := (hmk x h_).r; have h2_ : (p.getD x.route.toNat []).length ≤ 65536 := (hf.hrl _ (getD_mem (l := p) (k := x.route.toNat) [] om)).2; omega
 refine awp_imp ⟨(upd Z5x 18 (.q eLk MN)), (Z5y e g j p d c s ow t)⟩ ?_ ?_
 ·skip
  refine (frz_ [51, 54] [(51, ⟨(Z5p e g j p), 39, 1⟩), (54, ⟨(Z5o d c e g j p s ow t), 81, 1⟩)] rfl (fun _ h => h) ⟨keep_cells (cs := (Z5p e g j p)) (by simp) rfl rfl fzA, keep_cells (cs := (Z5o d c e g j p s ow t)) (by simp) rfl rfl fzA, trivial⟩ (fz_lend 18 (.q eLk (restG (fun x : Lk => !decide (x.train = c)) u)) (lend_p (id := 55) (n := (restG (fun x : Lk => !decide (x.train = c)) u).length) (o := ⟨(enc eLk (restG (fun x : Lk => !decide (x.train = c)) u ++ List.replicate (u.length - (restG (fun x : Lk => !decide (x.train = c)) u).length) dLk)), 64, 4⟩) (f := eLk) (l := restG (fun x : Lk => !decide (x.train = c)) u) (rest := List.replicate (u.length - (restG (fun x : Lk => !decide (x.train = c)) u).length) dLk) rfl rfl rfl (fun _ => rfl)) (fz_same 17 (.pt 54 0) rfl (fz_same 14 vN rfl (fz_same 7 (.pt 51 0) rfl fz_none))))).trans ?_
  exact iJ 51 51 54 54 (o := ⟨(Z5p e g j p), 39, 1⟩) (o2 := ⟨(Z5o d c e g j p s ow t), 81, 1⟩) rfl rfl (he := (sS (by rw [hMN]; rfl) (sM rfl (sS rfl (sM rfl sr_none)))))
 refine seqR ?_
 refine mG vN ?_
 refine mG vN ?_
 refine op0 ?_
 refine awp_seq ?_
 refine awp_imp ⟨(upd (upd (upd Z5x 18 (.q eLk MN)) 19 vN) 20 (.q eI (auL (Z5q d c e g j p s ow t) MN 0))), (Z5y e g j p d c s ow t)⟩ ?_ ?_
 ·skip
  refine (frz_ [51, 54] [(51, ⟨(Z5p e g j p), 39, 1⟩), (54, ⟨(Z5o d c e g j p s ow t), 81, 1⟩)] rfl (fun _ h => h) ⟨keep_cells (cs := (Z5p e g j p)) (by simp) rfl rfl fzA, keep_cells (cs := (Z5o d c e g j p s ow t)) (by simp) rfl rfl fzA, trivial⟩ (fz_lend 20 (.ro 0 []) .nil (fz_same 19 vN rfl (fz_same 18 (.q eLk MN) rfl (fz_same 17 (.pt 54 0) rfl (fz_same 14 vN rfl (fz_same 7 (.pt 51 0) rfl fz_none))))))).trans ?_
  exact iJ 51 51 54 54 (o := ⟨(Z5p e g j p), 39, 1⟩) (o2 := ⟨(Z5o d c e g j p s ow t), 81, 1⟩) rfl rfl
 refine seqR ?_
 refine mG (.q eLk MN) ?_
 refine oG (qN ut50 ?_)
 refine mG (.i 0) ?_
 refine op0 ?_
 refine awp_block ?_
 refine awp_countI (fun k => ⟨(upd (upd (upd (upd (upd Z5t 19 (.sl 3 0 ((auO (Z5q d c e g j p s ow t) MN k).length))) 20 (.q eI (auL (Z5q d c e g j p s ow t) MN k))) 50 (.q eLk MN)) 51 (.i (MN.length : Int))) 52 (.i (k : Int))), (updO (Z5s d c e g j p s ow t) 3 (.live ⟨(enc eI (auO (Z5q d c e g j p s ow t) MN k)), 3, 1⟩))⟩) (fun k => auR (Z5q d c e g j p s ow t) (MN.drop k) (auO (Z5q d c e g j p s ow t) MN k) (auL (Z5q d c e g j p s ow t) MN k) = (auT d c (Z5q d c e g j p s ow t) u)) (MN.length) ?_ (by rw [hT, hMN]; rfl) (fun k hk_k hinv => ?_)
 ·skip
  refine (imp_adopt 19 56 3 1 rfl rfl).trans ?_
  exact iL [(54, 1), (51, 2), (56, 3)] [((54, 1), .live _), ((51, 2), .live _), ((56, 3), .live _)] ⟨row_no rfl rfl, row_no rfl rfl, row_no (o := ⟨[], 3, 1⟩) rfl rfl, trivial⟩
 have hol := auO_len (f := (Z5q d c e g j p s ow t)) hmp k
 have hal := auL_len hf hmk k om
 refine seqR ?_
 refine bG ((.bool (decide ((k : Int) < (MN.length : Int))))) ?_
 refine op0 ?_
 refine awp_seq ?_
 refine awp_cond (decide ((k : Int) < (MN.length : Int))) rfl rfl (fun hc1 => ?_) (fun hc1 => ?_)
 ·skip
  have hf7 := of_decide_eq_true hc1
  have hxk := hmk _ (getD_mem (l := MN) (k := k) dLk om)
  have hxr := hxk.r
  have hxr2 : (MN.getD k dLk).route < (p.length : Int) := hxr.2
  have hxp := hmp _ (getD_mem (l := MN) (k := k) dLk om)
  have hpl := pcF_len (f := (Z5q d c e g j p s ow t)) (path := pathOf (Z5q d c e g j p s ow t) (MN.getD k dLk)) (ps := (MN.getD k dLk).pieces)
  refine awp_skip ?_
  refine awp_seq ?_
  refine awp_block ?_
  refine seqR ?_
  refine oG (qX dLk ut50 sz64 ?_)
  refine oG (qLB [.i ((MN.getD k dLk).route), .i ((MN.getD k dLk).train), .i ((MN.getD k dLk).ends), .ro ((MN.getD k dLk).pieces.length) (enc eU8 ((MN.getD k dLk).pieces))] ag64 sz64 ?_)
  refine oG (aop_alloc 57 rfl rfl rfl rfl ze64 rfl ?_)
  refine oG (qS sz64 ?_)
  refine rU (upd (upd (upd (upd (upd (upd Z5t 19 (.sl 3 0 ((auO (Z5q d c e g j p s ow t) MN k).length))) 20 (.q eI (auL (Z5q d c e g j p s ow t) MN k))) 22 (.pt 57 0)) 50 (.q eLk MN)) 51 (.i (MN.length : Int))) 52 (.i (k : Int))) (updO (updO (updO (Z5s d c e g j p s ow t) 3 (.live ⟨(enc eI (auO (Z5q d c e g j p s ow t) MN k)), 3, 1⟩)) 57 (.live Z5w)) 57 (.live ⟨[.i ((MN.getD k dLk).route), .i ((MN.getD k dLk).train), .i ((MN.getD k dLk).ends), .ro ((MN.getD k dLk).pieces.length) (enc eU8 ((MN.getD k dLk).pieces))], 64, 1⟩)) ?_
  refine awp_seq ?_
  refine seqR ?_
  refine fG (.pt 57 2) ft64_2 sz2 ?_
  refine oG (qL (.i ((MN.getD k dLk).ends)) ag2 ?_)
  refine bG ((.bool (decide (((MN.getD k dLk).ends) ≥ 0)))) ?_
  refine mG (.b (decide (((MN.getD k dLk).ends) ≥ 0))) ?_
  refine aops_grp 6 65 (.b ((decide (((MN.getD k dLk).ends) ≥ 0)) || (!(cntB (Z5q d c e g j p s ow t) (pathOf (Z5q d c e g j p s ow t) (MN.getD k dLk)) (auL (Z5q d c e g j p s ow t) MN k))))) ?_ ?_
  ·refine (Bool.eq_false_or_eq_true (decide (((MN.getD k dLk).ends) ≥ 0))).elim (fun hg8 => ?_) (fun hg8 => ?_)
   ·skip
    have hf9 := of_decide_eq_true hg8
    refine nG hg8 ?_
    refine nG hg8 ?_
    refine nG hg8 ?_
    refine nG hg8 ?_
    refine nG hg8 ?_
    refine oG (qP (decide (((MN.getD k dLk).ends) ≥ 0)) (.b true) hg8 ?_)
    refine op0 ?_
    exact imp_env (lee_both 65 _ _ (by rw [hg8] <;> rfl) lO)
   have hf10 := of_decide_eq_false hg8
   refine oY hg8 (qLB (Z5o d c e g j p s ow t) ag81 sz81 ?_)
   refine oY hg8 (qLB [.i ((MN.getD k dLk).route), .i ((MN.getD k dLk).train), .i ((MN.getD k dLk).ends), .ro ((MN.getD k dLk).pieces.length) (enc eU8 ((MN.getD k dLk).pieces))] ag64 sz64 ?_)
   refine oY hg8 (qM (.q eI (auL (Z5q d c e g j p s ow t) MN k)) ?_)
   refine oY hg8 (qC (show Fn Try.prog 35 [.agg [.one, .one, .ro ((Z5q d c e g j p s ow t).span.length) (enc eI ((Z5q d c e g j p s ow t).span)), .one, .one, .one, .one, .ro ((Z5q d c e g j p s ow t).routes.length) (enc eIL ((Z5q d c e g j p s ow t).routes)), .one, .one, .one, .one, .one, .one, .one, .one, .one], .agg [.i ((MN.getD k dLk).route), .one, .one, .one], .q eI (auL (Z5q d c e g j p s ow t) MN k)] (.b (cntB (Z5q d c e g j p s ow t) (pathOf (Z5q d c e g j p s ow t) (MN.getD k dLk)) (auL (Z5q d c e g j p s ow t) MN k))) from (a_counts (Z5q d c e g j p s ow t) (MN.getD k dLk).route (pathOf (Z5q d c e g j p s ow t) (MN.getD k dLk)) (auL (Z5q d c e g j p s ow t) MN k) hf hxr rfl hal)) bd35 ?_)
   refine oY hg8 (aop_not rfl rfl rfl rfl ?_)
   refine oG (qP (decide (((MN.getD k dLk).ends) ≥ 0)) (.b (!(cntB (Z5q d c e g j p s ow t) (pathOf (Z5q d c e g j p s ow t) (MN.getD k dLk)) (auL (Z5q d c e g j p s ow t) MN k)))) hg8 ?_)
   refine op0 ?_
   exact imp_env (lee_both 65 _ _ (by rw [hg8] <;> rfl) lO)
  refine op0 ?_
  refine rT (upd (upd (upd (upd (upd (upd (upd Z5t 19 (.sl 3 0 ((auO (Z5q d c e g j p s ow t) MN k).length))) 20 (.q eI (auL (Z5q d c e g j p s ow t) MN k))) 22 (.pt 57 0)) 50 (.q eLk MN)) 51 (.i (MN.length : Int))) 52 (.i (k : Int))) 65 (.b ((decide (((MN.getD k dLk).ends) ≥ 0)) || (!(cntB (Z5q d c e g j p s ow t) (pathOf (Z5q d c e g j p s ow t) (MN.getD k dLk)) (auL (Z5q d c e g j p s ow t) MN k)))))) (updO (updO (updO (Z5s d c e g j p s ow t) 3 (.live ⟨(enc eI (auO (Z5q d c e g j p s ow t) MN k)), 3, 1⟩)) 57 (.live Z5w)) 57 (.live ⟨[.i ((MN.getD k dLk).route), .i ((MN.getD k dLk).train), .i ((MN.getD k dLk).ends), .ro ((MN.getD k dLk).pieces.length) (enc eU8 ((MN.getD k dLk).pieces))], 64, 1⟩)) ?_
  refine awp_cond ((decide (((MN.getD k dLk).ends) ≥ 0)) || (!(cntB (Z5q d c e g j p s ow t) (pathOf (Z5q d c e g j p s ow t) (MN.getD k dLk)) (auL (Z5q d c e g j p s ow t) MN k)))) rfl rfl (fun hc2 => ?_) (fun hc2 => ?_)
  ·skip
   have hO := au_stop om hinv (lk_f hc2)
   refine awp_exit ?_
   refine seqR ?_
   refine mG (.sl 3 0 ((auO (Z5q d c e g j p s ow t) MN k).length)) ?_
   refine mG (.sl 3 0 ((auO (Z5q d c e g j p s ow t) MN k).length)) ?_
   refine op0 ?_
   refine awp_imp _ (imp_frozen rfl (fun _ h => h) (lee_lend 14 (.q eI (auO (Z5q d c e g j p s ow t) MN k)) (lend_s (id := 3) (n := (auO (Z5q d c e g j p s ow t) MN k).length) (o := ⟨(enc eI (auO (Z5q d c e g j p s ow t) MN k)), 3, 1⟩) rfl (enc_len (fun _ => rfl) (by first | rfl | (simp; done)))) lee_lend0)) ?_
   refine awp_ret ?_
   exact fret (av := .ro ((auO (Z5q d c e g j p s ow t) MN k).length) (enc eI (auO (Z5q d c e g j p s ow t) MN k))) rfl rfl (by rw [← hO] <;> rfl)
  obtain ⟨hf11a, hf11b⟩ := or_f hc2
  have hf12 := of_decide_eq_false hf11a
  have hf13 := not_f hf11b
  have hlt := lk_t hc2
  refine awp_skip ?_
  refine seqR ?_
  refine oG (qLB (Z5o d c e g j p s ow t) ag81 sz81 ?_)
  refine oG (qLB [.i ((MN.getD k dLk).route), .i ((MN.getD k dLk).train), .i ((MN.getD k dLk).ends), .ro ((MN.getD k dLk).pieces.length) (enc eU8 ((MN.getD k dLk).pieces))] ag64 sz64 ?_)
  refine oG (qC (show Fn Try.prog 36 [.agg [.i ((Z5q d c e g j p s ow t).id), .one, .one, .one, .one, .one, .one, .ro ((Z5q d c e g j p s ow t).routes.length) (enc eIL ((Z5q d c e g j p s ow t).routes)), .one, .one, .one, .one, .one, .rp [.one, .ro ((Z5q d c e g j p s ow t).secs.length) (enc eSec ((Z5q d c e g j p s ow t).secs)), .ro ((Z5q d c e g j p s ow t).parts.length) (enc eIL ((Z5q d c e g j p s ow t).parts)), .ro ((Z5q d c e g j p s ow t).pts.length) (enc ePnt ((Z5q d c e g j p s ow t).pts)), .one, .one, .one, .one, .one, .one], .ro ((Z5q d c e g j p s ow t).st.length) (enc eU8 ((Z5q d c e g j p s ow t).st)), .ro ((Z5q d c e g j p s ow t).ow.length) (enc eI ((Z5q d c e g j p s ow t).ow)), .ro ((Z5q d c e g j p s ow t).right.length) (enc eB ((Z5q d c e g j p s ow t).right))], .agg [.i ((MN.getD k dLk).route), .one, .one, .q eU8 ((MN.getD k dLk).pieces)]] (.tup [.ro ((pcF (Z5q d c e g j p s ow t) (pathOf (Z5q d c e g j p s ow t) (MN.getD k dLk)) (MN.getD k dLk).pieces).1.length) (enc eI ((pcF (Z5q d c e g j p s ow t) (pathOf (Z5q d c e g j p s ow t) (MN.getD k dLk)) (MN.getD k dLk).pieces).1)), .b ((pcF (Z5q d c e g j p s ow t) (pathOf (Z5q d c e g j p s ow t) (MN.getD k dLk)) (MN.getD k dLk).pieces).2)]) from (a_pieces (Z5q d c e g j p s ow t) (MN.getD k dLk).route (pathOf (Z5q d c e g j p s ow t) (MN.getD k dLk)) (MN.getD k dLk).pieces hf hxr rfl hxk.ps)) bd36 ?_)
  refine mG (.tup [.ro ((pcF (Z5q d c e g j p s ow t) (pathOf (Z5q d c e g j p s ow t) (MN.getD k dLk)) (MN.getD k dLk).pieces).1.length) (enc eI ((pcF (Z5q d c e g j p s ow t) (pathOf (Z5q d c e g j p s ow t) (MN.getD k dLk)) (MN.getD k dLk).pieces).1)), .b ((pcF (Z5q d c e g j p s ow t) (pathOf (Z5q d c e g j p s ow t) (MN.getD k dLk)) (MN.getD k dLk).pieces).2)]) ?_
  refine oG (qE ?_)
  refine oG (qE ?_)
  refine mG (.ro ((pcF (Z5q d c e g j p s ow t) (pathOf (Z5q d c e g j p s ow t) (MN.getD k dLk)) (MN.getD k dLk).pieces).1.length) (enc eI ((pcF (Z5q d c e g j p s ow t) (pathOf (Z5q d c e g j p s ow t) (MN.getD k dLk)) (MN.getD k dLk).pieces).1))) ?_
  refine mG (.b ((pcF (Z5q d c e g j p s ow t) (pathOf (Z5q d c e g j p s ow t) (MN.getD k dLk)) (MN.getD k dLk).pieces).2)) ?_
  refine rU (upd (upd (upd (upd (upd (upd (upd (upd Z5t 19 (.sl 3 0 ((auO (Z5q d c e g j p s ow t) MN k).length))) 20 (.q eI (auL (Z5q d c e g j p s ow t) MN k))) 22 (.pt 57 0)) 23 (.ro ((pcF (Z5q d c e g j p s ow t) (pathOf (Z5q d c e g j p s ow t) (MN.getD k dLk)) (MN.getD k dLk).pieces).1.length) (enc eI ((pcF (Z5q d c e g j p s ow t) (pathOf (Z5q d c e g j p s ow t) (MN.getD k dLk)) (MN.getD k dLk).pieces).1)))) 24 (.b ((pcF (Z5q d c e g j p s ow t) (pathOf (Z5q d c e g j p s ow t) (MN.getD k dLk)) (MN.getD k dLk).pieces).2))) 50 (.q eLk MN)) 51 (.i (MN.length : Int))) 52 (.i (k : Int))) (updO (updO (updO (Z5s d c e g j p s ow t) 3 (.live ⟨(enc eI (auO (Z5q d c e g j p s ow t) MN k)), 3, 1⟩)) 57 (.live Z5w)) 57 (.live ⟨[.i ((MN.getD k dLk).route), .i ((MN.getD k dLk).train), .i ((MN.getD k dLk).ends), .ro ((MN.getD k dLk).pieces.length) (enc eU8 ((MN.getD k dLk).pieces))], 64, 1⟩)) ?_
  refine seqR ?_
  refine mG (.sl 3 0 ((auO (Z5q d c e g j p s ow t) MN k).length)) ?_
  refine mG (.ro ((pcF (Z5q d c e g j p s ow t) (pathOf (Z5q d c e g j p s ow t) (MN.getD k dLk)) (MN.getD k dLk).pieces).1.length) (enc eI ((pcF (Z5q d c e g j p s ow t) (pathOf (Z5q d c e g j p s ow t) (MN.getD k dLk)) (MN.getD k dLk).pieces).1))) ?_
  refine oG (aop_appE (f := eI) (l := auO (Z5q d c e g j p s ow t) MN k) (l2 := (pcF (Z5q d c e g j p s ow t) (pathOf (Z5q d c e g j p s ow t) (MN.getD k dLk)) (MN.getD k dLk).pieces).1) 58 rfl rfl rfl rfl ut48 in3 rfl (by decide) rfl rfl rfl rfl rfl rfl (fun _ => rfl) rfl rfl rfl oo oo rfl ?_)
  refine mG (.sl 58 0 (((auO (Z5q d c e g j p s ow t) MN k) ++ ((pcF (Z5q d c e g j p s ow t) (pathOf (Z5q d c e g j p s ow t) (MN.getD k dLk)) (MN.getD k dLk).pieces).1)).length)) ?_
  refine rU (upd (upd (upd (upd (upd (upd (upd (upd Z5t 19 (.sl 58 0 (((auO (Z5q d c e g j p s ow t) MN k) ++ ((pcF (Z5q d c e g j p s ow t) (pathOf (Z5q d c e g j p s ow t) (MN.getD k dLk)) (MN.getD k dLk).pieces).1)).length))) 20 (.q eI (auL (Z5q d c e g j p s ow t) MN k))) 22 (.pt 57 0)) 23 (.ro ((pcF (Z5q d c e g j p s ow t) (pathOf (Z5q d c e g j p s ow t) (MN.getD k dLk)) (MN.getD k dLk).pieces).1.length) (enc eI ((pcF (Z5q d c e g j p s ow t) (pathOf (Z5q d c e g j p s ow t) (MN.getD k dLk)) (MN.getD k dLk).pieces).1)))) 24 (.b ((pcF (Z5q d c e g j p s ow t) (pathOf (Z5q d c e g j p s ow t) (MN.getD k dLk)) (MN.getD k dLk).pieces).2))) 50 (.q eLk MN)) 51 (.i (MN.length : Int))) 52 (.i (k : Int))) (updO (updO (updO (updO (updO (Z5s d c e g j p s ow t) 3 (.live ⟨(enc eI (auO (Z5q d c e g j p s ow t) MN k)), 3, 1⟩)) 57 (.live Z5w)) 57 (.live ⟨[.i ((MN.getD k dLk).route), .i ((MN.getD k dLk).train), .i ((MN.getD k dLk).ends), .ro ((MN.getD k dLk).pieces.length) (enc eU8 ((MN.getD k dLk).pieces))], 64, 1⟩)) 3 .dead) 58 (.live ⟨(enc eI ((auO (Z5q d c e g j p s ow t) MN k) ++ ((pcF (Z5q d c e g j p s ow t) (pathOf (Z5q d c e g j p s ow t) (MN.getD k dLk)) (MN.getD k dLk).pieces).1))), 3, 1⟩)) ?_
  refine awp_seq ?_
  refine seqR ?_
  refine mG (.b ((pcF (Z5q d c e g j p s ow t) (pathOf (Z5q d c e g j p s ow t) (MN.getD k dLk)) (MN.getD k dLk).pieces).2)) ?_
  refine oG (aop_not rfl rfl rfl rfl ?_)
  refine op0 ?_
  refine awp_cond (!((pcF (Z5q d c e g j p s ow t) (pathOf (Z5q d c e g j p s ow t) (MN.getD k dLk)) (MN.getD k dLk).pieces).2)) rfl rfl (fun hc3 => ?_) (fun hc3 => ?_)
  ·skip
   have hf14 := not_t hc3
   have hO := au_part om hinv hlt (by simpa using hc3)
   refine awp_exit ?_
   refine seqR ?_
   refine mG (.sl 58 0 (((auO (Z5q d c e g j p s ow t) MN k) ++ ((pcF (Z5q d c e g j p s ow t) (pathOf (Z5q d c e g j p s ow t) (MN.getD k dLk)) (MN.getD k dLk).pieces).1)).length)) ?_
   refine mG (.sl 58 0 (((auO (Z5q d c e g j p s ow t) MN k) ++ ((pcF (Z5q d c e g j p s ow t) (pathOf (Z5q d c e g j p s ow t) (MN.getD k dLk)) (MN.getD k dLk).pieces).1)).length)) ?_
   refine rU (upd none_ 14 (.sl 58 0 (((auO (Z5q d c e g j p s ow t) MN k) ++ ((pcF (Z5q d c e g j p s ow t) (pathOf (Z5q d c e g j p s ow t) (MN.getD k dLk)) (MN.getD k dLk).pieces).1)).length))) (updO (updO (updO (updO (updO (Z5s d c e g j p s ow t) 3 (.live ⟨(enc eI (auO (Z5q d c e g j p s ow t) MN k)), 3, 1⟩)) 57 (.live Z5w)) 57 (.live ⟨[.i ((MN.getD k dLk).route), .i ((MN.getD k dLk).train), .i ((MN.getD k dLk).ends), .ro ((MN.getD k dLk).pieces.length) (enc eU8 ((MN.getD k dLk).pieces))], 64, 1⟩)) 3 .dead) 58 (.live ⟨(enc eI ((auO (Z5q d c e g j p s ow t) MN k) ++ ((pcF (Z5q d c e g j p s ow t) (pathOf (Z5q d c e g j p s ow t) (MN.getD k dLk)) (MN.getD k dLk).pieces).1))), 3, 1⟩)) ?_
   refine awp_imp _ (imp_frozen rfl (fun _ h => h) (lee_lend 14 (.q eI ((auO (Z5q d c e g j p s ow t) MN k) ++ ((pcF (Z5q d c e g j p s ow t) (pathOf (Z5q d c e g j p s ow t) (MN.getD k dLk)) (MN.getD k dLk).pieces).1))) (lend_s (id := 58) (n := ((auO (Z5q d c e g j p s ow t) MN k) ++ ((pcF (Z5q d c e g j p s ow t) (pathOf (Z5q d c e g j p s ow t) (MN.getD k dLk)) (MN.getD k dLk).pieces).1)).length) (o := ⟨(enc eI ((auO (Z5q d c e g j p s ow t) MN k) ++ ((pcF (Z5q d c e g j p s ow t) (pathOf (Z5q d c e g j p s ow t) (MN.getD k dLk)) (MN.getD k dLk).pieces).1))), 3, 1⟩) rfl (enc_len (fun _ => rfl) (by first | rfl | (simp; done)))) lee_lend0)) ?_
   refine awp_ret ?_
   exact fret (av := .ro (((auO (Z5q d c e g j p s ow t) MN k) ++ ((pcF (Z5q d c e g j p s ow t) (pathOf (Z5q d c e g j p s ow t) (MN.getD k dLk)) (MN.getD k dLk).pieces).1)).length) (enc eI ((auO (Z5q d c e g j p s ow t) MN k) ++ ((pcF (Z5q d c e g j p s ow t) (pathOf (Z5q d c e g j p s ow t) (MN.getD k dLk)) (MN.getD k dLk).pieces).1)))) rfl rfl (by rw [← hO] <;> rfl)
  have hf15 := not_f hc3
  refine awp_skip ?_
  refine regR ?_
  refine fG (.pt 2 4) ft39_4 sz36 ?_
  refine oG (qL (.q eIL p) ag36 ?_)
  refine fG (.pt 57 0) ft64_0 sz3 ?_
  refine oG (qL (.i ((MN.getD k dLk).route)) ag3 ?_)
  refine oG (aop_ixI [] rfl rfl rfl ut36 sz48 rfl rfl (fun _ => rfl) rfl om oo ?_)
  refine oG (qL (.q eI (p.getD ((MN.getD k dLk).route).toNat [])) ag48 ?_)
  refine mG (.q eI (p.getD ((MN.getD k dLk).route).toNat [])) ?_
  refine op0 ?_
  refine rT (upd (upd (upd (upd (upd (upd (upd (upd Z5t 19 (.sl 58 0 (((auO (Z5q d c e g j p s ow t) MN k) ++ ((pcF (Z5q d c e g j p s ow t) (pathOf (Z5q d c e g j p s ow t) (MN.getD k dLk)) (MN.getD k dLk).pieces).1)).length))) 20 (.q eI (p.getD ((MN.getD k dLk).route).toNat []))) 22 (.pt 57 0)) 23 (.ro ((pcF (Z5q d c e g j p s ow t) (pathOf (Z5q d c e g j p s ow t) (MN.getD k dLk)) (MN.getD k dLk).pieces).1.length) (enc eI ((pcF (Z5q d c e g j p s ow t) (pathOf (Z5q d c e g j p s ow t) (MN.getD k dLk)) (MN.getD k dLk).pieces).1)))) 24 (.b ((pcF (Z5q d c e g j p s ow t) (pathOf (Z5q d c e g j p s ow t) (MN.getD k dLk)) (MN.getD k dLk).pieces).2))) 50 (.q eLk MN)) 51 (.i (MN.length : Int))) 52 (.i (k : Int))) (updO (updO (updO (updO (updO (Z5s d c e g j p s ow t) 3 (.live ⟨(enc eI (auO (Z5q d c e g j p s ow t) MN k)), 3, 1⟩)) 57 (.live Z5w)) 57 (.live ⟨[.i ((MN.getD k dLk).route), .i ((MN.getD k dLk).train), .i ((MN.getD k dLk).ends), .ro ((MN.getD k dLk).pieces.length) (enc eU8 ((MN.getD k dLk).pieces))], 64, 1⟩)) 3 .dead) 58 (.live ⟨(enc eI ((auO (Z5q d c e g j p s ow t) MN k) ++ ((pcF (Z5q d c e g j p s ow t) (pathOf (Z5q d c e g j p s ow t) (MN.getD k dLk)) (MN.getD k dLk).pieces).1))), 3, 1⟩)) ?_
  refine regR ?_
  refine oG (qB (.int .i64 ((k + 1 : Nat) : Int)) (addN om) ?_)
  refine mG (.i ((k + 1 : Nat) : Int)) ?_
  refine op0 ?_
  show _ ∧ _
  refine ⟨by omega, (au_on om hinv hlt (by simpa using hc3)), ?_⟩
  exact iL [(1, 1), (2, 2), (58, 3)] [((1, 1), .live _), ((2, 2), .live _), ((58, 3), .live _)] ⟨row_no rfl rfl, row_no rfl rfl, row_no rfl (by exact congrArg (fun l_ => LObj.mk (enc eI l_) 3 1) rfl), trivial⟩ (he := (sS rfl (sS rfl (sS rfl (sS rfl (sM (by exact congrArg (AV.sl 3 0) rfl) (sM rfl (sS rfl (sM rfl sr_none)))))))))
 have hf16 := of_decide_eq_false hc1
 have hO := au_end om hinv
 refine awp_exit ?_
 refine seqR ?_
 refine mG (.sl 3 0 ((auO (Z5q d c e g j p s ow t) MN k).length)) ?_
 refine mG (.sl 3 0 ((auO (Z5q d c e g j p s ow t) MN k).length)) ?_
 refine op0 ?_
 refine awp_imp _ (imp_frozen rfl (fun _ h => h) (lee_lend 14 (.q eI (auO (Z5q d c e g j p s ow t) MN k)) (lend_s (id := 3) (n := (auO (Z5q d c e g j p s ow t) MN k).length) (o := ⟨(enc eI (auO (Z5q d c e g j p s ow t) MN k)), 3, 1⟩) rfl (enc_len (fun _ => rfl) (by first | rfl | (simp; done)))) lee_lend0)) ?_
 refine awp_ret ?_
 exact fret (av := .ro ((auO (Z5q d c e g j p s ow t) MN k).length) (enc eI (auO (Z5q d c e g j p s ow t) MN k))) rfl rfl (by rw [← hO] <;> rfl)
theorem bd16 : bodied Try.prog 16 = true := by kernel_rfl
theorem bd17 : bodied Try.prog 17 = true := by kernel_rfl
theorem bd45 : bodied Try.prog 45 = true := by kernel_rfl
theorem ft30_3 : fieldT Try.prog 30 3 = some (27, 3) := by kernel_rfl
theorem ft30_4 : fieldT Try.prog 30 4 = some (27, 4) := by kernel_rfl
theorem ft30_5 : fieldT Try.prog 30 5 = some (28, 5) := by kernel_rfl
theorem ft58_0 : fieldT Try.prog 58 0 = some (3, 0) := by kernel_rfl
theorem ft58_1 : fieldT Try.prog 58 1 = some (3, 1) := by kernel_rfl
theorem ft58_2 : fieldT Try.prog 58 2 = some (2, 2) := by kernel_rfl
theorem ft58_3 : fieldT Try.prog 58 3 = some (27, 3) := by kernel_rfl
theorem in5 : (Try.prog.info? 5).map (fun i => (i.zero, i.size, i.bytes)) = some (some (.int .u8 0), 1, 1) := by kernel_rfl
theorem iz5 : (Try.prog.info? 5).map (fun i => (i.zero, i.size)) = some (some (.int .u8 0), 1) := by kernel_rfl
theorem iz63 : (Try.prog.info? 63).map (fun i => (i.zero, i.size)) = some (some (.agg #[(.int .i64 0), (.bool false), (.slice none 0 0)]), 3) := by kernel_rfl
theorem pl25 : placesOf Try.prog 25 = some ((.agg #[(.int .u8 0), (.int .u8 0), (.int .u8 0), (.int .u16 0), (.int .u16 0), (.int .u8 0), (.int .u8 0), (.int .u8 0), (.slice none 0 0)]), fun i => ([(0, 1), (1, 1), (2, 1), (3, 1), (4, 1), (5, 1), (6, 1), (7, 1), (8, 1)] : List (Nat × Nat)).toArray[i]?) := by kernel_rfl
theorem pl64 : placesOf Try.prog 64 = some ((.agg #[(.int .i64 0), (.int .i64 0), (.int .i64 0), (.slice none 0 0)]), fun i => ([(0, 1), (1, 1), (2, 1), (3, 1)] : List (Nat × Nat)).toArray[i]?) := by kernel_rfl
theorem sz30 : (Try.prog.info? 30).map (·.size) = some 8 := by kernel_rfl
theorem sz58 : (Try.prog.info? 58).map (·.size) = some 4 := by kernel_rfl
theorem ut41 : Try.prog.underlying 41 = some (.slice 58) := by kernel_rfl
abbrev Z64 : List AV := [.one, .q eSec (mkSecs 0 0), .q eIL (mkParts 0 0), .q ePnt (mkPts 0), .q eIL noR, .one, .one, .one, .one, .one]
abbrev Z63 : Nat → AV := (upd (upd none_ 0 (.b false)) 1 (.pt 51 0))
abbrev Z62 : Nat → OSt := (updO (updO noOb 51 (.live ⟨[vN, vN, vN, vN, vN, .i 0, .i 0, .i 0, .i 0, .i 0], 39, 1⟩)) 51 (.live ⟨[.one, .q eSec (mkSecs 0 0), .q eIL (mkParts 0 0), .q ePnt (mkPts 0), vN, .i (1 + 0 % (2 * (10 * (1 + 0 % 20)))), .i (1 + 0 % 1000), .i (1 + 0 % 1000), .i (1 + 0), .i (0 % 4)], 39, 1⟩))
abbrev Z61 : List AV := [.one, .q eSec (mkSecs 0 0), .q eIL (mkParts 0 0), .q ePnt (mkPts 0), .ro 1 (enc eIL noR), .i (1 + 0 % (2 * (10 * (1 + 0 % 20)))), .i (1 + 0 % 1000), .i (1 + 0 % 1000), .i (1 + 0), .i (0 % 4)]
abbrev Z60 : Nat → OSt := (updO Z62 51 (.live ⟨Z61, 39, 1⟩))
abbrev Z65 : Nat → AV := (upd (upd Z63 2 (.ro 1 (enc eV noV))) 3 (.ro 1 (enc eLk noK)))
theorem l16_none   : Fn Try.prog 10 [] (.v (.bool true)) := by
 have hel := mkEnds_len 0
 have hsl := mkSecs_len 0 0
 have hpl := mkPts_len 0
 refine fnE_of_body (N := 36) Try.func10 rfl rfl (resOf1 rfl) (by simp) (fun w0 X hL_ => ?_)
 refine seqR ?_
 refine mG (.b false) ?_
 refine op0 ?_
 refine seqR ?_
 refine oG (qD pl25 ?_)
 refine oG (qC (r04_Make 0 0 0 0 0 0 0 0 (by decide) (by decide) (by decide) (by decide) (by decide) (by decide) (by decide) (by decide)) bd25 ?_)
 refine oG (aop_alloc 51 rfl rfl rfl rfl ze39 rfl ?_)
 refine oG (qS sz39 ?_)
 refine rU Z63 Z62 ?_
 refine seqR ?_
 refine oG (aop_lit (cells := enc eI ([0, 1, 2] : List Int)) rfl rfl rfl ut48 iz3 (by decide) (by decide) rfl rfl ?_)
 refine oG (aop_lit (cells := enc eIL noR) rfl rfl rfl ut36 iz48 (by decide) (by decide) rfl rfl ?_)
 refine fG (.pt 51 4) ft39_4 sz36 ?_
 refine oG (qS sz36 ?_)
 refine rU Z63 Z60 ?_
 refine seqR ?_
 refine oG (aop_lit (cells := enc eI ([0] : List Int)) rfl rfl rfl ut48 iz3 (by decide) (by decide) rfl rfl ?_)
 refine oG (qD pl63 ?_)
 refine oG (aop_lit (cells := enc eV noV) rfl rfl rfl ut43 iz63 (by decide) (by decide) rfl rfl ?_)
 refine mG (.ro 1 (enc eV noV)) ?_
 refine rU (upd Z63 2 (.ro 1 (enc eV noV))) Z60 ?_
 refine seqR ?_
 refine oG (aop_lit (cells := enc eU8 ([1, 1] : List Int)) rfl rfl rfl ut27 iz5 (by decide) (by decide) rfl rfl ?_)
 refine oG (qD pl64 ?_)
 refine oG (aop_lit (cells := enc eLk noK) rfl rfl rfl ut50 iz64 (by decide) (by decide) rfl rfl ?_)
 refine mG (.ro 1 (enc eLk noK)) ?_
 refine rU Z65 Z60 ?_
 refine seqR ?_
 refine oG (aop_lit (cells := enc eU8 noS) rfl rfl rfl ut27 iz5 (by decide) (by decide) rfl rfl ?_)
 refine oG (aop_lit (cells := enc eI noO) rfl rfl rfl ut48 iz3 (by decide) (by decide) rfl rfl ?_)
 refine mG (.ro 3 (enc eU8 noS)) ?_
 refine mG (.ro 3 (enc eI noO)) ?_
 refine rU (upd (upd Z65 4 (.ro 3 (enc eU8 noS))) 5 (.ro 3 (enc eI noO))) Z60 ?_
 refine seqR ?_
 refine oG (qLB Z61 ag39 sz39 ?_)
 refine mG (.ro 3 (enc eU8 noS)) ?_
 refine mG (.ro 3 (enc eI noO)) ?_
 refine mG (.ro 1 (enc eV noV)) ?_
 refine oG (callW_ (show Fn Try.prog 17 [.agg Z64, .q eLk ([] : List Lk), .q eU8 noS, .q eI noO, .q eV noV, .q eB ([] : List Bool), .i 3] (.q eI ([] : List Int)) from (by have h_ := a_Of noV 3 (mkSecs 0 0) (mkParts 0 0) (mkPts 0) noR noS noO [] [] noF_ok (fun x h => by cases h) (by decide) (by decide); rw [no_1] at h_; exact h_)) rfl rfl rfl rfl rfl bd17 (lends_cons (lend_agg lS) (lends_cons .nil (lends_cons (lend_n (av := .ro 3 (enc eU8 noS))) (lends_cons (lend_n (av := .ro 3 (enc eI noO))) (lends_cons (lend_n (av := .ro 1 (enc eV noV))) (lends_cons .nil lS)))))) ?_)
 refine oG (qN ut48 ?_)
 refine bG ((.bool ((([] : List Int).length : Int) == 0))) ?_
 refine mG (.b ((([] : List Int).length : Int) == 0)) ?_
 refine aops_grp 9 35 (.b (((([] : List Int).length : Int) == 0) && (decide (([1] : List Int) = ([1] : List Int))))) ?_ ?_
 ·refine (Bool.eq_false_or_eq_true ((([] : List Int).length : Int) == 0)).elim (fun hg1 => ?_) (fun hg1 => ?_)
  ·skip
   have hf2 := (beq_iff_eq).1 hg1
   refine oY hg1 (qLB Z61 ag39 sz39 ?_)
   refine oY hg1 (qM (.ro 1 (enc eLk noK)) ?_)
   refine oY hg1 (qM (.ro 3 (enc eU8 noS)) ?_)
   refine oY hg1 (qM (.ro 3 (enc eI noO)) ?_)
   refine oY hg1 (qM (.ro 1 (enc eV noV)) ?_)
   refine oY hg1 (callW_ (show Fn Try.prog 17 [.agg Z64, .q eLk noK, .q eU8 noS, .q eI noO, .q eV noV, .q eB ([] : List Bool), .i 3] (.q eI ([1] : List Int)) from (by have h_ := a_Of noV 3 (mkSecs 0 0) (mkParts 0 0) (mkPts 0) noR noS noO [] noK noF_ok noK_ok (by decide) (by decide); rw [no_2] at h_; exact h_)) rfl rfl rfl rfl rfl bd17 (lends_cons (lend_agg lS) (lends_cons (lend_n (av := .ro 1 (enc eLk noK))) (lends_cons (lend_n (av := .ro 3 (enc eU8 noS))) (lends_cons (lend_n (av := .ro 3 (enc eI noO))) (lends_cons (lend_n (av := .ro 1 (enc eV noV))) (lends_cons .nil lS)))))) ?_)
   refine oY hg1 (aop_lit (cells := enc eI ([1] : List Int)) rfl rfl rfl ut48 iz3 (by decide) (by decide) rfl rfl ?_)
   refine oY hg1 (qJ (r01_Ints [1] [1] (by decide)) bd16 ?_)
   refine oG (qP ((([] : List Int).length : Int) == 0) (.b (decide (([1] : List Int) = ([1] : List Int)))) hg1 ?_)
   refine op0 ?_
   exact imp_env (lee_both 35 _ _ (by rw [hg1] <;> rfl) lO)
  have hf3 := (beq_eq_false_iff_ne).1 hg1
  refine nG hg1 ?_
  refine nG hg1 ?_
  refine nG hg1 ?_
  refine nG hg1 ?_
  refine nG hg1 ?_
  refine nG hg1 ?_
  refine nG hg1 ?_
  refine nG hg1 ?_
  refine oG (qP ((([] : List Int).length : Int) == 0) (.b false) hg1 ?_)
  refine op0 ?_
  exact imp_env (lee_both 35 _ _ (by rw [hg1] <;> rfl) lO)
 refine mG (.b (((([] : List Int).length : Int) == 0) && (decide (([1] : List Int) = ([1] : List Int))))) ?_
 refine op0 ?_
 refine rT (upd none_ 0 (.b (((([] : List Int).length : Int) == 0) && (decide (([1] : List Int) = ([1] : List Int)))))) Z60 ?_
 refine awp_ret ?_
 exact fret (av := .v (.bool (((([] : List Int).length : Int) == 0) && (decide (([1] : List Int) = ([1] : List Int)))))) rfl rfl (by simp)
abbrev Z67 (ls : List Lk) (r : Int) (k : Nat) : Nat → AV := (upd (upd (upd (upd none_ 0 (.q eLk ls)) 1 (.i r)) 4 (.i 0)) 5 (.i (k : Int)))
abbrev Z66 (ls : List Lk) (k : Nat) : AV := (.rp (([.i ((ls.getD k dLk).route), .i ((ls.getD k dLk).train), .i ((ls.getD k dLk).ends), .ro ((ls.getD k dLk).pieces.length) (enc eU8 ((ls.getD k dLk).pieces))] : List AV) ++ ((enc eLk ls).drop ((k + 1) * 4))))
theorem r15_find (ls : List Lk) (r : Int) (hll : ls.length ≤ 65536) : Fn Try.prog 43 [.ro ls.length (enc eLk ls), .v (.int .i64 r)] (.v (.int .i64 (findL ls r))) := by
 refine fnE_of_body (N := 20) Try.func43 rfl rfl (resOf1 rfl) (by simp) (fun w0 X hL_ => ?_)
 refine seqR ?_
 refine mG (.i 0) ?_
 refine op0 ?_
 refine awp_seq ?_
 refine seqR ?_
 refine mG (.i 0) ?_
 refine op0 ?_
 refine awp_block ?_
 refine awp_countI (fun k => ⟨(Z67 ls r k), noOb⟩) (fun k => (ls.take k).any (fun x : Lk => decide (x.route = r)) = false) (ls.length) ?_ (by simp) (fun k hk_k hinv => ?_)
 ·skip
  exact iN
 refine awp_seq ?_
 refine seqR ?_
 refine mG (.i (k : Int)) ?_
 refine mG (.q eLk ls) ?_
 refine oG (qN ut41 ?_)
 refine bG ((.bool (decide ((k : Int) < (ls.length : Int))))) ?_
 refine rU (upd (Z67 ls r k) 9 (.b (decide ((k : Int) < (ls.length : Int))))) noOb ?_
 refine awp_cond (decide ((k : Int) < (ls.length : Int))) rfl rfl (fun hc0 => ?_) (fun hc0 => ?_)
 ·skip
  have hf1 := of_decide_eq_true hc0
  refine awp_skip ?_
  refine awp_seq ?_
  refine awp_block ?_
  refine seqR ?_
  refine mG (.q eLk ls) ?_
  refine mG (.i (k : Int)) ?_
  refine oG (qX dLk ut41 sz58 ?_)
  refine oG (qF (Z66 ls k) (Z66 ls k) ft58_0 sz3 ?_)
  refine oG (qL (.i ((ls.getD k dLk).route)) ag3 ?_)
  refine mG (.i r) ?_
  refine bG ((.bool (((ls.getD k dLk).route) == r))) ?_
  refine rU (upd (Z67 ls r k) 18 (.b (((ls.getD k dLk).route) == r))) noOb ?_
  refine awp_cond (((ls.getD k dLk).route) == r) rfl rfl (fun hc1 => ?_) (fun hc1 => ?_)
  ·skip
   have hf2 := (beq_iff_eq).1 hc1
   refine seqR ?_
   refine mG (.i (k : Int)) ?_
   refine mG (.i (k : Int)) ?_
   refine op0 ?_
   refine awp_ret ?_
   exact fret (av := .v (.int .i64 (k : Int))) rfl rfl (by unfold findL; rw [idxB_stop (f := fun x : Lk => decide (x.route = r)) dLk om hinv (by simpa using hc1)] <;> rfl)
  have hf3 := (beq_eq_false_iff_ne).1 hc1
  refine awp_skip ?_
  refine regR ?_
  refine mG (.i (k : Int)) ?_
  refine oG (qB (.int .i64 ((k + 1 : Nat) : Int)) (addN om) ?_)
  refine mG (.i ((k + 1 : Nat) : Int)) ?_
  refine op0 ?_
  show _ ∧ _
  refine ⟨by omega, (any_step dLk om hinv (by simpa using hc1)), ?_⟩
  exact iN
 have hf4 := of_decide_eq_false hc0
 refine awp_exit ?_
 refine seqR ?_
 refine mG (.i (-1)) ?_
 refine op0 ?_
 refine awp_ret ?_
 exact fret (av := .v (.int .i64 (-1))) rfl rfl (by unfold findL; rw [idxB_end (f := fun x : Lk => decide (x.route = r)) om hinv] <;> rfl)
abbrev Z6e (a : List (List Int)) : LObj := ⟨[.one, .one, .one, .one, .q eIL a, .one, .one, .one, .one, .one], 39, 1⟩
abbrev Z6c (ls : List Lk) (i : Nat) : List AV := (enc eU8 ((ls.getD i dLk).pieces))
abbrev Z6b (ls : List Lk) (s : Int) (i : Nat) : Nat → AV := (upd (upd (upd (upd (upd none_ 1 (.q eLk ls)) 2 (.i s)) 3 (.pt 1 0)) 6 (.i 0)) 7 (.i (i : Int)))
abbrev Z6a (a : List (List Int)) : Nat → OSt := (updO noOb 1 (.live (Z6e a)))
abbrev Z68 (ls : List Lk) (i : Nat) : List AV := [.i ((ls.getD i dLk).route), .i ((ls.getD i dLk).train), .i ((ls.getD i dLk).ends), .ro ((ls.getD i dLk).pieces.length) (Z6c ls i)]
abbrev Z6d (ls : List Lk) (i : Nat) : AV := (.rp (([.ro ((ls.getD i dLk).pieces.length) (Z6c ls i)] : List AV) ++ ((enc eLk ls).drop ((i + 1) * 4))))
abbrev Z69 (ls : List Lk) (i : Nat) : AV := (.rp (((Z68 ls i) : List AV) ++ ((enc eLk ls).drop ((i + 1) * 4))))
theorem r15_Whose (a : List (List Int)) (ls : List Lk) (s : Int) (hro : a.length ≤ 65536) (hll : ls.length ≤ 65536) (hlk : ∀ x, x ∈ ls → LkR a x) : Fn Try.prog 44 [.agg [.one, .one, .one, .one, .ro a.length (enc eIL a), .one, .one, .one, .one, .one], .ro ls.length (enc eLk ls), .v (.int .i64 s)] (.v (.int .i64 (whoseL a ls s))) := by
 refine fnE_of_body (N := 56) Try.func44 rfl rfl (resOf1 rfl) (by simp) (fun w0 X hL_ => ?_)
 refine seqR ?_
 refine oG (qW 51 ?_)
 refine mG (.i 0) ?_
 refine op0 ?_
 refine awp_seq ?_
 refine seqR ?_
 refine mG (.i 0) ?_
 refine op0 ?_
 refine awp_block ?_
 refine awp_countI (fun i => ⟨(Z6b ls s i), (Z6a a)⟩) (fun i => (ls.take i).any (hasP a s) = false) (ls.length) ?_ (by simp) (fun i hk_i hinv => ?_)
 ·skip
  exact iI 51 1 (o := (Z6e a)) rfl
 refine awp_seq ?_
 refine seqR ?_
 refine mG (.i (i : Int)) ?_
 refine mG (.q eLk ls) ?_
 refine oG (qN ut41 ?_)
 refine bG ((.bool (decide ((i : Int) < (ls.length : Int))))) ?_
 refine rU (upd (Z6b ls s i) 12 (.b (decide ((i : Int) < (ls.length : Int))))) (Z6a a) ?_
 refine awp_cond (decide ((i : Int) < (ls.length : Int))) rfl rfl (fun hc0 => ?_) (fun hc0 => ?_)
 ·skip
  have hf1 := of_decide_eq_true hc0
  have hW := hinv
  have hxk := hlk _ (getD_mem (l := ls) (k := i) dLk om)
  have hxr := hxk.r
  have hxp := hxk.ps
  have hxl := hxk.ln
  refine awp_skip ?_
  refine awp_seq ?_
  refine awp_block ?_
  refine seqR ?_
  refine mG (.i 0) ?_
  refine op0 ?_
  refine awp_block ?_
  refine awp_countI (fun k => ⟨(upd (Z6b ls s i) 8 (.i (k : Int))), (Z6a a)⟩) (fun k => hasPK (a.getD (ls.getD i dLk).route.toNat []) (ls.getD i dLk).pieces s k = false) ((ls.getD i dLk).pieces.length) ?_ rfl (fun k hk_k hinv => ?_)
  ·skip
   exact iI 1 1 rfl
  refine awp_seq ?_
  refine seqR ?_
  refine mG (.i (k : Int)) ?_
  refine mG (.q eLk ls) ?_
  refine mG (.i (i : Int)) ?_
  refine oG (qX dLk ut41 sz58 ?_)
  refine oG (qF (Z69 ls i) (Z6d ls i) ft58_3 sz27 ?_)
  refine oG (qL (.ro ((ls.getD i dLk).pieces.length) (Z6c ls i)) ag27 ?_)
  refine oG (qN ut27 ?_)
  refine bG ((.bool (decide ((k : Int) < ((ls.getD i dLk).pieces.length : Int))))) ?_
  refine rU (upd (upd (Z6b ls s i) 8 (.i (k : Int))) 22 (.b (decide ((k : Int) < ((ls.getD i dLk).pieces.length : Int))))) (Z6a a) ?_
  refine awp_cond (decide ((k : Int) < ((ls.getD i dLk).pieces.length : Int))) rfl rfl (fun hc1 => ?_) (fun hc1 => ?_)
  ·skip
   have hf2 := of_decide_eq_true hc1
   refine awp_skip ?_
   refine awp_seq ?_
   refine awp_block ?_
   refine awp_seq ?_
   refine (Bool.eq_false_or_eq_true (((a.getD ((ls.getD i dLk).route).toNat []).getD (k + 1) 0) == s)).elim (fun hq0 => ?_) (fun hq0 => ?_)
   ·skip
    have hf4 := (beq_iff_eq).1 hq0
    refine aD 26 [(50, .b ((((ls.getD i dLk).pieces).getD k 0) != 0)), (49, .b ((((ls.getD i dLk).pieces).getD k 0) != 0)), (48, .v (.int .u8 (((ls.getD i dLk).pieces).getD k 0))), (47, .rp (([.v (.int .u8 (((ls.getD i dLk).pieces).getD k 0))] : List AV) ++ ((Z6c ls i).drop ((k + 1) * 1)))), (46, .i (k : Int)), (45, .ro ((ls.getD i dLk).pieces.length) (Z6c ls i)), (44, .rp (([.ro ((ls.getD i dLk).pieces.length) (Z6c ls i)] : List AV) ++ ((enc eLk ls).drop ((i + 1) * 4)))), (43, .rp (((Z68 ls i) : List AV) ++ ((enc eLk ls).drop ((i + 1) * 4)))), (42, .i (i : Int)), (41, .q eLk ls), (40, .b (((a.getD ((ls.getD i dLk).route).toNat []).getD (k + 1) 0) == s)), (39, .b (((a.getD ((ls.getD i dLk).route).toNat []).getD (k + 1) 0) == s)), (38, .i s), (37, .i ((a.getD ((ls.getD i dLk).route).toNat []).getD (k + 1) 0)), (36, .rp (([.i ((a.getD ((ls.getD i dLk).route).toNat []).getD (k + 1) 0)] : List AV) ++ ((enc eI (a.getD ((ls.getD i dLk).route).toNat [])).drop (((k + 1) + 1) * 1)))), (35, .i ((k + 1 : Nat) : Int)), (34, .i (k : Int)), (33, .q eI (a.getD ((ls.getD i dLk).route).toNat [])), (32, .rp (([.q eI (a.getD ((ls.getD i dLk).route).toNat [])] : List AV) ++ ((enc eIL a).drop ((((ls.getD i dLk).route).toNat + 1) * 1)))), (31, .i ((ls.getD i dLk).route)), (30, .rp (((Z68 ls i) : List AV) ++ ((enc eLk ls).drop ((i + 1) * 4)))), (29, .rp (((Z68 ls i) : List AV) ++ ((enc eLk ls).drop ((i + 1) * 4)))), (28, .i (i : Int)), (27, .q eLk ls), (26, .q eIL a), (25, .pt 1 4)] mixed ?_ ?_
    ·iterate 26 (refine ⟨?_, ?_⟩; rotate_left)
     trivial
     ·exact sF (.pt 1 0) (.pt 1 4) ft39_4 sz36
     ·exact sL ag36
     ·exact sMv
     ·exact sMv
     ·exact (sIx dLk ut41 sz58)
     ·exact sF (Z69 ls i) (Z69 ls i) ft58_0 sz3
     ·exact (sLd ag3)
     ·exact dW 32 fun st hob hE => aop_ixI [] rfl rfl rfl ut36 sz48 (hE 26 rfl) (hE 31 rfl) (fun _ => rfl) rfl om oo (by rw [hob]; rfl)
     ·exact (sLd ag48)
     ·exact sMv
     ·exact sB (.int .i64 ((k + 1 : Nat) : Int)) (addN om)
     ·exact (sIx (0 : Int) ut48 sz3)
     ·exact (sLd ag3)
     ·exact sMv
     ·exact sB (.bool (((a.getD ((ls.getD i dLk).route).toNat []).getD (k + 1) 0) == s)) rfl
     ·exact sMv
     ·exact gy1 hq0 sMv
     ·exact gy1 hq0 sMv
     ·exact gy1 hq0 (sIx dLk ut41 sz58)
     ·exact gy1 hq0 (sF (Z69 ls i) (Z6d ls i) ft58_3 sz27)
     ·exact gy1 hq0 (sLd ag27)
     ·exact gy1 hq0 sMv
     ·exact gy1 hq0 (sIx (0 : Int) ut27 sz5)
     ·exact gy1 hq0 (sLd ag5)
     ·exact gy1 hq0 (sB (.bool ((((ls.getD i dLk).pieces).getD k 0) != 0)) rfl)
     exact dW 50 fun st hob hE => aop_pick (b := (((a.getD ((ls.getD i dLk).route).toNat []).getD (k + 1) 0) == s)) (av := .b ((((ls.getD i dLk).pieces).getD k 0) != 0)) rfl rfl rfl (hE 40 rfl) (by rw [hq0]; exact hE 49 rfl) (by rw [hob]; rfl)
    refine op0 ?_
    refine awp_cond ((((ls.getD i dLk).pieces).getD k 0) != 0) rfl rfl (fun hc2 => ?_) (fun hc2 => ?_)
    ·skip
     have hf5 := (bne_iff_ne).1 hc2
     have hpt : pcB (a.getD (ls.getD i dLk).route.toNat []) (ls.getD i dLk).pieces s k = true := pcB_t hq0 hc2
     refine seqR ?_
     refine mG (.q eLk ls) ?_
     refine mG (.i (i : Int)) ?_
     refine oG (qX dLk ut41 sz58 ?_)
     refine oG (qF (Z69 ls i) (Z69 ls i) ft58_0 sz3 ?_)
     refine oG (qL (.i ((ls.getD i dLk).route)) ag3 ?_)
     refine mG (.i ((ls.getD i dLk).route)) ?_
     refine rU (upd (upd (upd (upd (upd (upd none_ 1 (.q eLk ls)) 2 (.i s)) 3 (.pt 1 0)) 6 (.i ((ls.getD i dLk).route))) 7 (.i (i : Int))) 8 (.i (k : Int))) (Z6a a) ?_
     refine awp_ret ?_
     exact fret (av := .v (.int .i64 ((ls.getD i dLk).route))) rfl rfl (by first | rw [whose_at om hW (hasPK_on om hpt)] | rw [whose_no om hinv])
    have hf6 := (bne_eq_false_iff_eq).1 hc2
    have hnp : pcB (a.getD (ls.getD i dLk).route.toNat []) (ls.getD i dLk).pieces s k = false := pcB_f2 hc2
    refine awp_skip ?_
    refine regR ?_
    refine mG (.i (k : Int)) ?_
    refine oG (qB (.int .i64 ((k + 1 : Nat) : Int)) (addN om) ?_)
    refine mG (.i ((k + 1 : Nat) : Int)) ?_
    refine op0 ?_
    show _ ∧ _
    refine ⟨by omega, (hasPK_step hinv hnp), ?_⟩
    exact iI 1 1 rfl
   have hf7 := (beq_eq_false_iff_ne).1 hq0
   have hnp : pcB (a.getD (ls.getD i dLk).route.toNat []) (ls.getD i dLk).pieces s k = false := pcB_f1 hq0
   refine aD 26 [(50, .b false), (49, .v undef), (48, .v undef), (47, .v undef), (46, .v undef), (45, .v undef), (44, .v undef), (43, .v undef), (42, .v undef), (41, .v undef), (40, .b (((a.getD ((ls.getD i dLk).route).toNat []).getD (k + 1) 0) == s)), (39, .b (((a.getD ((ls.getD i dLk).route).toNat []).getD (k + 1) 0) == s)), (38, .i s), (37, .i ((a.getD ((ls.getD i dLk).route).toNat []).getD (k + 1) 0)), (36, .rp (([.i ((a.getD ((ls.getD i dLk).route).toNat []).getD (k + 1) 0)] : List AV) ++ ((enc eI (a.getD ((ls.getD i dLk).route).toNat [])).drop (((k + 1) + 1) * 1)))), (35, .i ((k + 1 : Nat) : Int)), (34, .i (k : Int)), (33, .q eI (a.getD ((ls.getD i dLk).route).toNat [])), (32, .rp (([.q eI (a.getD ((ls.getD i dLk).route).toNat [])] : List AV) ++ ((enc eIL a).drop ((((ls.getD i dLk).route).toNat + 1) * 1)))), (31, .i ((ls.getD i dLk).route)), (30, .rp (((Z68 ls i) : List AV) ++ ((enc eLk ls).drop ((i + 1) * 4)))), (29, .rp (((Z68 ls i) : List AV) ++ ((enc eLk ls).drop ((i + 1) * 4)))), (28, .i (i : Int)), (27, .q eLk ls), (26, .q eIL a), (25, .pt 1 4)] mixed ?_ ?_
   ·iterate 26 (refine ⟨?_, ?_⟩; rotate_left)
    trivial
    ·exact sF (.pt 1 0) (.pt 1 4) ft39_4 sz36
    ·exact sL ag36
    ·exact sMv
    ·exact sMv
    ·exact (sIx dLk ut41 sz58)
    ·exact sF (Z69 ls i) (Z69 ls i) ft58_0 sz3
    ·exact (sLd ag3)
    ·exact dW 32 fun st hob hE => aop_ixI [] rfl rfl rfl ut36 sz48 (hE 26 rfl) (hE 31 rfl) (fun _ => rfl) rfl om oo (by rw [hob]; rfl)
    ·exact (sLd ag48)
    ·exact sMv
    ·exact sB (.int .i64 ((k + 1 : Nat) : Int)) (addN om)
    ·exact (sIx (0 : Int) ut48 sz3)
    ·exact (sLd ag3)
    ·exact sMv
    ·exact sB (.bool (((a.getD ((ls.getD i dLk).route).toNat []).getD (k + 1) 0) == s)) rfl
    ·exact sMv
    ·exact gn1 hq0
    ·exact gn1 hq0
    ·exact gn1 hq0
    ·exact gn1 hq0
    ·exact gn1 hq0
    ·exact gn1 hq0
    ·exact gn1 hq0
    ·exact gn1 hq0
    ·exact gn1 hq0
    exact sPk (((a.getD ((ls.getD i dLk).route).toNat []).getD (k + 1) 0) == s) (.b false) hq0
   refine op0 ?_
   refine awp_cond false rfl rfl (fun h => by cases h) (fun _ => ?_)
   refine awp_skip ?_
   refine regR ?_
   refine mG (.i (k : Int)) ?_
   refine oG (qB (.int .i64 ((k + 1 : Nat) : Int)) (addN om) ?_)
   refine mG (.i ((k + 1 : Nat) : Int)) ?_
   refine op0 ?_
   show _ ∧ _
   refine ⟨by omega, (hasPK_step hinv hnp), ?_⟩
   exact iI 1 1 rfl
  have hf8 := of_decide_eq_false hc1
  refine awp_exit ?_
  refine regR ?_
  refine mG (.i (i : Int)) ?_
  refine oG (qB (.int .i64 ((i + 1 : Nat) : Int)) (addN om) ?_)
  refine mG (.i ((i + 1 : Nat) : Int)) ?_
  refine op0 ?_
  show _ ∧ _
  refine ⟨by omega, (any_step dLk om hW (by rw [show hasP a s (ls.getD i dLk) = hasPK (a.getD (ls.getD i dLk).route.toNat []) (ls.getD i dLk).pieces s (ls.getD i dLk).pieces.length from rfl, show (ls.getD i dLk).pieces.length = k by omega]; exact hinv)), ?_⟩
  exact iI 1 1 rfl
 have hf9 := of_decide_eq_false hc0
 refine awp_exit ?_
 refine seqR ?_
 refine mG (.i (-1)) ?_
 refine op0 ?_
 refine awp_ret ?_
 exact fret (av := .v (.int .i64 (-1))) rfl rfl (by first | rw [whose_at om hW (hasPK_on om hpt)] | rw [whose_no om hinv])
end Go.Lo
