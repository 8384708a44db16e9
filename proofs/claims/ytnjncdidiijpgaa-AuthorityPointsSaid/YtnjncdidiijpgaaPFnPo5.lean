/- Walks of Go functions in the logic of values: what the law reaches. -/
import Derived.Test.YtnjncdidiijpgaaPFnPo4
set_option linter.unusedVariables false
set_option linter.unusedSimpArgs false
set_option maxRecDepth 10000
set_option maxHeartbeats 16000000
namespace Go.Lo
open Go.Proofs
abbrev Z8u (a : List Lk) (k : Nat) : List AV := (enc eU8 ((a.getD k dLk).pieces))
abbrev Z8t (e : List View) (c : Int) : List AV := [.i ((findV e c).id), .b ((findV e c).sure), .ro ((findV e c).span.length) (enc eI ((findV e c).span))]
abbrev Z8s (d : List (List Int)) (a : List Lk) (k : Nat) : AV := (.q eI (d.getD ((a.getD k dLk).route).toNat []))
abbrev Z8r (p : List Sec) (m : List (List Int)) (t : List Pnt) (d : List (List Int)) : List AV := [.one, .q eSec p, .q eIL m, .q ePnt t, .q eIL d, .one, .one, .one, .one, .one]
abbrev Z8p (a : List Lk) (g ow : List Int) (u : List Bool) (c : Int) : Nat → AV := (upd (upd (upd (upd (upd none_ 1 (.q eLk a)) 2 (.q eU8 g)) 3 (.q eI ow)) 5 (.q eB u)) 6 (.i c))
abbrev Z8o (p : List Sec) (m : List (List Int)) (t : List Pnt) (d : List (List Int)) (e : List View) (c : Int) : Nat → OSt := (updO (updO (updO noOb 51 (.live ⟨(Z8r p m t d), 39, 1⟩)) 52 (.live ⟨[.i 0, .b false, vN], 69, 1⟩)) 52 (.live ⟨(Z8t e c), 69, 1⟩))
abbrev Z8k (a : List Lk) (k : Nat) : List AV := [.i ((a.getD k dLk).ends), .ro ((a.getD k dLk).pieces.length) (Z8u a k)]
abbrev Z8i (e : List View) (c : Int) (p : List Sec) (m : List (List Int)) (t : List Pnt) (d : List (List Int)) (g ow : List Int) (u : List Bool) : Fld := (fldOf (findV e c) p m t d g ow u)
abbrev Z8h (p : List Sec) (m : List (List Int)) (t : List Pnt) (d : List (List Int)) (e : List View) (c : Int) : Nat → OSt := (updO (updO noOb 1 (.live ⟨(Z8r p m t d), 39, 1⟩)) 2 (.live ⟨(Z8t e c), 69, 1⟩))
abbrev Z8g (a : List Lk) (k : Nat) : List AV := [.i ((a.getD k dLk).route), .i ((a.getD k dLk).train), .i ((a.getD k dLk).ends), .ro ((a.getD k dLk).pieces.length) (Z8u a k)]
abbrev Z8v (a : List Lk) (k : Nat) : AV := (.rp (([.ro ((a.getD k dLk).pieces.length) (Z8u a k)] : List AV) ++ ((enc eLk a).drop ((k + 1) * 4))))
abbrev Z8q (a : List Lk) (k : Nat) : AV := (.rp (((Z8k a k) : List AV) ++ ((enc eLk a).drop ((k + 1) * 4))))
abbrev Z8n (a : List Lk) (g ow : List Int) (u : List Bool) (c : Int) (e : List View) (p : List Sec) (m : List (List Int)) (t : List Pnt) (d : List (List Int)) (k : Nat) : Nat → AV := (upd (upd (upd (upd (upd (upd (Z8p a g ow u c) 7 (.pt 1 0)) 14 vN) 15 (.pt 2 0)) 17 (.sl 3 0 ((doO (Z8i e c p m t d g ow u) a c k).length))) 18 (lsA (doL (Z8i e c p m t d g ow u) a c k))) 19 (.i (k : Int)))
abbrev Z8m (e : List View) (c : Int) (p : List Sec) (m : List (List Int)) (t : List Pnt) (d : List (List Int)) (g ow : List Int) (u : List Bool) (a : List Lk) (k j : Nat) : List AV := (enc eI ((doO (Z8i e c p m t d g ow u) a c k) ++ (pcO (d.getD ((a.getD k dLk).route).toNat []) (a.getD k dLk).pieces j)))
abbrev Z8l (a : List Lk) (k : Nat) : AV := (.rp (((Z8g a k) : List AV) ++ ((enc eLk a).drop ((k + 1) * 4))))
abbrev Z8j (a : List Lk) (g ow : List Int) (u : List Bool) (c : Int) (e : List View) (p : List Sec) (m : List (List Int)) (t : List Pnt) (d : List (List Int)) (k j : Nat) : Nat → AV := (upd (upd (upd (upd (upd (upd (upd (upd (Z8p a g ow u c) 7 (.pt 1 0)) 14 vN) 15 (.pt 2 0)) 17 (.sl 3 0 (((doO (Z8i e c p m t d g ow u) a c k) ++ (pcO (d.getD ((a.getD k dLk).route).toNat []) (a.getD k dLk).pieces j)).length))) 18 (lsA (doL (Z8i e c p m t d g ow u) a c k))) 19 (.i (k : Int))) 20 (Z8s d a k)) 21 (.i (j : Int)))
theorem r16_Of (e : List View) (c : Int) (p : List Sec) (m : List (List Int)) (t : List Pnt) (d : List (List Int)) (g ow : List Int) (u : List Bool) (a : List Lk) (hf : FldOk (fldOf (findV e c) p m t d g ow u)) (w : ∀ x, x ∈ a → LkR d x) (hen : EnOk a) (hll : a.length ≤ 65536) (hv : e.length ≤ 65536) (hin : ∀ x, x ∈ d → ∀ s, s ∈ x → 0 ≤ s ∧ s < (p.length : Int)) (y : ∀ x, x ∈ d → ∀ i, i + 1 < x.length → stepL (fldOf (findV e c) p m t d g ow u) x i = stD p t x i) : Fn Try.prog 22 [.agg [.one, .ro p.length (enc eSec p), .ro m.length (enc eIL m), .ro t.length (enc ePnt t), .ro d.length (enc eIL d), .one, .one, .one, .one, .one], .ro a.length (enc eLk a), .ro g.length (enc eU8 g), .ro ow.length (enc eI ow), .ro e.length (enc eV e), .ro u.length (enc eB u), .v (.int .i64 c)] (.ro ((auT e c (fldOf (findV e c) p m t d g ow u) a).length) (enc eI (auT e c (fldOf (findV e c) p m t d g ow u) a))) := by
 have hz1 : p.length ≤ 65536 := hf.hs
 have hz2 : t.length ≤ 65536 := hf.hp
 have hz3 : m.length ≤ 65536 := hf.hpa
 have hz4 : g.length ≤ 65536 := hf.hst
 have hz5 : ow.length ≤ 65536 := hf.how
 have hz6 : u.length ≤ 65536 := hf.hr
 have hz7 : (findV e c).span.length ≤ 65536 := hf.hsp
 have hz8 : d.length ≤ 65536 := hf.hro
 have hpm : ∀ x, x ∈ a → x.pieces.length ≤ 65536 := fun x h_ => by have h1_ := (w x h_).ps; have h2_ := (w x h_).ln; omega
 have hpl : ∀ x, x ∈ a → (pathOf (Z8i e c p m t d g ow u) x).length ≤ 65536 := fun x h_ => (w x h_).ln
 refine fnE_of_body (N := 162) Try.func22 rfl rfl (resOf1 rfl) (by simp) (fun w0 X hL_ => ?_)
 refine seqR ?_
 refine oG (qW 51 ?_)
 refine mG vN ?_
 refine op0 ?_
 refine seqR ?_
 refine mG (.q eV e) ?_
 refine mG (.i c) ?_
 refine oG (qJ (r12_Find e c om) bd37 ?_)
 refine mG (.tup [.agg (Z8t e c), .b (!decide (findI e c < 0))]) ?_
 refine oG (qE ?_)
 refine oG (qE ?_)
 refine oG (aop_alloc 52 rfl rfl rfl rfl ze69 rfl ?_)
 refine oG (qS sz69 ?_)
 refine mG (.b (!decide (findI e c < 0))) ?_
 refine rU (upd (upd (upd (upd (Z8p a g ow u c) 7 (.pt 51 0)) 14 vN) 15 (.pt 52 0)) 16 (.b (!decide (findI e c < 0)))) (Z8o p m t d e c) ?_
 refine awp_seq ?_
 refine seqR ?_
 refine mG (.b (!decide (findI e c < 0))) ?_
 refine oG (aop_not rfl rfl rfl rfl ?_)
 refine mG (.b (!(!decide (findI e c < 0)))) ?_
 refine aops_grp 4 36 (.b ((!(!decide (findI e c < 0))) || (!((findV e c).sure)))) ?_ ?_
 ·refine (Bool.eq_false_or_eq_true (!(!decide (findI e c < 0)))).elim (fun hg1 => ?_) (fun hg1 => ?_)
  ·skip
   have hf2 := not_t hg1
   refine nG hg1 ?_
   refine nG hg1 ?_
   refine nG hg1 ?_
   refine oG (qP (!(!decide (findI e c < 0))) (.b true) hg1 ?_)
   refine op0 ?_
   exact imp_env (lee_both 36 _ _ (by rw [hg1] <;> rfl) lO)
  have hf3 := not_f hg1
  refine oY hg1 (qF (.pt 52 0) (.pt 52 1) ft69_1 sz4 ?_)
  refine oY hg1 (qL (.b ((findV e c).sure)) ag4 ?_)
  refine oY hg1 (aop_not rfl rfl rfl rfl ?_)
  refine oG (qP (!(!decide (findI e c < 0))) (.b (!((findV e c).sure))) hg1 ?_)
  refine op0 ?_
  exact imp_env (lee_both 36 _ _ (by rw [hg1] <;> rfl) lO)
 refine op0 ?_
 refine awp_cond ((!(!decide (findI e c < 0))) || (!((findV e c).sure))) rfl rfl (fun hc0 => ?_) (fun hc0 => ?_)
 ·skip
  have hT : (auT e c (Z8i e c p m t d g ow u) a) = [] := auT_no (by simpa using hc0)
  refine seqR ?_
  refine mG vN ?_
  refine rU (upd (upd (upd (Z8p a g ow u c) 7 (.pt 51 0)) 14 vN) 15 (.pt 52 0)) (Z8o p m t d e c) ?_
  refine awp_imp _ (imp_frozen rfl (fun _ h => h) (lee_lend 14 (.ro 0 []) .nil lee_lend0)) ?_
  refine awp_ret ?_
  exact fret (av := .ro 0 []) rfl rfl (by rw [hT]; rfl)
 obtain ⟨hf4a, hf4b⟩ := or_f hc0
 have hf5 := not_f hf4a
 have hf6 := not_f hf4b
 obtain ⟨hv1, hv2⟩ : ¬ findI e c < 0 ∧ (findV e c).sure = true := by simpa using hc0
 have hT : (auT e c (Z8i e c p m t d g ow u) a) = _ := auT_yes hv1 hv2
 have hid := findV_id hv1
 refine awp_skip ?_
 refine seqR ?_
 refine mG vN ?_
 refine mG vN ?_
 refine rU (upd (upd (upd (upd (upd (Z8p a g ow u c) 7 (.pt 51 0)) 14 vN) 15 (.pt 52 0)) 17 vN) 18 vN) (Z8o p m t d e c) ?_
 refine awp_seq ?_
 refine seqR ?_
 refine mG (.i 0) ?_
 refine op0 ?_
 refine awp_block ?_
 refine awp_countI (fun k => ⟨(Z8n a g ow u c e p m t d k), (updO (Z8h p m t d e c) 3 (.live ⟨(enc eI (doO (Z8i e c p m t d g ow u) a c k)), 3, 1⟩))⟩) (fun k => auR (Z8i e c p m t d g ow u) (mineL (a.drop k) c) (doO (Z8i e c p m t d g ow u) a c k) (doL (Z8i e c p m t d g ow u) a c k) = (auT e c (Z8i e c p m t d g ow u) a)) (a.length) ?_ (by rw [hT]; rfl) (fun k hk_k hinv => ?_)
 ·skip
  refine (imp_adopt 17 53 3 1 rfl rfl).trans ?_
  exact iL [(51, 1), (52, 2), (53, 3)] [((51, 1), .live _), ((52, 2), .live _), ((53, 3), .live _)] ⟨row_no rfl rfl, row_no rfl rfl, row_no (o := ⟨[], 3, 1⟩) rfl rfl, trivial⟩
 have hol := do_len (f := (Z8i e c p m t d g ow u)) (id := c) hpm k
 refine awp_seq ?_
 refine seqR ?_
 refine mG (.i (k : Int)) ?_
 refine mG (.q eLk a) ?_
 refine oG (qN ut41 ?_)
 refine bG ((.bool (decide ((k : Int) < (a.length : Int))))) ?_
 refine rU (upd (Z8n a g ow u c e p m t d k) 40 (.b (decide ((k : Int) < (a.length : Int))))) (updO (Z8h p m t d e c) 3 (.live ⟨(enc eI (doO (Z8i e c p m t d g ow u) a c k)), 3, 1⟩)) ?_
 refine awp_cond (decide ((k : Int) < (a.length : Int))) rfl rfl (fun hc1 => ?_) (fun hc1 => ?_)
 ·skip
  have hf7 := of_decide_eq_true hc1
  have hinv0 := hinv
  have hxk := w _ (getD_mem (l := a) (k := k) dLk om)
  have hxe := hen _ (getD_mem (l := a) (k := k) dLk om)
  have hxr := hxk.r
  have hxp := hxk.ps
  have hxl := hxk.ln
  have hpmm : (d.getD ((a.getD k dLk).route).toNat []) ∈ d := getD_mem [] om
  have hps := hin _ hpmm
  have hpst : ∀ s, s ∈ (d.getD ((a.getD k dLk).route).toNat []) → 0 ≤ s ∧ s < (g.length : Int) := hf.hrs _ hpmm
  have hdl := doL_len (f := (Z8i e c p m t d g ow u)) (id := c) hpl k om
  have hpne : ¬ (d.getD ((a.getD k dLk).route).toNat []) = [] := fun h_ => by rw [h_] at hxp; simp at hxp
  refine awp_skip ?_
  refine awp_seq ?_
  refine awp_block ?_
  refine awp_seq ?_
  refine seqR ?_
  refine mG (.q eLk a) ?_
  refine mG (.i (k : Int)) ?_
  refine oG (qX dLk ut41 sz58 ?_)
  refine oG (qF (Z8l a k) (.rp (([.i ((a.getD k dLk).train), .i ((a.getD k dLk).ends), .ro ((a.getD k dLk).pieces.length) (Z8u a k)] : List AV) ++ ((enc eLk a).drop ((k + 1) * 4)))) ft58_1 sz3 ?_)
  refine oG (qL (.i ((a.getD k dLk).train)) ag3 ?_)
  refine mG (.i c) ?_
  refine bG ((.bool (((a.getD k dLk).train) != c))) ?_
  refine rU (upd (Z8n a g ow u c e p m t d k) 49 (.b (((a.getD k dLk).train) != c))) (updO (Z8h p m t d e c) 3 (.live ⟨(enc eI (doO (Z8i e c p m t d g ow u) a c k)), 3, 1⟩)) ?_
  refine awp_cond (((a.getD k dLk).train) != c) rfl rfl (fun hc2 => ?_) (fun hc2 => ?_)
  ·skip
   have hf8 := (bne_iff_ne).1 hc2
   have htn : ¬ (a.getD k dLk).train = c := (bne_iff_ne).1 hc2
   refine awp_exit ?_
   refine regR ?_
   refine mG (.i (k : Int)) ?_
   refine oG (qB (.int .i64 ((k + 1 : Nat) : Int)) (addN om) ?_)
   refine mG (.i ((k + 1 : Nat) : Int)) ?_
   refine op0 ?_
   show _ ∧ _
   have hs_ := doO_no (f := (Z8i e c p m t d g ow u)) htn
   have hs2_ := doL_no (f := (Z8i e c p m t d g ow u)) htn
   refine ⟨by omega, (by first | exact do_no om htn hinv0 | exact do_on om htr hinv0 hlt hpc om), ?_⟩
   exact iL [(1, 1), (2, 2), (3, 3)] [((1, 1), .live _), ((2, 2), .live _), ((3, 3), .live _)] ⟨row_no rfl rfl, row_no rfl rfl, row_no rfl (by exact congrArg (fun l_ => LObj.mk (enc eI l_) 3 1) hs_), trivial⟩ (he := (sS rfl (sS (by exact congrArg lsA hs2_.symm) (sM (by exact congrArg (AV.sl 3 0) (congrArg List.length hs_.symm)) (sM rfl (sS rfl (sM rfl (sS rfl (sS rfl (sS rfl (sS rfl (sS rfl sr_none))))))))))))
  have hf9 := (bne_eq_false_iff_eq).1 hc2
  have htr : (a.getD k dLk).train = c := (bne_eq_false_iff_eq).1 hc2
  have hlkE : (!(lkB (Z8i e c p m t d g ow u) (a.getD k dLk) (doL (Z8i e c p m t d g ow u) a c k))) = ((((a.getD k dLk).ends != -1) || (decide ((doL (Z8i e c p m t d g ow u) a c k) = []) && !((findV e c).span.any (fun s => decide (s ∈ (d.getD ((a.getD k dLk).route).toNat [])))))) || ((!decide ((doL (Z8i e c p m t d g ow u) a c k) = [])) && (((d.getD ((a.getD k dLk).route).toNat []).getD 0 0) != ((doL (Z8i e c p m t d g ow u) a c k).getD (((doL (Z8i e c p m t d g ow u) a c k).length : Int) - 1).toNat 0)))) := by rw [do_lk (f := (Z8i e c p m t d g ow u)) (x := (a.getD k dLk)) (last := (doL (Z8i e c p m t d g ow u) a c k)) hxe rfl rfl rfl, Bool.not_not, show (((doL (Z8i e c p m t d g ow u) a c k).length : Int) - 1).toNat = (doL (Z8i e c p m t d g ow u) a c k).length - 1 by omega]; rfl
  refine awp_skip ?_
  refine awp_seq ?_
  refine aD 9 [(58, .q eI (d.getD ((a.getD k dLk).route).toNat [])), (57, .rp (([.q eI (d.getD ((a.getD k dLk).route).toNat [])] : List AV) ++ ((enc eIL d).drop ((((a.getD k dLk).route).toNat + 1) * 1)))), (56, .i ((a.getD k dLk).route)), (55, .rp (((Z8g a k) : List AV) ++ ((enc eLk a).drop ((k + 1) * 4)))), (54, .rp (((Z8g a k) : List AV) ++ ((enc eLk a).drop ((k + 1) * 4)))), (53, .i (k : Int)), (52, .q eLk a), (51, .q eIL d), (50, .pt 1 4)] mixed ?_ ?_
  ·refine ⟨?_, ?_, ?_, ?_, ?_, ?_, ?_, ?_, ?_, trivial⟩
   ·exact sF (.pt 1 0) (.pt 1 4) ft39_4 sz36
   ·exact sL ag36
   ·exact sMv
   ·exact sMv
   ·exact (sIx dLk ut41 sz58)
   ·exact sF (Z8l a k) (Z8l a k) ft58_0 sz3
   ·exact (sLd ag3)
   ·exact dW 57 fun st hob hE => aop_ixI [] rfl rfl rfl ut36 sz48 (hE 51 rfl) (hE 56 rfl) (fun _ => rfl) rfl om oo (by rw [hob]; rfl)
   exact (sLd ag48)
  refine mG (Z8s d a k) ?_
  refine op0 ?_
  refine awp_seq ?_
  refine seqCut ⟨(upd (upd (Z8n a g ow u c e p m t d k) 20 (Z8s d a k)) 91 (.b (!(lkB (Z8i e c p m t d g ow u) (a.getD k dLk) (doL (Z8i e c p m t d g ow u) a c k))))), (updO (Z8h p m t d e c) 3 (.live ⟨(enc eI (doO (Z8i e c p m t d g ow u) a c k)), 3, 1⟩))⟩ ?_ ?_
  ·skip
   refine (Bool.eq_false_or_eq_true (((a.getD k dLk).ends) != (-1))).elim (fun hq0 => ?_) (fun hq0 => ?_)
   ·skip
    have hf11 := (bne_iff_ne).1 hq0
    refine aD 33 [(91, .b true), (90, .v undef), (89, .v undef), (88, .v undef), (87, .v undef), (86, .v undef), (85, .v undef), (84, .v undef), (83, .v undef), (82, .v undef), (81, .v undef), (80, .v undef), (79, .v undef), (78, .v undef), (77, .v undef), (76, .b true), (75, .b true), (74, .v undef), (73, .v undef), (72, .v undef), (71, .v undef), (70, .v undef), (69, .v undef), (68, .v undef), (67, .v undef), (66, .v undef), (65, .b (((a.getD k dLk).ends) != (-1))), (64, .b (((a.getD k dLk).ends) != (-1))), (63, .i ((a.getD k dLk).ends)), (62, .rp (((Z8k a k) : List AV) ++ ((enc eLk a).drop ((k + 1) * 4)))), (61, .rp (((Z8g a k) : List AV) ++ ((enc eLk a).drop ((k + 1) * 4)))), (60, .i (k : Int)), (59, .q eLk a)] mixed ?_ ?_
    ·iterate 33 (refine ⟨?_, ?_⟩; rotate_left)
     trivial
     ·exact sMv
     ·exact sMv
     ·exact (sIx dLk ut41 sz58)
     ·exact sF (Z8l a k) (Z8q a k) ft58_2 sz2
     ·exact (sLd ag2)
     ·exact sB (.bool (((a.getD k dLk).ends) != (-1))) rfl
     ·exact sMv
     ·exact gn0 hq0
     ·exact gn0 hq0
     ·exact gn0 hq0
     ·exact ⟨68, undef, rfl, blt_lt rfl, rfl, (fun h => by cases h), (fun _ => ⟨69, rfl, blt_lt rfl, .inr rfl⟩)⟩
     ·exact ⟨68, undef, rfl, blt_lt rfl, rfl, (fun h => by cases h), (fun _ => ⟨70, rfl, blt_lt rfl, .inr rfl⟩)⟩
     ·exact ⟨68, undef, rfl, blt_lt rfl, rfl, (fun h => by cases h), (fun _ => ⟨71, rfl, blt_lt rfl, .inr rfl⟩)⟩
     ·exact ⟨68, undef, rfl, blt_lt rfl, rfl, (fun h => by cases h), (fun _ => ⟨72, rfl, blt_lt rfl, .inr rfl⟩)⟩
     ·exact ⟨68, undef, rfl, blt_lt rfl, rfl, (fun h => by cases h), (fun _ => ⟨73, rfl, blt_lt rfl, .inr rfl⟩)⟩
     ·exact gn0 hq0
     ·exact sPk (((a.getD k dLk).ends) != (-1)) (.b true) hq0
     ·exact sMv
     ·exact gn0 rfl
     ·exact gn0 rfl
     ·exact gn0 rfl
     ·exact ⟨79, undef, rfl, blt_lt rfl, rfl, (fun h => by cases h), (fun _ => ⟨80, rfl, blt_lt rfl, .inr rfl⟩)⟩
     ·exact ⟨79, undef, rfl, blt_lt rfl, rfl, (fun h => by cases h), (fun _ => ⟨81, rfl, blt_lt rfl, .inr rfl⟩)⟩
     ·exact ⟨79, undef, rfl, blt_lt rfl, rfl, (fun h => by cases h), (fun _ => ⟨82, rfl, blt_lt rfl, .inr rfl⟩)⟩
     ·exact ⟨79, undef, rfl, blt_lt rfl, rfl, (fun h => by cases h), (fun _ => ⟨83, rfl, blt_lt rfl, .inr rfl⟩)⟩
     ·exact ⟨79, undef, rfl, blt_lt rfl, rfl, (fun h => by cases h), (fun _ => ⟨84, rfl, blt_lt rfl, .inr rfl⟩)⟩
     ·exact ⟨79, undef, rfl, blt_lt rfl, rfl, (fun h => by cases h), (fun _ => ⟨85, rfl, blt_lt rfl, .inr rfl⟩)⟩
     ·exact ⟨79, undef, rfl, blt_lt rfl, rfl, (fun h => by cases h), (fun _ => ⟨86, rfl, blt_lt rfl, .inr rfl⟩)⟩
     ·exact ⟨79, undef, rfl, blt_lt rfl, rfl, (fun h => by cases h), (fun _ => ⟨87, rfl, blt_lt rfl, .inr rfl⟩)⟩
     ·exact ⟨79, undef, rfl, blt_lt rfl, rfl, (fun h => by cases h), (fun _ => ⟨88, rfl, blt_lt rfl, .inr rfl⟩)⟩
     ·exact ⟨79, undef, rfl, blt_lt rfl, rfl, (fun h => by cases h), (fun _ => ⟨89, rfl, blt_lt rfl, .inr rfl⟩)⟩
     ·exact gn0 rfl
     exact dW 91 fun st hob hE => aop_pick (b := true) (av := .b true) rfl rfl rfl (hE 76 rfl) rfl (by rw [hob]; rfl)
    refine op0 ?_
    show Imp _ _ _
    exact iL [(1, 1), (2, 2), (3, 3)] [((1, 1), .live _), ((2, 2), .live _), ((3, 3), .live _)] ⟨row_no rfl rfl, row_no rfl rfl, row_no rfl rfl, trivial⟩ (he := (sS (by exact congrArg (fun b_ => AV.v (.bool b_)) (by first | (rw [hlkE, hq0]; rfl) | (rw [hlkE, hq0, hq1]; rfl) | (rw [hlkE, hq0, hq1, hq2]; rfl) | (exfalso; rw [hq1] at hq2; cases hq2) | (exfalso; rw [hq1] at hq3; cases hq3))) (sS rfl (sS rfl (sS rfl (sM rfl (sM rfl (sS rfl (sM rfl (sS rfl (sS rfl (sS rfl (sS rfl (sS rfl sr_none))))))))))))))
   have hf12 := (bne_eq_false_iff_eq).1 hq0
   refine (Bool.eq_false_or_eq_true (decide ((doL (Z8i e c p m t d g ow u) a c k) = []))).elim (fun hq1 => ?_) (fun hq1 => ?_)
   ·skip
    refine (Bool.eq_false_or_eq_true (!(((findV e c).span).any (fun s => decide (s ∈ (d.getD ((a.getD k dLk).route).toNat [])))))).elim (fun hq2 => ?_) (fun hq2 => ?_)
    ·skip
     have hf15 := not_t hq2
     refine aD 33 [(91, .b true), (90, .v undef), (89, .v undef), (88, .v undef), (87, .v undef), (86, .v undef), (85, .v undef), (84, .v undef), (83, .v undef), (82, .v undef), (81, .v undef), (80, .v undef), (79, .v undef), (78, .v undef), (77, .v undef), (76, .b (!(((findV e c).span).any (fun s => decide (s ∈ (d.getD ((a.getD k dLk).route).toNat [])))))), (75, .b (!(((findV e c).span).any (fun s => decide (s ∈ (d.getD ((a.getD k dLk).route).toNat [])))))), (74, .b (!(((findV e c).span).any (fun s => decide (s ∈ (d.getD ((a.getD k dLk).route).toNat [])))))), (73, .b (!(((findV e c).span).any (fun s => decide (s ∈ (d.getD ((a.getD k dLk).route).toNat [])))))), (72, .b (((findV e c).span).any (fun s => decide (s ∈ (d.getD ((a.getD k dLk).route).toNat []))))), (71, .q eI (d.getD ((a.getD k dLk).route).toNat [])), (70, .ro ((findV e c).span.length) (enc eI ((findV e c).span))), (69, .pt 2 2), (68, .b (decide ((doL (Z8i e c p m t d g ow u) a c k) = []))), (67, .b (decide ((doL (Z8i e c p m t d g ow u) a c k) = []))), (66, lsA (doL (Z8i e c p m t d g ow u) a c k)), (65, .b (((a.getD k dLk).ends) != (-1))), (64, .b (((a.getD k dLk).ends) != (-1))), (63, .i ((a.getD k dLk).ends)), (62, .rp (((Z8k a k) : List AV) ++ ((enc eLk a).drop ((k + 1) * 4)))), (61, .rp (((Z8g a k) : List AV) ++ ((enc eLk a).drop ((k + 1) * 4)))), (60, .i (k : Int)), (59, .q eLk a)] mixed ?_ ?_
     ·iterate 33 (refine ⟨?_, ?_⟩; rotate_left)
      trivial
      ·exact sMv
      ·exact sMv
      ·exact (sIx dLk ut41 sz58)
      ·exact sF (Z8l a k) (Z8q a k) ft58_2 sz2
      ·exact (sLd ag2)
      ·exact sB (.bool (((a.getD k dLk).ends) != (-1))) rfl
      ·exact sMv
      ·exact gy0 hq0 sMv
      ·exact gy0 hq0 (dW 67 fun st hob hE => aop_lsNil rfl rfl rfl ut48 (hE 66 rfl) rfl (.inl ⟨rfl, rfl⟩) (by rw [hob]; rfl))
      ·exact gy0 hq0 sMv
      ·exact gy1 hq1 (sF (.pt 2 0) (.pt 2 2) ft69_2 sz48)
      ·exact gy1 hq1 (sL ag48)
      ·exact gy1 hq1 sMv
      ·exact gy1 hq1 (dW 72 fun st hob hE => call_ (r11_Meets ((findV e c).span) (d.getD ((a.getD k dLk).route).toNat []) oo oo) rfl rfl rfl rfl rfl bd38 (by show [st.env 70, st.env 71] ++ _ = _; rw [hE 70 rfl, hE 71 rfl]; rfl) (by rw [hob]; rfl))
      ·exact gy1 hq1 (dW 73 fun st hob hE => aop_not rfl rfl rfl (hE 72 rfl) (by rw [hob]; rfl))
      ·exact gy0 hq0 (dW 74 fun st hob hE => aop_pick (b := (decide ((doL (Z8i e c p m t d g ow u) a c k) = []))) (av := .b (!(((findV e c).span).any (fun s => decide (s ∈ (d.getD ((a.getD k dLk).route).toNat [])))))) rfl rfl rfl (hE 68 rfl) (by rw [hq1]; exact hE 73 rfl) (by rw [hob]; rfl))
      ·exact dW 75 fun st hob hE => aop_pick (b := (((a.getD k dLk).ends) != (-1))) (av := .b (!(((findV e c).span).any (fun s => decide (s ∈ (d.getD ((a.getD k dLk).route).toNat [])))))) rfl rfl rfl (hE 65 rfl) (by rw [hq0]; exact hE 74 rfl) (by rw [hob]; rfl)
      ·exact sMv
      ·exact gn0 hq2
      ·exact gn0 hq2
      ·exact gn0 hq2
      ·exact ⟨79, undef, rfl, blt_lt rfl, rfl, (fun h => by cases h), (fun _ => ⟨80, rfl, blt_lt rfl, .inr rfl⟩)⟩
      ·exact ⟨79, undef, rfl, blt_lt rfl, rfl, (fun h => by cases h), (fun _ => ⟨81, rfl, blt_lt rfl, .inr rfl⟩)⟩
      ·exact ⟨79, undef, rfl, blt_lt rfl, rfl, (fun h => by cases h), (fun _ => ⟨82, rfl, blt_lt rfl, .inr rfl⟩)⟩
      ·exact ⟨79, undef, rfl, blt_lt rfl, rfl, (fun h => by cases h), (fun _ => ⟨83, rfl, blt_lt rfl, .inr rfl⟩)⟩
      ·exact ⟨79, undef, rfl, blt_lt rfl, rfl, (fun h => by cases h), (fun _ => ⟨84, rfl, blt_lt rfl, .inr rfl⟩)⟩
      ·exact ⟨79, undef, rfl, blt_lt rfl, rfl, (fun h => by cases h), (fun _ => ⟨85, rfl, blt_lt rfl, .inr rfl⟩)⟩
      ·exact ⟨79, undef, rfl, blt_lt rfl, rfl, (fun h => by cases h), (fun _ => ⟨86, rfl, blt_lt rfl, .inr rfl⟩)⟩
      ·exact ⟨79, undef, rfl, blt_lt rfl, rfl, (fun h => by cases h), (fun _ => ⟨87, rfl, blt_lt rfl, .inr rfl⟩)⟩
      ·exact ⟨79, undef, rfl, blt_lt rfl, rfl, (fun h => by cases h), (fun _ => ⟨88, rfl, blt_lt rfl, .inr rfl⟩)⟩
      ·exact ⟨79, undef, rfl, blt_lt rfl, rfl, (fun h => by cases h), (fun _ => ⟨89, rfl, blt_lt rfl, .inr rfl⟩)⟩
      ·exact gn0 hq2
      exact sPk (!(((findV e c).span).any (fun s => decide (s ∈ (d.getD ((a.getD k dLk).route).toNat []))))) (.b true) hq2
     refine op0 ?_
     show Imp _ _ _
     exact iL [(1, 1), (2, 2), (3, 3)] [((1, 1), .live _), ((2, 2), .live _), ((3, 3), .live _)] ⟨row_no rfl rfl, row_no rfl rfl, row_no rfl rfl, trivial⟩ (he := (sS (by exact congrArg (fun b_ => AV.v (.bool b_)) (by first | (rw [hlkE, hq0]; rfl) | (rw [hlkE, hq0, hq1]; rfl) | (rw [hlkE, hq0, hq1, hq2]; rfl) | (exfalso; rw [hq1] at hq2; cases hq2) | (exfalso; rw [hq1] at hq3; cases hq3))) (sS rfl (sS rfl (sS rfl (sM rfl (sM rfl (sS rfl (sM rfl (sS rfl (sS rfl (sS rfl (sS rfl (sS rfl sr_none))))))))))))))
    have hf16 := not_f hq2
    refine (Bool.eq_false_or_eq_true (!decide ((doL (Z8i e c p m t d g ow u) a c k) = []))).elim (fun hq3 => ?_) (fun hq3 => ?_)
    ·skip
     refine aD 33 [(91, .b (((d.getD ((a.getD k dLk).route).toNat []).getD 0 0) != ((doL (Z8i e c p m t d g ow u) a c k).getD (((doL (Z8i e c p m t d g ow u) a c k).length : Int) - 1).toNat 0))), (90, .b (((d.getD ((a.getD k dLk).route).toNat []).getD 0 0) != ((doL (Z8i e c p m t d g ow u) a c k).getD (((doL (Z8i e c p m t d g ow u) a c k).length : Int) - 1).toNat 0))), (89, .b (((d.getD ((a.getD k dLk).route).toNat []).getD 0 0) != ((doL (Z8i e c p m t d g ow u) a c k).getD (((doL (Z8i e c p m t d g ow u) a c k).length : Int) - 1).toNat 0))), (88, .i ((doL (Z8i e c p m t d g ow u) a c k).getD (((doL (Z8i e c p m t d g ow u) a c k).length : Int) - 1).toNat 0)), (87, .rp (([.i ((doL (Z8i e c p m t d g ow u) a c k).getD (((doL (Z8i e c p m t d g ow u) a c k).length : Int) - 1).toNat 0)] : List AV) ++ ((enc eI (doL (Z8i e c p m t d g ow u) a c k)).drop (((((doL (Z8i e c p m t d g ow u) a c k).length : Int) - 1).toNat + 1) * 1)))), (86, .i (((doL (Z8i e c p m t d g ow u) a c k).length : Int) - 1)), (85, .i ((doL (Z8i e c p m t d g ow u) a c k).length : Int)), (84, lsA (doL (Z8i e c p m t d g ow u) a c k)), (83, lsA (doL (Z8i e c p m t d g ow u) a c k)), (82, .i ((d.getD ((a.getD k dLk).route).toNat []).getD 0 0)), (81, .rp (([.i ((d.getD ((a.getD k dLk).route).toNat []).getD 0 0)] : List AV) ++ ((enc eI (d.getD ((a.getD k dLk).route).toNat [])).drop ((0 + 1) * 1)))), (80, .q eI (d.getD ((a.getD k dLk).route).toNat [])), (79, .b (!decide ((doL (Z8i e c p m t d g ow u) a c k) = []))), (78, .b (!decide ((doL (Z8i e c p m t d g ow u) a c k) = []))), (77, lsA (doL (Z8i e c p m t d g ow u) a c k)), (76, .b (!(((findV e c).span).any (fun s => decide (s ∈ (d.getD ((a.getD k dLk).route).toNat [])))))), (75, .b (!(((findV e c).span).any (fun s => decide (s ∈ (d.getD ((a.getD k dLk).route).toNat [])))))), (74, .b (!(((findV e c).span).any (fun s => decide (s ∈ (d.getD ((a.getD k dLk).route).toNat [])))))), (73, .b (!(((findV e c).span).any (fun s => decide (s ∈ (d.getD ((a.getD k dLk).route).toNat [])))))), (72, .b (((findV e c).span).any (fun s => decide (s ∈ (d.getD ((a.getD k dLk).route).toNat []))))), (71, .q eI (d.getD ((a.getD k dLk).route).toNat [])), (70, .ro ((findV e c).span.length) (enc eI ((findV e c).span))), (69, .pt 2 2), (68, .b (decide ((doL (Z8i e c p m t d g ow u) a c k) = []))), (67, .b (decide ((doL (Z8i e c p m t d g ow u) a c k) = []))), (66, lsA (doL (Z8i e c p m t d g ow u) a c k)), (65, .b (((a.getD k dLk).ends) != (-1))), (64, .b (((a.getD k dLk).ends) != (-1))), (63, .i ((a.getD k dLk).ends)), (62, .rp (((Z8k a k) : List AV) ++ ((enc eLk a).drop ((k + 1) * 4)))), (61, .rp (((Z8g a k) : List AV) ++ ((enc eLk a).drop ((k + 1) * 4)))), (60, .i (k : Int)), (59, .q eLk a)] mixed ?_ ?_
     ·iterate 33 (refine ⟨?_, ?_⟩; rotate_left)
      trivial
      ·exact sMv
      ·exact sMv
      ·exact (sIx dLk ut41 sz58)
      ·exact sF (Z8l a k) (Z8q a k) ft58_2 sz2
      ·exact (sLd ag2)
      ·exact sB (.bool (((a.getD k dLk).ends) != (-1))) rfl
      ·exact sMv
      ·exact gy0 hq0 sMv
      ·exact gy0 hq0 (dW 67 fun st hob hE => aop_lsNil rfl rfl rfl ut48 (hE 66 rfl) rfl (.inl ⟨rfl, rfl⟩) (by rw [hob]; rfl))
      ·exact gy0 hq0 sMv
      ·exact gy1 hq1 (sF (.pt 2 0) (.pt 2 2) ft69_2 sz48)
      ·exact gy1 hq1 (sL ag48)
      ·exact gy1 hq1 sMv
      ·exact gy1 hq1 (dW 72 fun st hob hE => call_ (r11_Meets ((findV e c).span) (d.getD ((a.getD k dLk).route).toNat []) oo oo) rfl rfl rfl rfl rfl bd38 (by show [st.env 70, st.env 71] ++ _ = _; rw [hE 70 rfl, hE 71 rfl]; rfl) (by rw [hob]; rfl))
      ·exact gy1 hq1 (dW 73 fun st hob hE => aop_not rfl rfl rfl (hE 72 rfl) (by rw [hob]; rfl))
      ·exact gy0 hq0 (dW 74 fun st hob hE => aop_pick (b := (decide ((doL (Z8i e c p m t d g ow u) a c k) = []))) (av := .b (!(((findV e c).span).any (fun s => decide (s ∈ (d.getD ((a.getD k dLk).route).toNat [])))))) rfl rfl rfl (hE 68 rfl) (by rw [hq1]; exact hE 73 rfl) (by rw [hob]; rfl))
      ·exact dW 75 fun st hob hE => aop_pick (b := (((a.getD k dLk).ends) != (-1))) (av := .b (!(((findV e c).span).any (fun s => decide (s ∈ (d.getD ((a.getD k dLk).route).toNat [])))))) rfl rfl rfl (hE 65 rfl) (by rw [hq0]; exact hE 74 rfl) (by rw [hob]; rfl)
      ·exact sMv
      ·exact gy0 hq2 sMv
      ·exact gy0 hq2 (dW 78 fun st hob hE => aop_lsNil rfl rfl rfl ut48 (hE 77 rfl) rfl (.inr ⟨rfl, rfl⟩) (by rw [hob]; rfl))
      ·exact gy0 hq2 sMv
      ·exact gy1 hq3 sMv
      ·exact gy1 hq3 (dW 81 fun st hob hE => aop_ixE (k := 0) 0 rfl rfl rfl ut48 sz3 (hE 80 rfl) rfl (fun _ => rfl) rfl oo (by rw [hob]; rfl))
      ·exact gy1 hq3 (sLd ag3)
      ·exact gy1 hq3 sMv
      ·exact gy1 hq3 sMv
      ·exact gy1 hq3 (dW 85 fun st hob hE => aop_len rfl rfl rfl rfl ut48 (len_ls (hE 84 rfl)) (by rw [hob]; rfl))
      ·exact gy1 hq3 (sB (.int .i64 (((doL (Z8i e c p m t d g ow u) a c k).length : Int) - 1)) (subI om))
      ·exact gy1 hq3 (dW 87 fun st hob hE => aop_ixI 0 rfl rfl rfl ut48 sz3 (((hE 83 rfl)).trans (ls_ne (by simpa using (show (!decide ((doL (Z8i e c p m t d g ow u) a c k) = [])) = true by assumption)))) (hE 86 rfl) (fun _ => rfl) rfl (by have h_ := List.length_pos_iff.2 (by simpa using (show (!decide ((doL (Z8i e c p m t d g ow u) a c k) = [])) = true by assumption)); omega) (by have h_ := List.length_pos_iff.2 (by simpa using (show (!decide ((doL (Z8i e c p m t d g ow u) a c k) = [])) = true by assumption)); omega) (by rw [hob]; rfl))
      ·exact gy1 hq3 (sLd ag3)
      ·exact gy1 hq3 (sB (.bool (((d.getD ((a.getD k dLk).route).toNat []).getD 0 0) != ((doL (Z8i e c p m t d g ow u) a c k).getD (((doL (Z8i e c p m t d g ow u) a c k).length : Int) - 1).toNat 0))) rfl)
      ·exact gy0 hq2 (dW 90 fun st hob hE => aop_pick (b := (!decide ((doL (Z8i e c p m t d g ow u) a c k) = []))) (av := .b (((d.getD ((a.getD k dLk).route).toNat []).getD 0 0) != ((doL (Z8i e c p m t d g ow u) a c k).getD (((doL (Z8i e c p m t d g ow u) a c k).length : Int) - 1).toNat 0))) rfl rfl rfl (hE 79 rfl) (by rw [hq3]; exact hE 89 rfl) (by rw [hob]; rfl))
      exact dW 91 fun st hob hE => aop_pick (b := (!(((findV e c).span).any (fun s => decide (s ∈ (d.getD ((a.getD k dLk).route).toNat [])))))) (av := .b (((d.getD ((a.getD k dLk).route).toNat []).getD 0 0) != ((doL (Z8i e c p m t d g ow u) a c k).getD (((doL (Z8i e c p m t d g ow u) a c k).length : Int) - 1).toNat 0))) rfl rfl rfl (hE 76 rfl) (by rw [hq2]; exact hE 90 rfl) (by rw [hob]; rfl)
     refine op0 ?_
     show Imp _ _ _
     exact iL [(1, 1), (2, 2), (3, 3)] [((1, 1), .live _), ((2, 2), .live _), ((3, 3), .live _)] ⟨row_no rfl rfl, row_no rfl rfl, row_no rfl rfl, trivial⟩ (he := (sS (by exact congrArg (fun b_ => AV.v (.bool b_)) (by first | (rw [hlkE, hq0]; rfl) | (rw [hlkE, hq0, hq1]; rfl) | (rw [hlkE, hq0, hq1, hq2]; rfl) | (exfalso; rw [hq1] at hq2; cases hq2) | (exfalso; rw [hq1] at hq3; cases hq3))) (sS rfl (sS rfl (sS rfl (sM rfl (sM rfl (sS rfl (sM rfl (sS rfl (sS rfl (sS rfl (sS rfl (sS rfl sr_none))))))))))))))
    refine aD 33 [(91, .b false), (90, .b false), (89, .v undef), (88, .v undef), (87, .v undef), (86, .v undef), (85, .v undef), (84, .v undef), (83, .v undef), (82, .v undef), (81, .v undef), (80, .v undef), (79, .b (!decide ((doL (Z8i e c p m t d g ow u) a c k) = []))), (78, .b (!decide ((doL (Z8i e c p m t d g ow u) a c k) = []))), (77, lsA (doL (Z8i e c p m t d g ow u) a c k)), (76, .b (!(((findV e c).span).any (fun s => decide (s ∈ (d.getD ((a.getD k dLk).route).toNat [])))))), (75, .b (!(((findV e c).span).any (fun s => decide (s ∈ (d.getD ((a.getD k dLk).route).toNat [])))))), (74, .b (!(((findV e c).span).any (fun s => decide (s ∈ (d.getD ((a.getD k dLk).route).toNat [])))))), (73, .b (!(((findV e c).span).any (fun s => decide (s ∈ (d.getD ((a.getD k dLk).route).toNat [])))))), (72, .b (((findV e c).span).any (fun s => decide (s ∈ (d.getD ((a.getD k dLk).route).toNat []))))), (71, .q eI (d.getD ((a.getD k dLk).route).toNat [])), (70, .ro ((findV e c).span.length) (enc eI ((findV e c).span))), (69, .pt 2 2), (68, .b (decide ((doL (Z8i e c p m t d g ow u) a c k) = []))), (67, .b (decide ((doL (Z8i e c p m t d g ow u) a c k) = []))), (66, lsA (doL (Z8i e c p m t d g ow u) a c k)), (65, .b (((a.getD k dLk).ends) != (-1))), (64, .b (((a.getD k dLk).ends) != (-1))), (63, .i ((a.getD k dLk).ends)), (62, .rp (((Z8k a k) : List AV) ++ ((enc eLk a).drop ((k + 1) * 4)))), (61, .rp (((Z8g a k) : List AV) ++ ((enc eLk a).drop ((k + 1) * 4)))), (60, .i (k : Int)), (59, .q eLk a)] mixed ?_ ?_
    ·iterate 33 (refine ⟨?_, ?_⟩; rotate_left)
     trivial
     ·exact sMv
     ·exact sMv
     ·exact (sIx dLk ut41 sz58)
     ·exact sF (Z8l a k) (Z8q a k) ft58_2 sz2
     ·exact (sLd ag2)
     ·exact sB (.bool (((a.getD k dLk).ends) != (-1))) rfl
     ·exact sMv
     ·exact gy0 hq0 sMv
     ·exact gy0 hq0 (dW 67 fun st hob hE => aop_lsNil rfl rfl rfl ut48 (hE 66 rfl) rfl (.inl ⟨rfl, rfl⟩) (by rw [hob]; rfl))
     ·exact gy0 hq0 sMv
     ·exact gy1 hq1 (sF (.pt 2 0) (.pt 2 2) ft69_2 sz48)
     ·exact gy1 hq1 (sL ag48)
     ·exact gy1 hq1 sMv
     ·exact gy1 hq1 (dW 72 fun st hob hE => call_ (r11_Meets ((findV e c).span) (d.getD ((a.getD k dLk).route).toNat []) oo oo) rfl rfl rfl rfl rfl bd38 (by show [st.env 70, st.env 71] ++ _ = _; rw [hE 70 rfl, hE 71 rfl]; rfl) (by rw [hob]; rfl))
     ·exact gy1 hq1 (dW 73 fun st hob hE => aop_not rfl rfl rfl (hE 72 rfl) (by rw [hob]; rfl))
     ·exact gy0 hq0 (dW 74 fun st hob hE => aop_pick (b := (decide ((doL (Z8i e c p m t d g ow u) a c k) = []))) (av := .b (!(((findV e c).span).any (fun s => decide (s ∈ (d.getD ((a.getD k dLk).route).toNat [])))))) rfl rfl rfl (hE 68 rfl) (by rw [hq1]; exact hE 73 rfl) (by rw [hob]; rfl))
     ·exact dW 75 fun st hob hE => aop_pick (b := (((a.getD k dLk).ends) != (-1))) (av := .b (!(((findV e c).span).any (fun s => decide (s ∈ (d.getD ((a.getD k dLk).route).toNat [])))))) rfl rfl rfl (hE 65 rfl) (by rw [hq0]; exact hE 74 rfl) (by rw [hob]; rfl)
     ·exact sMv
     ·exact gy0 hq2 sMv
     ·exact gy0 hq2 (dW 78 fun st hob hE => aop_lsNil rfl rfl rfl ut48 (hE 77 rfl) rfl (.inr ⟨rfl, rfl⟩) (by rw [hob]; rfl))
     ·exact gy0 hq2 sMv
     ·exact gn1 hq3
     ·exact gn1 hq3
     ·exact gn1 hq3
     ·exact gn1 hq3
     ·exact gn1 hq3
     ·exact gn1 hq3
     ·exact gn1 hq3
     ·exact gn1 hq3
     ·exact gn1 hq3
     ·exact gn1 hq3
     ·exact gy0 hq2 (sPk (!decide ((doL (Z8i e c p m t d g ow u) a c k) = [])) (.b false) hq3)
     exact dW 91 fun st hob hE => aop_pick (b := (!(((findV e c).span).any (fun s => decide (s ∈ (d.getD ((a.getD k dLk).route).toNat [])))))) (av := .b false) rfl rfl rfl (hE 76 rfl) (by rw [hq2]; exact hE 90 rfl) (by rw [hob]; rfl)
    refine op0 ?_
    show Imp _ _ _
    exact iL [(1, 1), (2, 2), (3, 3)] [((1, 1), .live _), ((2, 2), .live _), ((3, 3), .live _)] ⟨row_no rfl rfl, row_no rfl rfl, row_no rfl rfl, trivial⟩ (he := (sS (by exact congrArg (fun b_ => AV.v (.bool b_)) (by first | (rw [hlkE, hq0]; rfl) | (rw [hlkE, hq0, hq1]; rfl) | (rw [hlkE, hq0, hq1, hq2]; rfl) | (exfalso; rw [hq1] at hq2; cases hq2) | (exfalso; rw [hq1] at hq3; cases hq3))) (sS rfl (sS rfl (sS rfl (sM rfl (sM rfl (sS rfl (sM rfl (sS rfl (sS rfl (sS rfl (sS rfl (sS rfl sr_none))))))))))))))
   refine (Bool.eq_false_or_eq_true (!decide ((doL (Z8i e c p m t d g ow u) a c k) = []))).elim (fun hq2 => ?_) (fun hq2 => ?_)
   ·skip
    refine aD 33 [(91, .b (((d.getD ((a.getD k dLk).route).toNat []).getD 0 0) != ((doL (Z8i e c p m t d g ow u) a c k).getD (((doL (Z8i e c p m t d g ow u) a c k).length : Int) - 1).toNat 0))), (90, .b (((d.getD ((a.getD k dLk).route).toNat []).getD 0 0) != ((doL (Z8i e c p m t d g ow u) a c k).getD (((doL (Z8i e c p m t d g ow u) a c k).length : Int) - 1).toNat 0))), (89, .b (((d.getD ((a.getD k dLk).route).toNat []).getD 0 0) != ((doL (Z8i e c p m t d g ow u) a c k).getD (((doL (Z8i e c p m t d g ow u) a c k).length : Int) - 1).toNat 0))), (88, .i ((doL (Z8i e c p m t d g ow u) a c k).getD (((doL (Z8i e c p m t d g ow u) a c k).length : Int) - 1).toNat 0)), (87, .rp (([.i ((doL (Z8i e c p m t d g ow u) a c k).getD (((doL (Z8i e c p m t d g ow u) a c k).length : Int) - 1).toNat 0)] : List AV) ++ ((enc eI (doL (Z8i e c p m t d g ow u) a c k)).drop (((((doL (Z8i e c p m t d g ow u) a c k).length : Int) - 1).toNat + 1) * 1)))), (86, .i (((doL (Z8i e c p m t d g ow u) a c k).length : Int) - 1)), (85, .i ((doL (Z8i e c p m t d g ow u) a c k).length : Int)), (84, lsA (doL (Z8i e c p m t d g ow u) a c k)), (83, lsA (doL (Z8i e c p m t d g ow u) a c k)), (82, .i ((d.getD ((a.getD k dLk).route).toNat []).getD 0 0)), (81, .rp (([.i ((d.getD ((a.getD k dLk).route).toNat []).getD 0 0)] : List AV) ++ ((enc eI (d.getD ((a.getD k dLk).route).toNat [])).drop ((0 + 1) * 1)))), (80, .q eI (d.getD ((a.getD k dLk).route).toNat [])), (79, .b (!decide ((doL (Z8i e c p m t d g ow u) a c k) = []))), (78, .b (!decide ((doL (Z8i e c p m t d g ow u) a c k) = []))), (77, lsA (doL (Z8i e c p m t d g ow u) a c k)), (76, .b false), (75, .b false), (74, .b false), (73, .v undef), (72, .v undef), (71, .v undef), (70, .v undef), (69, .v undef), (68, .b (decide ((doL (Z8i e c p m t d g ow u) a c k) = []))), (67, .b (decide ((doL (Z8i e c p m t d g ow u) a c k) = []))), (66, lsA (doL (Z8i e c p m t d g ow u) a c k)), (65, .b (((a.getD k dLk).ends) != (-1))), (64, .b (((a.getD k dLk).ends) != (-1))), (63, .i ((a.getD k dLk).ends)), (62, .rp (((Z8k a k) : List AV) ++ ((enc eLk a).drop ((k + 1) * 4)))), (61, .rp (((Z8g a k) : List AV) ++ ((enc eLk a).drop ((k + 1) * 4)))), (60, .i (k : Int)), (59, .q eLk a)] mixed ?_ ?_
    ·iterate 33 (refine ⟨?_, ?_⟩; rotate_left)
     trivial
     ·exact sMv
     ·exact sMv
     ·exact (sIx dLk ut41 sz58)
     ·exact sF (Z8l a k) (Z8q a k) ft58_2 sz2
     ·exact (sLd ag2)
     ·exact sB (.bool (((a.getD k dLk).ends) != (-1))) rfl
     ·exact sMv
     ·exact gy0 hq0 sMv
     ·exact gy0 hq0 (dW 67 fun st hob hE => aop_lsNil rfl rfl rfl ut48 (hE 66 rfl) rfl (.inl ⟨rfl, rfl⟩) (by rw [hob]; rfl))
     ·exact gy0 hq0 sMv
     ·exact gn1 hq1
     ·exact gn1 hq1
     ·exact gn1 hq1
     ·exact gn1 hq1
     ·exact gn1 hq1
     ·exact gy0 hq0 (sPk (decide ((doL (Z8i e c p m t d g ow u) a c k) = [])) (.b false) hq1)
     ·exact dW 75 fun st hob hE => aop_pick (b := (((a.getD k dLk).ends) != (-1))) (av := .b false) rfl rfl rfl (hE 65 rfl) (by rw [hq0]; exact hE 74 rfl) (by rw [hob]; rfl)
     ·exact sMv
     ·exact gy0 rfl sMv
     ·exact gy0 rfl (dW 78 fun st hob hE => aop_lsNil rfl rfl rfl ut48 (hE 77 rfl) rfl (.inr ⟨rfl, rfl⟩) (by rw [hob]; rfl))
     ·exact gy0 rfl sMv
     ·exact gy1 hq2 sMv
     ·exact gy1 hq2 (dW 81 fun st hob hE => aop_ixE (k := 0) 0 rfl rfl rfl ut48 sz3 (hE 80 rfl) rfl (fun _ => rfl) rfl oo (by rw [hob]; rfl))
     ·exact gy1 hq2 (sLd ag3)
     ·exact gy1 hq2 sMv
     ·exact gy1 hq2 sMv
     ·exact gy1 hq2 (dW 85 fun st hob hE => aop_len rfl rfl rfl rfl ut48 (len_ls (hE 84 rfl)) (by rw [hob]; rfl))
     ·exact gy1 hq2 (sB (.int .i64 (((doL (Z8i e c p m t d g ow u) a c k).length : Int) - 1)) (subI om))
     ·exact gy1 hq2 (dW 87 fun st hob hE => aop_ixI 0 rfl rfl rfl ut48 sz3 (((hE 83 rfl)).trans (ls_ne (by simpa using (show (!decide ((doL (Z8i e c p m t d g ow u) a c k) = [])) = true by assumption)))) (hE 86 rfl) (fun _ => rfl) rfl (by have h_ := List.length_pos_iff.2 (by simpa using (show (!decide ((doL (Z8i e c p m t d g ow u) a c k) = [])) = true by assumption)); omega) (by have h_ := List.length_pos_iff.2 (by simpa using (show (!decide ((doL (Z8i e c p m t d g ow u) a c k) = [])) = true by assumption)); omega) (by rw [hob]; rfl))
     ·exact gy1 hq2 (sLd ag3)
     ·exact gy1 hq2 (sB (.bool (((d.getD ((a.getD k dLk).route).toNat []).getD 0 0) != ((doL (Z8i e c p m t d g ow u) a c k).getD (((doL (Z8i e c p m t d g ow u) a c k).length : Int) - 1).toNat 0))) rfl)
     ·exact gy0 rfl (dW 90 fun st hob hE => aop_pick (b := (!decide ((doL (Z8i e c p m t d g ow u) a c k) = []))) (av := .b (((d.getD ((a.getD k dLk).route).toNat []).getD 0 0) != ((doL (Z8i e c p m t d g ow u) a c k).getD (((doL (Z8i e c p m t d g ow u) a c k).length : Int) - 1).toNat 0))) rfl rfl rfl (hE 79 rfl) (by rw [hq2]; exact hE 89 rfl) (by rw [hob]; rfl))
     exact dW 91 fun st hob hE => aop_pick (b := false) (av := .b (((d.getD ((a.getD k dLk).route).toNat []).getD 0 0) != ((doL (Z8i e c p m t d g ow u) a c k).getD (((doL (Z8i e c p m t d g ow u) a c k).length : Int) - 1).toNat 0))) rfl rfl rfl (hE 76 rfl) (hE 90 rfl) (by rw [hob]; rfl)
    refine op0 ?_
    show Imp _ _ _
    exact iL [(1, 1), (2, 2), (3, 3)] [((1, 1), .live _), ((2, 2), .live _), ((3, 3), .live _)] ⟨row_no rfl rfl, row_no rfl rfl, row_no rfl rfl, trivial⟩ (he := (sS (by exact congrArg (fun b_ => AV.v (.bool b_)) (by first | (rw [hlkE, hq0]; rfl) | (rw [hlkE, hq0, hq1]; rfl) | (rw [hlkE, hq0, hq1, hq2]; rfl) | (exfalso; rw [hq1] at hq2; cases hq2) | (exfalso; rw [hq1] at hq3; cases hq3))) (sS rfl (sS rfl (sS rfl (sM rfl (sM rfl (sS rfl (sM rfl (sS rfl (sS rfl (sS rfl (sS rfl (sS rfl sr_none))))))))))))))
   refine aD 33 [(91, .b false), (90, .b false), (89, .v undef), (88, .v undef), (87, .v undef), (86, .v undef), (85, .v undef), (84, .v undef), (83, .v undef), (82, .v undef), (81, .v undef), (80, .v undef), (79, .b (!decide ((doL (Z8i e c p m t d g ow u) a c k) = []))), (78, .b (!decide ((doL (Z8i e c p m t d g ow u) a c k) = []))), (77, lsA (doL (Z8i e c p m t d g ow u) a c k)), (76, .b false), (75, .b false), (74, .b false), (73, .v undef), (72, .v undef), (71, .v undef), (70, .v undef), (69, .v undef), (68, .b (decide ((doL (Z8i e c p m t d g ow u) a c k) = []))), (67, .b (decide ((doL (Z8i e c p m t d g ow u) a c k) = []))), (66, lsA (doL (Z8i e c p m t d g ow u) a c k)), (65, .b (((a.getD k dLk).ends) != (-1))), (64, .b (((a.getD k dLk).ends) != (-1))), (63, .i ((a.getD k dLk).ends)), (62, .rp (((Z8k a k) : List AV) ++ ((enc eLk a).drop ((k + 1) * 4)))), (61, .rp (((Z8g a k) : List AV) ++ ((enc eLk a).drop ((k + 1) * 4)))), (60, .i (k : Int)), (59, .q eLk a)] mixed ?_ ?_
   ·iterate 33 (refine ⟨?_, ?_⟩; rotate_left)
    trivial
    ·exact sMv
    ·exact sMv
    ·exact (sIx dLk ut41 sz58)
    ·exact sF (Z8l a k) (Z8q a k) ft58_2 sz2
    ·exact (sLd ag2)
    ·exact sB (.bool (((a.getD k dLk).ends) != (-1))) rfl
    ·exact sMv
    ·exact gy0 hq0 sMv
    ·exact gy0 hq0 (dW 67 fun st hob hE => aop_lsNil rfl rfl rfl ut48 (hE 66 rfl) rfl (.inl ⟨rfl, rfl⟩) (by rw [hob]; rfl))
    ·exact gy0 hq0 sMv
    ·exact gn1 hq1
    ·exact gn1 hq1
    ·exact gn1 hq1
    ·exact gn1 hq1
    ·exact gn1 hq1
    ·exact gy0 hq0 (sPk (decide ((doL (Z8i e c p m t d g ow u) a c k) = [])) (.b false) hq1)
    ·exact dW 75 fun st hob hE => aop_pick (b := (((a.getD k dLk).ends) != (-1))) (av := .b false) rfl rfl rfl (hE 65 rfl) (by rw [hq0]; exact hE 74 rfl) (by rw [hob]; rfl)
    ·exact sMv
    ·exact gy0 rfl sMv
    ·exact gy0 rfl (dW 78 fun st hob hE => aop_lsNil rfl rfl rfl ut48 (hE 77 rfl) rfl (.inr ⟨rfl, rfl⟩) (by rw [hob]; rfl))
    ·exact gy0 rfl sMv
    ·exact gn1 hq2
    ·exact gn1 hq2
    ·exact gn1 hq2
    ·exact gn1 hq2
    ·exact gn1 hq2
    ·exact gn1 hq2
    ·exact gn1 hq2
    ·exact gn1 hq2
    ·exact gn1 hq2
    ·exact gn1 hq2
    ·exact gy0 rfl (sPk (!decide ((doL (Z8i e c p m t d g ow u) a c k) = [])) (.b false) hq2)
    exact dW 91 fun st hob hE => aop_pick (b := false) (av := .b false) rfl rfl rfl (hE 76 rfl) (hE 90 rfl) (by rw [hob]; rfl)
   refine op0 ?_
   show Imp _ _ _
   exact iL [(1, 1), (2, 2), (3, 3)] [((1, 1), .live _), ((2, 2), .live _), ((3, 3), .live _)] ⟨row_no rfl rfl, row_no rfl rfl, row_no rfl rfl, trivial⟩ (he := (sS (by exact congrArg (fun b_ => AV.v (.bool b_)) (by first | (rw [hlkE, hq0]; rfl) | (rw [hlkE, hq0, hq1]; rfl) | (rw [hlkE, hq0, hq1, hq2]; rfl) | (exfalso; rw [hq1] at hq2; cases hq2) | (exfalso; rw [hq1] at hq3; cases hq3))) (sS rfl (sS rfl (sS rfl (sM rfl (sM rfl (sS rfl (sM rfl (sS rfl (sS rfl (sS rfl (sS rfl (sS rfl sr_none))))))))))))))
  refine awp_cond (!(lkB (Z8i e c p m t d g ow u) (a.getD k dLk) (doL (Z8i e c p m t d g ow u) a c k))) rfl rfl (fun hc3 => ?_) (fun hc3 => ?_)
  ·skip
   have hlt : (lkB (Z8i e c p m t d g ow u) (a.getD k dLk) (doL (Z8i e c p m t d g ow u) a c k)) = false := by simpa using hc3
   have hO := do_stop om htr hinv0 hlt
   refine seqR ?_
   refine mG (.sl 3 0 ((doO (Z8i e c p m t d g ow u) a c k).length)) ?_
   refine mG (.sl 3 0 ((doO (Z8i e c p m t d g ow u) a c k).length)) ?_
   refine op0 ?_
   refine awp_imp _ (imp_frozen rfl (fun _ h => h) (lee_lend 14 (.q eI (doO (Z8i e c p m t d g ow u) a c k)) (lend_s (id := 3) (n := (doO (Z8i e c p m t d g ow u) a c k).length) (o := ⟨(enc eI (doO (Z8i e c p m t d g ow u) a c k)), 3, 1⟩) rfl (enc_len (fun _ => rfl) (by first | rfl | (simp; done)))) lee_lend0)) ?_
   refine awp_ret ?_
   exact fret (av := .ro ((doO (Z8i e c p m t d g ow u) a c k).length) (enc eI (doO (Z8i e c p m t d g ow u) a c k))) rfl rfl (by rw [← hO] <;> rfl)
  have hlt : (lkB (Z8i e c p m t d g ow u) (a.getD k dLk) (doL (Z8i e c p m t d g ow u) a c k)) = true := by simpa using hc3
  refine awp_skip ?_
  refine awp_seq ?_
  refine seqR ?_
  refine mG (.i 0) ?_
  refine op0 ?_
  refine awp_block ?_
  refine awp_countI (fun j => ⟨(Z8j a g ow u c e p m t d k j), (updO (Z8h p m t d e c) 3 (.live ⟨(Z8m e c p m t d g ow u a k j), 3, 1⟩))⟩) (fun j => pcR (Z8i e c p m t d g ow u) (d.getD ((a.getD k dLk).route).toNat []) ((a.getD k dLk).pieces.drop j) j (pcO (d.getD ((a.getD k dLk).route).toNat []) (a.getD k dLk).pieces j) = pcF (Z8i e c p m t d g ow u) (d.getD ((a.getD k dLk).route).toNat []) (a.getD k dLk).pieces) ((a.getD k dLk).pieces.length) ?_ rfl (fun j hk_j hinv => ?_)
  ·skip
   exact iL [(1, 1), (2, 2), (3, 3)] [((1, 1), .live _), ((2, 2), .live _), ((3, 3), .live _)] ⟨row_no rfl rfl, row_no rfl rfl, row_no rfl (by exact congrArg (fun l_ => LObj.mk (enc eI l_) 3 1) (by simp [pcO])), trivial⟩ (he := (sS rfl (sS rfl (sS rfl (sS rfl (sM (by exact congrArg (AV.sl 3 0) (by simp [pcO])) (sM rfl (sS rfl (sM rfl (sS rfl (sS rfl (sS rfl (sS rfl (sS rfl sr_none))))))))))))))
  have hpol := pcO_len (d.getD ((a.getD k dLk).route).toNat []) (a.getD k dLk).pieces j
  refine awp_seq ?_
  refine seqR ?_
  refine mG (.i (j : Int)) ?_
  refine mG (.q eLk a) ?_
  refine mG (.i (k : Int)) ?_
  refine oG (qX dLk ut41 sz58 ?_)
  refine oG (qF (Z8l a k) (Z8v a k) ft58_3 sz27 ?_)
  refine oG (qL (.ro ((a.getD k dLk).pieces.length) (Z8u a k)) ag27 ?_)
  refine oG (qN ut27 ?_)
  refine bG ((.bool (decide ((j : Int) < ((a.getD k dLk).pieces.length : Int))))) ?_
  refine rU (upd (Z8j a g ow u c e p m t d k j) 100 (.b (decide ((j : Int) < ((a.getD k dLk).pieces.length : Int))))) (updO (Z8h p m t d e c) 3 (.live ⟨(Z8m e c p m t d g ow u a k j), 3, 1⟩)) ?_
  refine awp_cond (decide ((j : Int) < ((a.getD k dLk).pieces.length : Int))) rfl rfl (fun hc4 => ?_) (fun hc4 => ?_)
  ·skip
   have hf19 := of_decide_eq_true hc4
   have hjp : j + 1 < (d.getD ((a.getD k dLk).route).toNat []).length := by omega
   have hsdl := stD_len (secs := p) (pts := t) (path := (d.getD ((a.getD k dLk).route).toNat [])) (k := j)
   have hsr := hpst _ (getD_mem (l := (d.getD ((a.getD k dLk).route).toNat [])) (k := j + 1) 0 hjp)
   have hpo : 0 ≤ partI m ((d.getD ((a.getD k dLk).route).toNat []).getD (j + 1) 0) ∧ partI m ((d.getD ((a.getD k dLk).route).toNat []).getD (j + 1) 0) < (ow.length : Int) := hf.hpo _ hsr.1 hsr.2
   refine awp_skip ?_
   refine awp_seq ?_
   refine awp_block ?_
   refine awp_seq ?_
   refine seqR ?_
   refine mG (.q eLk a) ?_
   refine mG (.i (k : Int)) ?_
   refine oG (qX dLk ut41 sz58 ?_)
   refine oG (qF (Z8l a k) (Z8v a k) ft58_3 sz27 ?_)
   refine oG (qL (.ro ((a.getD k dLk).pieces.length) (Z8u a k)) ag27 ?_)
   refine mG (.i (j : Int)) ?_
   refine oG (qX (0 : Int) ut27 sz5 ?_)
   refine oG (qL (.v (.int .u8 (((a.getD k dLk).pieces).getD j 0))) ag5 ?_)
   refine bG ((.bool ((((a.getD k dLk).pieces).getD j 0) == 0))) ?_
   refine rU (upd (Z8j a g ow u c e p m t d k j) 111 (.b ((((a.getD k dLk).pieces).getD j 0) == 0))) (updO (Z8h p m t d e c) 3 (.live ⟨(Z8m e c p m t d g ow u a k j), 3, 1⟩)) ?_
   refine awp_cond ((((a.getD k dLk).pieces).getD j 0) == 0) rfl rfl (fun hc5 => ?_) (fun hc5 => ?_)
   ·skip
    have hf20 := (beq_iff_eq).1 hc5
    have hz_ : ((a.getD k dLk).pieces).getD j 0 = 0 := (beq_iff_eq).1 hc5
    refine awp_exit ?_
    refine regR ?_
    refine mG (.i (j : Int)) ?_
    refine oG (qB (.int .i64 ((j + 1 : Nat) : Int)) (addN om) ?_)
    refine mG (.i ((j + 1 : Nat) : Int)) ?_
    refine op0 ?_
    show _ ∧ _
    have hs_ := pcO_no (path := (d.getD ((a.getD k dLk).route).toNat [])) (ps := (a.getD k dLk).pieces) (k := j) hz_
    refine ⟨by omega, (by first | exact pc_no om hinv hz_ | exact pc_on om hinv hz_ hok), ?_⟩
    exact iL [(1, 1), (2, 2), (3, 3)] [((1, 1), .live _), ((2, 2), .live _), ((3, 3), .live _)] ⟨row_no rfl rfl, row_no rfl rfl, row_no rfl (by exact congrArg (fun l_ => LObj.mk (enc eI l_) 3 1) (by (try simp only [Z8u, Z8t, Z8r, Z8m, Z8k, Z8g]); rw [hs_])), trivial⟩ (he := (sS rfl (sS rfl (sS rfl (sS rfl (sM (by exact congrArg (AV.sl 3 0) (by (try simp only [Z8u, Z8t, Z8r, Z8m, Z8k, Z8g]); rw [hs_])) (sM rfl (sS rfl (sM rfl (sS rfl (sS rfl (sS rfl (sS rfl (sS rfl sr_none))))))))))))))
   have hf21 := (beq_eq_false_iff_ne).1 hc5
   have hz_ : ¬ ((a.getD k dLk).pieces).getD j 0 = 0 := (beq_eq_false_iff_ne).1 hc5
   have hVo : (((g.getD ((d.getD ((a.getD k dLk).route).toNat []).getD (j + 1) 0).toNat 0) == 0) || (((g.getD ((d.getD ((a.getD k dLk).route).toNat []).getD (j + 1) 0).toNat 0) == 1) && ((ow.getD (partI m ((d.getD ((a.getD k dLk).route).toNat []).getD (j + 1) 0)).toNat 0) == c))) = openB (Z8i e c p m t d g ow u) ((d.getD ((a.getD k dLk).route).toNat []).getD (j + 1) 0) := by unfold openB; rw [show ((Z8i e c p m t d g ow u)).id = c from hid]; rfl
   refine awp_skip ?_
   refine seqR ?_
   refine mG (Z8s d a k) ?_
   refine mG (.i (j : Int)) ?_
   refine oG (qB (.int .i64 ((j + 1 : Nat) : Int)) (addN om) ?_)
   refine oG (qX (0 : Int) ut48 sz3 ?_)
   refine oG (qL (.i ((d.getD ((a.getD k dLk).route).toNat []).getD (j + 1) 0)) ag3 ?_)
   refine mG (.i ((d.getD ((a.getD k dLk).route).toNat []).getD (j + 1) 0)) ?_
   refine rU (upd (Z8j a g ow u c e p m t d k j) 22 (.i ((d.getD ((a.getD k dLk).route).toNat []).getD (j + 1) 0))) (updO (Z8h p m t d e c) 3 (.live ⟨(Z8m e c p m t d g ow u a k j), 3, 1⟩)) ?_
   refine seqR ?_
   refine mG (.q eU8 g) ?_
   refine mG (.i ((d.getD ((a.getD k dLk).route).toNat []).getD (j + 1) 0)) ?_
   refine oG (aop_ixI 0 rfl rfl rfl ut27 sz5 rfl rfl (fun _ => rfl) rfl om oo ?_)
   refine oG (qL (.v (.int .u8 (g.getD ((d.getD ((a.getD k dLk).route).toNat []).getD (j + 1) 0).toNat 0))) ag5 ?_)
   refine bG ((.bool ((g.getD ((d.getD ((a.getD k dLk).route).toNat []).getD (j + 1) 0).toNat 0) == 0))) ?_
   refine mG (.b ((g.getD ((d.getD ((a.getD k dLk).route).toNat []).getD (j + 1) 0).toNat 0) == 0)) ?_
   refine aops_grp 16 138 (.b (((g.getD ((d.getD ((a.getD k dLk).route).toNat []).getD (j + 1) 0).toNat 0) == 0) || (((g.getD ((d.getD ((a.getD k dLk).route).toNat []).getD (j + 1) 0).toNat 0) == 1) && ((ow.getD (partI m ((d.getD ((a.getD k dLk).route).toNat []).getD (j + 1) 0)).toNat 0) == c)))) ?_ ?_
   ·refine (Bool.eq_false_or_eq_true ((g.getD ((d.getD ((a.getD k dLk).route).toNat []).getD (j + 1) 0).toNat 0) == 0)).elim (fun hg22 => ?_) (fun hg22 => ?_)
    ·skip
     have hf23 := (beq_iff_eq).1 hg22
     refine nG hg22 ?_
     refine nG hg22 ?_
     refine nG hg22 ?_
     refine nG hg22 ?_
     refine nG hg22 ?_
     refine nG hg22 ?_
     refine opN rfl rfl rfl rfl (by intro h; cases h) rfl rfl ?_
     refine opN rfl rfl rfl rfl (by intro h; cases h) rfl rfl ?_
     refine opN rfl rfl rfl rfl (by intro h; cases h) rfl rfl ?_
     refine opN rfl rfl rfl rfl (by intro h; cases h) rfl rfl ?_
     refine opN rfl rfl rfl rfl (by intro h; cases h) rfl rfl ?_
     refine opN rfl rfl rfl rfl (by intro h; cases h) rfl rfl ?_
     refine opN rfl rfl rfl rfl (by intro h; cases h) rfl rfl ?_
     refine opN rfl rfl rfl rfl (by intro h; cases h) rfl rfl ?_
     refine nG hg22 ?_
     refine oG (qP ((g.getD ((d.getD ((a.getD k dLk).route).toNat []).getD (j + 1) 0).toNat 0) == 0) (.b true) hg22 ?_)
     refine op0 ?_
     exact imp_env (lee_both 138 _ _ (by rw [hg22] <;> rfl) lO)
    have hf24 := (beq_eq_false_iff_ne).1 hg22
    refine oY hg22 (qM (.q eU8 g) ?_)
    refine oY hg22 (qM (.i ((d.getD ((a.getD k dLk).route).toNat []).getD (j + 1) 0)) ?_)
    refine oY hg22 (aop_ixI 0 rfl rfl rfl ut27 sz5 rfl rfl (fun _ => rfl) rfl om oo ?_)
    refine oY hg22 (qL (.v (.int .u8 (g.getD ((d.getD ((a.getD k dLk).route).toNat []).getD (j + 1) 0).toNat 0))) ag5 ?_)
    refine oY hg22 (qB (.bool ((g.getD ((d.getD ((a.getD k dLk).route).toNat []).getD (j + 1) 0).toNat 0) == 1)) rfl ?_)
    refine oY hg22 (qM (.b ((g.getD ((d.getD ((a.getD k dLk).route).toNat []).getD (j + 1) 0).toNat 0) == 1)) ?_)
    refine aops_grp 9 137 (.b (((g.getD ((d.getD ((a.getD k dLk).route).toNat []).getD (j + 1) 0).toNat 0) == 1) && ((ow.getD (partI m ((d.getD ((a.getD k dLk).route).toNat []).getD (j + 1) 0)).toNat 0) == c))) ?_ ?_
    ·refine (Bool.eq_false_or_eq_true ((g.getD ((d.getD ((a.getD k dLk).route).toNat []).getD (j + 1) 0).toNat 0) == 1)).elim (fun hg25 => ?_) (fun hg25 => ?_)
     ·skip
      have hf26 := (beq_iff_eq).1 hg25
      refine oY hg25 (qM (.q eI ow) ?_)
      refine oY hg25 (qLB (Z8r p m t d) ag39 sz39 ?_)
      refine oY hg25 (qM (.i ((d.getD ((a.getD k dLk).route).toNat []).getD (j + 1) 0)) ?_)
      refine oY hg25 (qC (r05_Part m ((d.getD ((a.getD k dLk).route).toNat []).getD (j + 1) 0) hz3 hf.hpl) bd39 ?_)
      refine oY hg25 (aop_ixI 0 rfl rfl rfl ut48 sz3 rfl rfl (fun _ => rfl) rfl om oo ?_)
      refine oY hg25 (qL (.i (ow.getD (partI m ((d.getD ((a.getD k dLk).route).toNat []).getD (j + 1) 0)).toNat 0)) ag3 ?_)
      refine oY hg25 (qM (.i c) ?_)
      refine oY hg25 (qB (.bool ((ow.getD (partI m ((d.getD ((a.getD k dLk).route).toNat []).getD (j + 1) 0)).toNat 0) == c)) rfl ?_)
      refine oY hg22 (qP ((g.getD ((d.getD ((a.getD k dLk).route).toNat []).getD (j + 1) 0).toNat 0) == 1) (.b ((ow.getD (partI m ((d.getD ((a.getD k dLk).route).toNat []).getD (j + 1) 0)).toNat 0) == c)) hg25 ?_)
      refine op0 ?_
      exact imp_env (lee_both 137 _ _ (by rw [hg25] <;> rfl) lO)
     have hf27 := (beq_eq_false_iff_ne).1 hg25
     refine nG hg25 ?_
     refine nG hg25 ?_
     refine nG hg25 ?_
     refine nG hg25 ?_
     refine nG hg25 ?_
     refine nG hg25 ?_
     refine nG hg25 ?_
     refine nG hg25 ?_
     refine oY hg22 (qP ((g.getD ((d.getD ((a.getD k dLk).route).toNat []).getD (j + 1) 0).toNat 0) == 1) (.b false) hg25 ?_)
     refine op0 ?_
     exact imp_env (lee_both 137 _ _ (by rw [hg25] <;> rfl) lO)
    refine oG (qP ((g.getD ((d.getD ((a.getD k dLk).route).toNat []).getD (j + 1) 0).toNat 0) == 0) (.b (((g.getD ((d.getD ((a.getD k dLk).route).toNat []).getD (j + 1) 0).toNat 0) == 1) && ((ow.getD (partI m ((d.getD ((a.getD k dLk).route).toNat []).getD (j + 1) 0)).toNat 0) == c))) hg22 ?_)
    refine op0 ?_
    exact imp_env (lee_both 138 _ _ (by rw [hg22] <;> rfl) lO)
   refine mG (.b (((g.getD ((d.getD ((a.getD k dLk).route).toNat []).getD (j + 1) 0).toNat 0) == 0) || (((g.getD ((d.getD ((a.getD k dLk).route).toNat []).getD (j + 1) 0).toNat 0) == 1) && ((ow.getD (partI m ((d.getD ((a.getD k dLk).route).toNat []).getD (j + 1) 0)).toNat 0) == c)))) ?_
   refine op0 ?_
   refine rT (upd (upd (Z8j a g ow u c e p m t d k j) 22 (.i ((d.getD ((a.getD k dLk).route).toNat []).getD (j + 1) 0))) 23 (.b (((g.getD ((d.getD ((a.getD k dLk).route).toNat []).getD (j + 1) 0).toNat 0) == 0) || (((g.getD ((d.getD ((a.getD k dLk).route).toNat []).getD (j + 1) 0).toNat 0) == 1) && ((ow.getD (partI m ((d.getD ((a.getD k dLk).route).toNat []).getD (j + 1) 0)).toNat 0) == c))))) (updO (Z8h p m t d e c) 3 (.live ⟨(Z8m e c p m t d g ow u a k j), 3, 1⟩)) ?_
   refine awp_seq ?_
   refine awp_seq ?_
   refine (Bool.eq_false_or_eq_true (!(((g.getD ((d.getD ((a.getD k dLk).route).toNat []).getD (j + 1) 0).toNat 0) == 0) || (((g.getD ((d.getD ((a.getD k dLk).route).toNat []).getD (j + 1) 0).toNat 0) == 1) && ((ow.getD (partI m ((d.getD ((a.getD k dLk).route).toNat []).getD (j + 1) 0)).toNat 0) == c))))).elim (fun hq0 => ?_) (fun hq0 => ?_)
   ·skip
    have hf29 := not_t hq0
    obtain ⟨hf30a, hf30b⟩ := or_f hf29
    have hf31 := (beq_eq_false_iff_ne).1 hf30a
    have hop_ : openB (Z8i e c p m t d g ow u) ((d.getD ((a.getD k dLk).route).toNat []).getD (j + 1) 0) = false := by rw [← hVo]; exact not_t hq0
    have hok : okB (Z8i e c p m t d g ow u) (d.getD ((a.getD k dLk).route).toNat []) j = false := by unfold okB; rw [hop_, Bool.and_false]
    have hpc := pc_cut om hinv hz_ hok
    have hO := do_part om htr hinv0 hlt hpc
    refine aD 16 [(154, .b true), (153, .v undef), (152, .v undef), (151, .v undef), (150, .v undef), (149, .v undef), (148, .v undef), (147, .v undef), (146, .v undef), (145, .v undef), (144, .v undef), (143, .v undef), (142, .v undef), (141, .b (!(((g.getD ((d.getD ((a.getD k dLk).route).toNat []).getD (j + 1) 0).toNat 0) == 0) || (((g.getD ((d.getD ((a.getD k dLk).route).toNat []).getD (j + 1) 0).toNat 0) == 1) && ((ow.getD (partI m ((d.getD ((a.getD k dLk).route).toNat []).getD (j + 1) 0)).toNat 0) == c))))), (140, .b (!(((g.getD ((d.getD ((a.getD k dLk).route).toNat []).getD (j + 1) 0).toNat 0) == 0) || (((g.getD ((d.getD ((a.getD k dLk).route).toNat []).getD (j + 1) 0).toNat 0) == 1) && ((ow.getD (partI m ((d.getD ((a.getD k dLk).route).toNat []).getD (j + 1) 0)).toNat 0) == c))))), (139, .b (((g.getD ((d.getD ((a.getD k dLk).route).toNat []).getD (j + 1) 0).toNat 0) == 0) || (((g.getD ((d.getD ((a.getD k dLk).route).toNat []).getD (j + 1) 0).toNat 0) == 1) && ((ow.getD (partI m ((d.getD ((a.getD k dLk).route).toNat []).getD (j + 1) 0)).toNat 0) == c))))] mixed ?_ ?_
    ·iterate 16 (refine ⟨?_, ?_⟩; rotate_left)
     trivial
     ·exact sMv
     ·exact dW 140 fun st hob hE => aop_not rfl rfl rfl (hE 139 rfl) (by rw [hob]; rfl)
     ·exact sMv
     ·exact gn0 hq0
     ·exact gn0 hq0
     ·exact gn0 hq0
     ·exact gn0 hq0
     ·exact gn0 hq0
     ·exact gn0 hq0
     ·exact gn0 hq0
     ·exact gn0 hq0
     ·exact gn0 hq0
     ·exact gn0 hq0
     ·exact gn0 hq0
     ·exact gn0 hq0
     exact sPk (!(((g.getD ((d.getD ((a.getD k dLk).route).toNat []).getD (j + 1) 0).toNat 0) == 0) || (((g.getD ((d.getD ((a.getD k dLk).route).toNat []).getD (j + 1) 0).toNat 0) == 1) && ((ow.getD (partI m ((d.getD ((a.getD k dLk).route).toNat []).getD (j + 1) 0)).toNat 0) == c)))) (.b true) hq0
    refine op0 ?_
    refine awp_cond true rfl rfl (fun _ => ?_) (fun h => by cases h)
    refine seqR ?_
    refine mG (.sl 3 0 (((doO (Z8i e c p m t d g ow u) a c k) ++ (pcO (d.getD ((a.getD k dLk).route).toNat []) (a.getD k dLk).pieces j)).length)) ?_
    refine mG (.sl 3 0 (((doO (Z8i e c p m t d g ow u) a c k) ++ (pcO (d.getD ((a.getD k dLk).route).toNat []) (a.getD k dLk).pieces j)).length)) ?_
    refine op0 ?_
    refine awp_imp _ (imp_frozen rfl (fun _ h => h) (lee_lend 14 (.q eI ((doO (Z8i e c p m t d g ow u) a c k) ++ (pcO (d.getD ((a.getD k dLk).route).toNat []) (a.getD k dLk).pieces j))) (lend_s (id := 3) (n := ((doO (Z8i e c p m t d g ow u) a c k) ++ (pcO (d.getD ((a.getD k dLk).route).toNat []) (a.getD k dLk).pieces j)).length) (o := ⟨(Z8m e c p m t d g ow u a k j), 3, 1⟩) rfl (enc_len (fun _ => rfl) (by first | rfl | (simp; done)))) lee_lend0)) ?_
    refine awp_ret ?_
    exact fret (av := .ro (((doO (Z8i e c p m t d g ow u) a c k) ++ (pcO (d.getD ((a.getD k dLk).route).toNat []) (a.getD k dLk).pieces j)).length) (Z8m e c p m t d g ow u a k j)) rfl rfl (by rw [← hO] <;> rfl)
   have hf32 := not_f hq0
   have hop_ : openB (Z8i e c p m t d g ow u) ((d.getD ((a.getD k dLk).route).toNat []).getD (j + 1) 0) = true := by rw [← hVo]; exact not_f hq0
   refine aD 16 [(154, .b (decide (((movesL (stD p t (d.getD ((a.getD k dLk).route).toNat []) j) u).length : Int) > 0))), (153, .b (decide (((movesL (stD p t (d.getD ((a.getD k dLk).route).toNat []) j) u).length : Int) > 0))), (152, .i ((movesL (stD p t (d.getD ((a.getD k dLk).route).toNat []) j) u).length : Int)), (151, .q eN (movesL (stD p t (d.getD ((a.getD k dLk).route).toNat []) j) u)), (150, .q eB u), (149, .q eN (stD p t (d.getD ((a.getD k dLk).route).toNat []) j)), (148, .i (j : Int)), (147, .i ((a.getD k dLk).route)), (146, .rp (((Z8g a k) : List AV) ++ ((enc eLk a).drop ((k + 1) * 4)))), (145, .rp (((Z8g a k) : List AV) ++ ((enc eLk a).drop ((k + 1) * 4)))), (144, .i (k : Int)), (143, .q eLk a), (142, .agg (Z8r p m t d)), (141, .b (!(((g.getD ((d.getD ((a.getD k dLk).route).toNat []).getD (j + 1) 0).toNat 0) == 0) || (((g.getD ((d.getD ((a.getD k dLk).route).toNat []).getD (j + 1) 0).toNat 0) == 1) && ((ow.getD (partI m ((d.getD ((a.getD k dLk).route).toNat []).getD (j + 1) 0)).toNat 0) == c))))), (140, .b (!(((g.getD ((d.getD ((a.getD k dLk).route).toNat []).getD (j + 1) 0).toNat 0) == 0) || (((g.getD ((d.getD ((a.getD k dLk).route).toNat []).getD (j + 1) 0).toNat 0) == 1) && ((ow.getD (partI m ((d.getD ((a.getD k dLk).route).toNat []).getD (j + 1) 0)).toNat 0) == c))))), (139, .b (((g.getD ((d.getD ((a.getD k dLk).route).toNat []).getD (j + 1) 0).toNat 0) == 0) || (((g.getD ((d.getD ((a.getD k dLk).route).toNat []).getD (j + 1) 0).toNat 0) == 1) && ((ow.getD (partI m ((d.getD ((a.getD k dLk).route).toNat []).getD (j + 1) 0)).toNat 0) == c))))] mixed ?_ ?_
   ·iterate 16 (refine ⟨?_, ?_⟩; rotate_left)
    trivial
    ·exact sMv
    ·exact dW 140 fun st hob hE => aop_not rfl rfl rfl (hE 139 rfl) (by rw [hob]; rfl)
    ·exact sMv
    ·exact gy0 hq0 (sLB (Z8r p m t d) ag39 sz39)
    ·exact gy0 hq0 sMv
    ·exact gy0 hq0 sMv
    ·exact gy0 hq0 (sIx dLk ut41 sz58)
    ·exact gy0 hq0 (sF (Z8l a k) (Z8l a k) ft58_0 sz3)
    ·exact gy0 hq0 (sLd ag3)
    ·exact gy0 hq0 sMv
    ·exact gy0 hq0 (sC (r15_Step p t d (a.getD k dLk).route (d.getD ((a.getD k dLk).route).toNat []) j hz1 hz2 hz8 hxr rfl ⟨by omega, hxl⟩ hps om) bd41)
    ·exact gy0 hq0 sMv
    ·exact gy0 hq0 (dW 151 fun st hob hE => call_ (r14_MovesR (stD p t (d.getD ((a.getD k dLk).route).toNat []) j) u oo oo) rfl rfl rfl rfl rfl bd40 (by show [st.env 149, st.env 150] ++ _ = _; rw [hE 149 rfl, hE 150 rfl]; rfl) (by rw [hob]; rfl))
    ·exact gy0 hq0 (dW 152 fun st hob hE => aop_len rfl rfl rfl rfl ut91 (len_ro (hE 151 rfl)) (by rw [hob]; rfl))
    ·exact gy0 hq0 (sB (.bool (decide (((movesL (stD p t (d.getD ((a.getD k dLk).route).toNat []) j) u).length : Int) > 0))) rfl)
    exact dW 154 fun st hob hE => aop_pick (b := (!(((g.getD ((d.getD ((a.getD k dLk).route).toNat []).getD (j + 1) 0).toNat 0) == 0) || (((g.getD ((d.getD ((a.getD k dLk).route).toNat []).getD (j + 1) 0).toNat 0) == 1) && ((ow.getD (partI m ((d.getD ((a.getD k dLk).route).toNat []).getD (j + 1) 0)).toNat 0) == c))))) (av := .b (decide (((movesL (stD p t (d.getD ((a.getD k dLk).route).toNat []) j) u).length : Int) > 0))) rfl rfl rfl (hE 141 rfl) (by rw [hq0]; exact hE 153 rfl) (by rw [hob]; rfl)
   refine op0 ?_
   refine awp_cond (decide (((movesL (stD p t (d.getD ((a.getD k dLk).route).toNat []) j) u).length : Int) > 0)) rfl rfl (fun hc6 => ?_) (fun hc6 => ?_)
   ·skip
    have hf33 := of_decide_eq_true hc6
    have hst_ : stepB (Z8i e c p m t d g ow u) (d.getD ((a.getD k dLk).route).toNat []) j = false := by unfold stepB; rw [y _ hpmm j hjp]; show (!((stD p t (d.getD ((a.getD k dLk).route).toNat []) j).any (wrB u))) = false; rw [← moves_any, hc6]; rfl
    have hok : okB (Z8i e c p m t d g ow u) (d.getD ((a.getD k dLk).route).toNat []) j = false := by unfold okB; rw [hst_]; rfl
    have hpc := pc_cut om hinv hz_ hok
    have hO := do_part om htr hinv0 hlt hpc
    refine seqR ?_
    refine mG (.sl 3 0 (((doO (Z8i e c p m t d g ow u) a c k) ++ (pcO (d.getD ((a.getD k dLk).route).toNat []) (a.getD k dLk).pieces j)).length)) ?_
    refine mG (.sl 3 0 (((doO (Z8i e c p m t d g ow u) a c k) ++ (pcO (d.getD ((a.getD k dLk).route).toNat []) (a.getD k dLk).pieces j)).length)) ?_
    refine op0 ?_
    refine awp_imp _ (imp_frozen rfl (fun _ h => h) (lee_lend 14 (.q eI ((doO (Z8i e c p m t d g ow u) a c k) ++ (pcO (d.getD ((a.getD k dLk).route).toNat []) (a.getD k dLk).pieces j))) (lend_s (id := 3) (n := ((doO (Z8i e c p m t d g ow u) a c k) ++ (pcO (d.getD ((a.getD k dLk).route).toNat []) (a.getD k dLk).pieces j)).length) (o := ⟨(Z8m e c p m t d g ow u a k j), 3, 1⟩) rfl (enc_len (fun _ => rfl) (by first | rfl | (simp; done)))) lee_lend0)) ?_
    refine awp_ret ?_
    exact fret (av := .ro (((doO (Z8i e c p m t d g ow u) a c k) ++ (pcO (d.getD ((a.getD k dLk).route).toNat []) (a.getD k dLk).pieces j)).length) (Z8m e c p m t d g ow u a k j)) rfl rfl (by rw [← hO] <;> rfl)
   have hf34 := of_decide_eq_false hc6
   have hst_ : stepB (Z8i e c p m t d g ow u) (d.getD ((a.getD k dLk).route).toNat []) j = true := by unfold stepB; rw [y _ hpmm j hjp]; show (!((stD p t (d.getD ((a.getD k dLk).route).toNat []) j).any (wrB u))) = true; rw [← moves_any, hc6]; rfl
   have hok : okB (Z8i e c p m t d g ow u) (d.getD ((a.getD k dLk).route).toNat []) j = true := by unfold okB; rw [hst_, hop_]; rfl
   refine awp_skip ?_
   refine regR ?_
   refine mG (.sl 3 0 (((doO (Z8i e c p m t d g ow u) a c k) ++ (pcO (d.getD ((a.getD k dLk).route).toNat []) (a.getD k dLk).pieces j)).length)) ?_
   refine mG (.i ((d.getD ((a.getD k dLk).route).toNat []).getD (j + 1) 0)) ?_
   refine oG (aop_lit rfl rfl rfl ut48 iz3 (by decide) (by decide) rfl rfl ?_)
   refine oG (aop_app1 (f := eI) (l := (doO (Z8i e c p m t d g ow u) a c k) ++ (pcO (d.getD ((a.getD k dLk).route).toNat []) (a.getD k dLk).pieces j)) 54 ((d.getD ((a.getD k dLk).route).toNat []).getD (j + 1) 0 : Int) rfl rfl rfl rfl ut48 in3 rfl (by decide) rfl rfl rfl rfl rfl rfl (fun _ => rfl) rfl rfl oo oo rfl ?_)
   refine mG (.sl 54 0 ((((doO (Z8i e c p m t d g ow u) a c k) ++ (pcO (d.getD ((a.getD k dLk).route).toNat []) (a.getD k dLk).pieces j)) ++ [((d.getD ((a.getD k dLk).route).toNat []).getD (j + 1) 0 : Int)]).length)) ?_
   refine op0 ?_
   refine rT (upd (upd (upd (upd (upd (upd (upd (upd (upd (upd (Z8p a g ow u c) 7 (.pt 1 0)) 14 vN) 15 (.pt 2 0)) 17 (.sl 54 0 ((((doO (Z8i e c p m t d g ow u) a c k) ++ (pcO (d.getD ((a.getD k dLk).route).toNat []) (a.getD k dLk).pieces j)) ++ [((d.getD ((a.getD k dLk).route).toNat []).getD (j + 1) 0 : Int)]).length))) 18 (lsA (doL (Z8i e c p m t d g ow u) a c k))) 19 (.i (k : Int))) 20 (Z8s d a k)) 21 (.i (j : Int))) 22 (.i ((d.getD ((a.getD k dLk).route).toNat []).getD (j + 1) 0))) 23 (.b (((g.getD ((d.getD ((a.getD k dLk).route).toNat []).getD (j + 1) 0).toNat 0) == 0) || (((g.getD ((d.getD ((a.getD k dLk).route).toNat []).getD (j + 1) 0).toNat 0) == 1) && ((ow.getD (partI m ((d.getD ((a.getD k dLk).route).toNat []).getD (j + 1) 0)).toNat 0) == c))))) (updO (updO (updO (Z8h p m t d e c) 3 (.live ⟨(Z8m e c p m t d g ow u a k j), 3, 1⟩)) 3 .dead) 54 (.live ⟨(enc eI (((doO (Z8i e c p m t d g ow u) a c k) ++ (pcO (d.getD ((a.getD k dLk).route).toNat []) (a.getD k dLk).pieces j)) ++ [((d.getD ((a.getD k dLk).route).toNat []).getD (j + 1) 0 : Int)])), 3, 1⟩)) ?_
   refine regR ?_
   refine mG (.i (j : Int)) ?_
   refine oG (qB (.int .i64 ((j + 1 : Nat) : Int)) (addN om) ?_)
   refine mG (.i ((j + 1 : Nat) : Int)) ?_
   refine op0 ?_
   show _ ∧ _
   have hs_ := pcO_on (path := (d.getD ((a.getD k dLk).route).toNat [])) (ps := (a.getD k dLk).pieces) (k := j) hz_
   refine ⟨by omega, (by first | exact pc_no om hinv hz_ | exact pc_on om hinv hz_ hok), ?_⟩
   exact iL [(1, 1), (2, 2), (54, 3)] [((1, 1), .live _), ((2, 2), .live _), ((54, 3), .live _)] ⟨row_no rfl rfl, row_no rfl rfl, row_no rfl (by exact congrArg (fun l_ => LObj.mk (enc eI l_) 3 1) (by (try simp only [Z8u, Z8t, Z8r, Z8m, Z8k, Z8g]); rw [hs_, List.append_assoc])), trivial⟩ (he := (sS rfl (sS rfl (sS rfl (sS rfl (sM (by exact congrArg (AV.sl 3 0) (by (try simp only [Z8u, Z8t, Z8r, Z8m, Z8k, Z8g]); rw [hs_, List.append_assoc])) (sM rfl (sS rfl (sM rfl (sS rfl (sS rfl (sS rfl (sS rfl (sS rfl sr_none))))))))))))))
  have hf35 := of_decide_eq_false hc4
  have hpc := pc_end om hinv
  refine awp_exit ?_
  refine regR ?_
  refine mG (Z8s d a k) ?_
  refine mG (Z8s d a k) ?_
  refine op0 ?_
  refine regR ?_
  refine mG (.i (k : Int)) ?_
  refine oG (qB (.int .i64 ((k + 1 : Nat) : Int)) (addN om) ?_)
  refine mG (.i ((k + 1 : Nat) : Int)) ?_
  refine op0 ?_
  show _ ∧ _
  have hs_ := doO_on (f := (Z8i e c p m t d g ow u)) htr
  have hjl : ((a.getD k dLk).pieces).length = j := by omega
  rw [hjl] at hs_
  have hs2_ := doL_on (f := (Z8i e c p m t d g ow u)) htr
  refine ⟨by omega, (by first | exact do_no om htn hinv0 | exact do_on om htr hinv0 hlt hpc om), ?_⟩
  exact iL [(1, 1), (2, 2), (3, 3)] [((1, 1), .live _), ((2, 2), .live _), ((3, 3), .live _)] ⟨row_no rfl rfl, row_no rfl rfl, row_no rfl (by exact congrArg (fun l_ => LObj.mk (enc eI l_) 3 1) hs_), trivial⟩ (he := (sS rfl (sS (by rw [hs2_]; exact (ls_ne hpne).symm) (sM (by exact congrArg (AV.sl 3 0) (congrArg List.length hs_.symm)) (sM rfl (sS rfl (sM rfl (sS rfl (sS rfl (sS rfl (sS rfl (sS rfl sr_none))))))))))))
 have hf36 := of_decide_eq_false hc1
 have hO := do_end om hinv
 refine awp_exit ?_
 refine seqR ?_
 refine mG (.sl 3 0 ((doO (Z8i e c p m t d g ow u) a c k).length)) ?_
 refine mG (.sl 3 0 ((doO (Z8i e c p m t d g ow u) a c k).length)) ?_
 refine op0 ?_
 refine awp_imp _ (imp_frozen rfl (fun _ h => h) (lee_lend 14 (.q eI (doO (Z8i e c p m t d g ow u) a c k)) (lend_s (id := 3) (n := (doO (Z8i e c p m t d g ow u) a c k).length) (o := ⟨(enc eI (doO (Z8i e c p m t d g ow u) a c k)), 3, 1⟩) rfl (enc_len (fun _ => rfl) (by first | rfl | (simp; done)))) lee_lend0)) ?_
 refine awp_ret ?_
 exact fret (av := .ro ((doO (Z8i e c p m t d g ow u) a c k).length) (enc eI (doO (Z8i e c p m t d g ow u) a c k))) rfl rfl (by rw [← hO] <;> rfl)
abbrev Z92 (nn : Int) (rt : List Bool) : Nat → AV := (upd (upd none_ 1 (.v (.int .u8 nn))) 2 (.q eB rt))
abbrev Z91 : Nat → AV := (upd (upd none_ 6 (.b false)) 7 (.pt 52 0))
abbrev Z90 : LObj := ⟨[.v (.int .u8 0), .v (.int .u8 0), .v (.int .u8 0), vN, vN, vN, vN, .v (.int .u8 0)], 30, 1⟩
abbrev Z8z (d : Draft) : List AV := [.v (.int .u8 d.form), .v (.int .u8 d.len), .v (.int .u8 d.speed), .v (.int .u16 d.mute), .v (.int .u16 d.wait), .v (.int .u8 d.cancel), .v (.int .u8 d.stay), .v (.int .u8 d.jn), .q eUL d.rs]
abbrev Z8y (rt : List Bool) : List AV := [.v (.int .u8 0), .v (.int .u8 0), .v (.int .u8 0), vN, vN, .q eB rt, vN, .v (.int .u8 0)]
abbrev Z8x (d : Draft) : Nat → OSt := (updO (updO noOb 51 (.live ⟨(Z8z d), 25, 1⟩)) 52 (.live ⟨[vN, vN, vN, vN, vN, .i 0, .i 0, .i 0, .i 0, .i 0], 39, 1⟩))
abbrev Z8w (rt : List Bool) : List AV := [.v (.int .u8 ((⟨0, 0, 0, [], [], rt, [], 0⟩ : Go.Lo.Act).dw)), .v (.int .u8 ((⟨0, 0, 0, [], [], rt, [], 0⟩ : Go.Lo.Act).n)), .v (.int .u8 ((⟨0, 0, 0, [], [], rt, [], 0⟩ : Go.Lo.Act).tr)), .ro ((⟨0, 0, 0, [], [], rt, [], 0⟩ : Go.Lo.Act).sts.length) (enc eU8 ((⟨0, 0, 0, [], [], rt, [], 0⟩ : Go.Lo.Act).sts)), .ro ((⟨0, 0, 0, [], [], rt, [], 0⟩ : Go.Lo.Act).ow.length) (enc eU8 ((⟨0, 0, 0, [], [], rt, [], 0⟩ : Go.Lo.Act).ow)), .ro ((⟨0, 0, 0, [], [], rt, [], 0⟩ : Go.Lo.Act).rt.length) (enc eB ((⟨0, 0, 0, [], [], rt, [], 0⟩ : Go.Lo.Act).rt)), .ro ((⟨0, 0, 0, [], [], rt, [], 0⟩ : Go.Lo.Act).sp.length) (enc eU8 ((⟨0, 0, 0, [], [], rt, [], 0⟩ : Go.Lo.Act).sp)), .v (.int .u8 ((⟨0, 0, 0, [], [], rt, [], 0⟩ : Go.Lo.Act).tk))]
theorem l16_AuthorityPoints (d : Draft) (nn : Int) (rt : List Bool) (hd : DraftOk d) (hnn : 0 ≤ nn ∧ nn ≤ 255) (hrt : rt.length ≤ maxLen) : Fn Try.prog 8 [.agg [.v (.int .u8 d.form), .v (.int .u8 d.len), .v (.int .u8 d.speed), .v (.int .u16 d.mute), .v (.int .u16 d.wait), .v (.int .u8 d.cancel), .v (.int .u8 d.stay), .v (.int .u8 d.jn), .ro d.rs.length (enc eUL d.rs)], .v (.int .u8 nn), .ro rt.length (enc eB rt)] (.v (.bool true)) := by
 have hd1 := hd.form
 have hd2 := hd.len
 have hd3 := hd.speed
 have hd4 := hd.mute
 have hd5 := hd.wait
 have hd6 := hd.cancel
 have hd7 := hd.stay
 have hd8 := hd.jn
 have hd9 := hd.n
 have hmx : maxLen = 9223372036854775807 := rfl
 have hel := mkEnds_len d.form
 have hsl := mkSecs_len d.form d.len
 have hpl := mkPts_len d.form
 refine fnE_of_body (N := 135) Try.func8 rfl rfl (resOf1 rfl) (by simp) (fun w0 X hL_ => ?_)
 refine seqR ?_
 refine oG (qW 51 ?_)
 refine mG (.b false) ?_
 refine op0 ?_
 refine awp_seq ?_
 refine seqR ?_
 refine oG (qJ (l16_none) bd10 ?_)
 refine oG (aop_not rfl rfl rfl rfl ?_)
 refine mG (.b false) ?_
 refine opY rfl rfl rfl rfl (aop_ldB (cells' := (Z8z d)) rfl rfl rfl ag25 sz25 rfl rfl rfl rfl ?_)
 refine opY rfl rfl rfl rfl (callW_ (r04_Small d.rs oo) rfl rfl rfl rfl rfl bd11 lS ?_)
 refine opY rfl rfl rfl rfl (aop_not rfl rfl rfl rfl ?_)
 refine oG (aop_pick (b := false) (av := .b (!(smallB d.rs))) rfl rfl rfl rfl rfl ?_)
 refine mG (.b (!(smallB d.rs))) ?_
 refine aops_grp 4 30 (.b ((!(smallB d.rs)) || (decide ((rt.length : Int) > 8)))) ?_ ?_
 ·refine (Bool.eq_false_or_eq_true (!(smallB d.rs))).elim (fun hg1 => ?_) (fun hg1 => ?_)
  ·skip
   have hf2 := not_t hg1
   refine nG hg1 ?_
   refine nG hg1 ?_
   refine nG hg1 ?_
   refine oG (qP (!(smallB d.rs)) (.b true) hg1 ?_)
   refine op0 ?_
   exact imp_env (lee_both 30 _ _ (by rw [hg1] <;> rfl) lO)
  have hf3 := not_f hg1
  refine oY hg1 (qM (.q eB rt) ?_)
  refine oY hg1 (qN ut28 ?_)
  refine oY hg1 (qB (.bool (decide ((rt.length : Int) > 8))) rfl ?_)
  refine oG (qP (!(smallB d.rs)) (.b (decide ((rt.length : Int) > 8))) hg1 ?_)
  refine op0 ?_
  exact imp_env (lee_both 30 _ _ (by rw [hg1] <;> rfl) lO)
 refine op0 ?_
 refine rT (upd (upd (upd (Z92 nn rt) 3 (.pt 51 0)) 6 (.b false)) 30 (.b ((!(smallB d.rs)) || (decide ((rt.length : Int) > 8))))) (updO noOb 51 (.live ⟨(Z8z d), 25, 1⟩)) ?_
 refine awp_cond ((!(smallB d.rs)) || (decide ((rt.length : Int) > 8))) rfl rfl (fun hc0 => ?_) (fun hc0 => ?_)
 ·skip
  refine seqR ?_
  refine oG (qJ (l16_none) bd10 ?_)
  refine mG (.b true) ?_
  refine op0 ?_
  refine awp_ret ?_
  exact fret (av := .v (.bool true)) rfl rfl (by simp)
 obtain ⟨hf4a, hf4b⟩ := or_f hc0
 have hf5 := not_f hf4a
 have hf6 := of_decide_eq_false hf4b
 have hsm : smallB d.rs = true := by cases h : smallB d.rs <;> simp [h] at hc0 ⊢
 have hr := small_rs hsm hd.rs
 have hr8 : rt.length ≤ 8 := by simp [hsm] at hc0; omega
 have hL := full_ok d.form d.len d.jn d.rs
 have hnd := full_nodup d.form d.len d.rs
 have hfu := r05_Full d.form d.len d.speed d.mute d.wait d.cancel d.stay d.jn d.rs hd1 hd2 hd3 hd4 hd5 hd6 hd7 hd8 hr.1 hr.2
 have hck := chk_full d.form d.len
 have hT := top_full d.form d.len
 have hwk := full_wk d.form d.len d.rs
 obtain ⟨ss, h_ss⟩ : ∃ y_, y_ = mkSecs d.form d.len := ⟨_, rfl⟩
 obtain ⟨pa, h_pa⟩ : ∃ y_, y_ = mkParts d.form d.jn := ⟨_, rfl⟩
 obtain ⟨pp, h_pp⟩ : ∃ y_, y_ = mkPts d.form := ⟨_, rfl⟩
 obtain ⟨rr, h_rr⟩ : ∃ y_, y_ = fullRoutes d.form d.len d.rs := ⟨_, rfl⟩
 obtain ⟨cn, h_cn⟩ : ∃ y_, y_ = 1 + d.cancel := ⟨_, rfl⟩
 rw [← h_ss, ← h_pa, ← h_pp, ← h_rr] at hL
 rw [← h_ss, ← h_pa, ← h_pp, ← h_rr, ← h_cn] at hfu
 rw [← h_rr] at hnd
 rw [← h_ss, ← h_pp] at hck hT
 rw [← h_ss, ← h_pp, ← h_rr] at hwk
 have hxa := act_rt hrt
 obtain ⟨st_, h_st_⟩ : ∃ y_, y_ = stL (⟨0, 0, 0, [], [], rt, [], 0⟩ : Go.Lo.Act) ss.length := ⟨_, rfl⟩
 obtain ⟨ow, h_ow⟩ : ∃ y_, y_ = owL (⟨0, 0, 0, [], [], rt, [], 0⟩ : Go.Lo.Act) pa.length := ⟨_, rfl⟩
 obtain ⟨pt, h_pt⟩ : ∃ y_, y_ = ptL (⟨0, 0, 0, [], [], rt, [], 0⟩ : Go.Lo.Act) pp.length := ⟨_, rfl⟩
 have hst : st_.length = ss.length := by rw [h_st_]; exact stL_len
 have how : ow.length = pa.length := by rw [h_ow]; exact owL_len
 have hpx : pt.length ≤ 8 := by rw [h_pt]; exact Nat.le_trans pt_len hr8
 have hq1 := hL.h1
 have hq2 := hL.hs
 have hq3 := hL.hp
 have hq4 := hL.hpa
 have hq5 := hL.hro
 refine awp_skip ?_
 refine seqR ?_
 refine oG (qLB (Z8z d) ag25 sz25 ?_)
 refine oG (qJ (show Fn Try.prog 13 [.agg (Z8z d)] (.agg [.one, .q eSec ss, .q eIL pa, .q ePnt pp, .q eIL rr, .i (1 + d.speed % (2 * (10 * (1 + d.len % 20)))), .i (1 + d.mute % 1000), .i (1 + d.wait % 1000), .i cn, .i (d.stay % 4)]) from hfu) bd13 ?_)
 refine oG (aop_alloc 52 rfl rfl rfl rfl ze39 rfl ?_)
 refine oG (qS sz39 ?_)
 refine rU (upd (upd (Z92 nn rt) 6 (.b false)) 7 (.pt 52 0)) (updO (Z8x d) 52 (.live ⟨[.one, .q eSec ss, .q eIL pa, .q ePnt pp, .q eIL rr, .i (1 + d.speed % (2 * (10 * (1 + d.len % 20)))), .i (1 + d.mute % 1000), .i (1 + d.wait % 1000), .i cn, .i (d.stay % 4)], 39, 1⟩)) ?_
 refine awp_seq ?_
 refine seqR ?_
 refine fG (.pt 52 4) ft39_4 sz36 ?_
 refine oG (qL (.q eIL rr) ag36 ?_)
 refine oG (qN ut36 ?_)
 refine bG ((.bool ((rr.length : Int) == 0))) ?_
 refine rU (upd (upd (upd (Z92 nn rt) 6 (.b false)) 7 (.pt 52 0)) 37 (.b ((rr.length : Int) == 0))) (updO (Z8x d) 52 (.live ⟨[.one, .q eSec ss, .q eIL pa, .q ePnt pp, .q eIL rr, .i (1 + d.speed % (2 * (10 * (1 + d.len % 20)))), .i (1 + d.mute % 1000), .i (1 + d.wait % 1000), .i cn, .i (d.stay % 4)], 39, 1⟩)) ?_
 refine awp_cond ((rr.length : Int) == 0) rfl rfl (fun hc1 => ?_) (fun hc1 => ?_)
 ·skip
  have hf7 := (beq_iff_eq).1 hc1
  refine seqR ?_
  refine mG (.b true) ?_
  refine op0 ?_
  refine awp_ret ?_
  exact fret (av := .v (.bool true)) rfl rfl (by simp)
 have hf8 := (beq_eq_false_iff_ne).1 hc1
 obtain ⟨k, hk, hk2⟩ : ∃ n : Nat, nn % (rr.length : Int) = (n : Int) ∧ n < rr.length := ⟨(nn % (rr.length : Int)).toNat, by have := Int.emod_nonneg nn (show (rr.length : Int) ≠ 0 by omega); omega, by have := Int.emod_nonneg nn (show (rr.length : Int) ≠ 0 by omega); have := Int.emod_lt_of_pos nn (show 0 < (rr.length : Int) by omega); omega⟩
 have hpm : (rr.getD k []) ∈ rr := getD_mem [] hk2
 obtain ⟨hp1, hp2⟩ := hL.hrl _ hpm
 have hp1s : 2 ≤ (rr[k]?.getD []).length := by rw [← List.getD_eq_getElem?_getD]; exact hp1
 have hp8 : (rr.getD k []).length ≤ 8 := Nat.le_trans (nd_len (hnd _ hpm) (hL.hrs _ hpm)) hq2
 have hgd := route_good hT hck hwk hnd hL hpm
 have hE0 := set_ok hL hk2 hgd
 obtain ⟨hS1, hS2⟩ := set_yes (tr := 1) hE0
 rw [Int.toNat_natCast] at hS1 hS2
 have hwh := one_whole (st := st_) (ow := ow) hT hwk hnd hL hk2 (fun i => by rw [h_st_]; exact st0 rfl _ i) (fun z hz => good_stand hgd hz)
 have hso := one_some (st := st_) (ow := ow) (right := pt) hL hk2
 have hmr := one_R hL hk2
 have hme := one_En (k : Int) (rr.getD k [])
 obtain ⟨sd, h_sd⟩ : ∃ y_, y_ = moveL ([] : List Bool) (movesL (paL ss pp (rr.getD k [])) []) := ⟨_, rfl⟩
 have hsd : sd.length ≤ 64 := by rw [h_sd]; have h1 := moveL_len [] (movesL (paL ss pp (rr.getD k [])) []); have h2 := movesL_len (paL ss pp (rr.getD k [])) []; have h3 := paL_len (secs := ss) (pts := pp) (path := (rr.getD k [])); simp only [List.length_nil] at h1; omega
 rw [← h_sd] at hS2 hwh
 obtain ⟨mm, h_mm⟩ : ∃ y_, y_ = oneK (k : Int) (rr.getD k []) := ⟨_, rfl⟩
 have hS3 : setL ss pp rr [] (k : Int) 1 (List.replicate ss.length 0) [] [] = mm := hS1.trans (by rw [h_mm]; rfl)
 rw [← h_mm] at hwh hso hmr hme
 have hml : mm.length = 1 := by rw [h_mm]; rfl
 obtain ⟨sm, h_sm⟩ : ∃ y_, y_ = auT ([vw1 (rr.getD k [])] : List View) 1 (fldOf (findV ([vw1 (rr.getD k [])] : List View) 1) ss pa pp rr st_ ow pt) mm := ⟨_, rfl⟩
 rw [← h_sm] at hso
 obtain ⟨hso1, hso2⟩ : sm.length ≤ ((rr.getD k []).drop 1).length ∧ ((rr.getD k []).drop 1).take sm.length = sm := ⟨hso.length_le, (List.prefix_iff_eq_take.1 hso).symm⟩
 have hso1s : sm.length ≤ (rr[k]?.getD []).length - 1 := by rw [← List.getD_eq_getElem?_getD, ← List.length_drop]; exact hso1
 have hdl : ((rr.getD k []).drop 1).length ≤ 8 := by rw [List.length_drop]; omega
 refine awp_skip ?_
 refine seqR ?_
 refine mG (.v (.int .u8 nn)) ?_
 refine oG (aop_conv' rfl rfl rfl ut5 ut3 rfl (IntWalk.i64_in _ om) ?_)
 refine fG (.pt 52 4) ft39_4 sz36 ?_
 refine oG (qL (.q eIL rr) ag36 ?_)
 refine oG (qN ut36 ?_)
 refine oG (aop_binI (u := (.int .i64 (k : Int))) rfl rfl rfl rfl rfl (by show _ ≠ _; omega) ((remI om).trans (by rw [hk])) ?_)
 refine mG (.i (k : Int)) ?_
 refine rU (upd (upd (upd (upd none_ 2 (.q eB rt)) 6 (.b false)) 7 (.pt 52 0)) 8 (.i (k : Int))) (updO (Z8x d) 52 (.live ⟨[.one, .q eSec ss, .q eIL pa, .q ePnt pp, .q eIL rr, .i (1 + d.speed % (2 * (10 * (1 + d.len % 20)))), .i (1 + d.mute % 1000), .i (1 + d.wait % 1000), .i cn, .i (d.stay % 4)], 39, 1⟩)) ?_
 refine awp_seq ?_
 refine aD 13 [(10, .q eB sd), (9, .q eLk mm), (54, .i 0), (53, .q eB sd), (52, .q eLk mm), (44, .tup [.q eLk mm, .q eB sd, .i 0]), (51, .tup [.q eLk mm, .q eB sd, .i 0]), (50, .q eU8 (List.replicate ss.length (0 : Int))), (49, .i (ss.length : Int)), (48, .q eSec ss), (47, .pt 52 1), (46, .i (k : Int)), (45, .agg [.one, .q eSec ss, .q eIL pa, .q ePnt pp, .q eIL rr, .i (1 + d.speed % (2 * (10 * (1 + d.len % 20)))), .i (1 + d.mute % 1000), .i (1 + d.wait % 1000), .i cn, .i (d.stay % 4)])] mixed ?_ ?_
 ·iterate 13 (refine ⟨?_, ?_⟩; rotate_left)
  trivial
  ·exact sLB [.one, .q eSec ss, .q eIL pa, .q ePnt pp, .q eIL rr, .i (1 + d.speed % (2 * (10 * (1 + d.len % 20)))), .i (1 + d.mute % 1000), .i (1 + d.wait % 1000), .i cn, .i (d.stay % 4)] ag39 sz39
  ·exact sMv
  ·exact sF (.pt 52 0) (.pt 52 1) ft39_1 sz35
  ·exact sL ag35
  ·exact dW 49 fun st hob hE => aop_len rfl rfl rfl rfl ut35 (len_ro (hE 48 rfl)) (by rw [hob]; rfl)
  ·exact dW 50 fun st hob hE => aop_makeRoE (n := ss.length) (f := eU8) (0 : Int) rfl rfl rfl ut27 in5 rfl (hE 49 rfl) (hE 49 rfl) rfl om om rfl (by rw [hob]; rfl)
  ·exact dW 51 fun st hob hE => callW_ (show Fn Try.prog 26 [.agg [.one, .q eSec ss, .one, .q ePnt pp, .q eIL rr, .one, .one, .one, .one, .one], .q eLk ([] : List Lk), .i (k : Int), .i 1, .q eU8 (List.replicate ss.length 0), .q eV ([] : List View), .q eB ([] : List Bool)] (.tup [.q eLk mm, .q eB sd, .i 0]) from (by have h_ := (r15_Set ss pp rr [] (k : Int) 1 (List.replicate ss.length 0) [] [] om om om (by simp) (fun x h => by cases h) (fun x hx => ⟨by have := (hL.hrl x hx).1; omega, (hL.hrl x hx).2⟩) hL.hrs (by rw [List.length_replicate]; omega) (by simp) (fun v h => by cases h) (by simp)); rw [hE0, hS3, hS2] at h_; exact h_)) rfl rfl rfl rfl rfl bd26 (by show Lends _ ([st.env 45, evA st.env (.const (.slice none 0 0)), st.env 46, evA st.env (.const (.int .i64 1)), st.env 50, evA st.env (.const (.slice none 0 0)), evA st.env (.const (.slice none 0 0))] ++ _) _; rw [hE 45 rfl, hE 46 rfl, hE 50 rfl]; exact (lends_cons (lend_agg lS) (lends_cons .nil (lends_cons (lend_n (av := .i (k : Int))) (lends_cons (lend_n (av := .i 1)) (lends_cons (lend_n (av := .q eU8 (List.replicate ss.length (0 : Int)))) (lends_cons .nil (lends_cons .nil lends_nil)))))))) (by rw [hob]; rfl)
  ·exact sMv
  ·exact dW 52 fun st hob hE => aop_extract rfl rfl rfl (hE 44 rfl) rfl (by rw [hob]; rfl)
  ·exact dW 53 fun st hob hE => aop_extract rfl rfl rfl (hE 44 rfl) rfl (by rw [hob]; rfl)
  ·exact dW 54 fun st hob hE => aop_extract rfl rfl rfl (hE 44 rfl) rfl (by rw [hob]; rfl)
  ·exact sMv
  exact sMv
 refine mG (.i 0) ?_
 refine op0 ?_
 refine awp_seq ?_
 refine seqR ?_
 refine mG (.i 0) ?_
 refine bG ((.bool ((0 : Int) != 0))) ?_
 refine op0 ?_
 refine awp_cond ((0 : Int) != 0) rfl rfl (fun hc2 => ?_) (fun hc2 => ?_)
 ·skip
  have hf9 := (bne_iff_ne).1 hc2
  exfalso; simp at hc2
 have hf10 := (bne_eq_false_iff_eq).1 hc2
 refine awp_skip ?_
 refine seqR ?_
 refine mG (.q eB rt) ?_
 refine oG (qD pl30 ?_)
 refine oG (aop_alloc 53 rfl rfl rfl rfl ze30 rfl ?_)
 refine oG (qS sz30 ?_)
 refine rU (upd (upd (upd (upd Z91 8 (.i (k : Int))) 9 (.q eLk mm)) 10 (.q eB sd)) 12 (.pt 53 0)) (updO (updO (updO (Z8x d) 52 (.live ⟨[.one, .q eSec ss, .q eIL pa, .q ePnt pp, .q eIL rr, .i (1 + d.speed % (2 * (10 * (1 + d.len % 20)))), .i (1 + d.mute % 1000), .i (1 + d.wait % 1000), .i cn, .i (d.stay % 4)], 39, 1⟩)) 53 (.live Z90)) 53 (.live ⟨(Z8y rt), 30, 1⟩)) ?_
 refine seqR ?_
 refine fG (.pt 52 4) ft39_4 sz36 ?_
 refine oG (qL (.q eIL rr) ag36 ?_)
 refine mG (.i (k : Int)) ?_
 refine oG (qX [] ut36 sz48 ?_)
 refine oG (qL (.q eI (rr.getD k [])) ag48 ?_)
 refine oG (aop_sliceRoN (l := 0) (hgh := 1) (cells' := enc eI ((rr.getD k []).take 1)) (((rr.getD k []).take 1)).length rfl rfl rfl ut48 sz3 rfl rfl ⟨_, rfl⟩ om oo (sliceE (f := eI) (fun _ => rfl) _ 0 _) (by simp; omega) ?_)
 refine oG (qD pl63 ?_)
 refine oG (aop_lit (cells := enc eV ([vw1 (rr.getD k [])] : List View)) rfl rfl rfl ut43 iz63 (by decide) (by decide) rfl rfl ?_)
 refine mG (.ro 1 (enc eV ([vw1 (rr.getD k [])] : List View))) ?_
 refine rU (upd (upd (upd (upd (upd Z91 8 (.i (k : Int))) 9 (.q eLk mm)) 10 (.q eB sd)) 12 (.pt 53 0)) 13 (.ro 1 (enc eV ([vw1 (rr.getD k [])] : List View)))) (updO (updO (updO (Z8x d) 52 (.live ⟨[.one, .q eSec ss, .q eIL pa, .q ePnt pp, .q eIL rr, .i (1 + d.speed % (2 * (10 * (1 + d.len % 20)))), .i (1 + d.mute % 1000), .i (1 + d.wait % 1000), .i cn, .i (d.stay % 4)], 39, 1⟩)) 53 (.live Z90)) 53 (.live ⟨(Z8y rt), 30, 1⟩)) ?_
 refine seqR ?_
 refine fG (.pt 52 4) ft39_4 sz36 ?_
 refine oG (qL (.q eIL rr) ag36 ?_)
 refine mG (.i (k : Int)) ?_
 refine oG (qX [] ut36 sz48 ?_)
 refine oG (qL (.q eI (rr.getD k [])) ag48 ?_)
 refine oG (aop_sliceRoN (l := 0) (hgh := 1) (cells' := enc eI ((rr.getD k []).take 1)) (((rr.getD k []).take 1)).length rfl rfl rfl ut48 sz3 rfl rfl ⟨_, rfl⟩ om oo (sliceE (f := eI) (fun _ => rfl) _ 0 _) (by simp; omega) ?_)
 refine oG (qD pl69 ?_)
 refine oG (aop_lit (cells := enc eV ([vw1 (rr.getD k [])] : List View)) rfl rfl rfl ut44 iz69 (by decide) (by decide) rfl rfl ?_)
 refine mG (.ro 1 (enc eV ([vw1 (rr.getD k [])] : List View))) ?_
 refine rU (upd (upd (upd (upd (upd (upd Z91 8 (.i (k : Int))) 9 (.q eLk mm)) 10 (.q eB sd)) 12 (.pt 53 0)) 13 (.ro 1 (enc eV ([vw1 (rr.getD k [])] : List View)))) 14 (.ro 1 (enc eV ([vw1 (rr.getD k [])] : List View)))) (updO (updO (updO (Z8x d) 52 (.live ⟨[.one, .q eSec ss, .q eIL pa, .q ePnt pp, .q eIL rr, .i (1 + d.speed % (2 * (10 * (1 + d.len % 20)))), .i (1 + d.mute % 1000), .i (1 + d.wait % 1000), .i cn, .i (d.stay % 4)], 39, 1⟩)) 53 (.live Z90)) 53 (.live ⟨(Z8y rt), 30, 1⟩)) ?_
 refine seqR ?_
 refine oG (qLB [.one, .q eSec ss, .q eIL pa, .q ePnt pp, .q eIL rr, .i (1 + d.speed % (2 * (10 * (1 + d.len % 20)))), .i (1 + d.mute % 1000), .i (1 + d.wait % 1000), .i cn, .i (d.stay % 4)] ag39 sz39 ?_)
 refine oG (qLB (Z8y rt) ag30 sz30 ?_)
 refine oG (callW_ (show Fn Try.prog 20 [.agg [.one, .one, .q eIL pa, .one, .one, .one, .one, .one, .one, .one], .agg (Z8w rt)] (.q eI ow) from (by have h_ := l16_owners pa (⟨0, 0, 0, [], [], rt, [], 0⟩ : Go.Lo.Act) om hxa; rw [← h_ow] at h_; exact h_)) rfl rfl rfl rfl rfl bd20 (lends_cons (lend_agg lS) (lends_cons (lend_agg (lends_cons (lend_n (av := .v (.int .u8 0))) (lends_cons (lend_n (av := .v (.int .u8 0))) (lends_cons (lend_n (av := .v (.int .u8 0))) (lends_cons .nil (lends_cons .nil (lends_cons (lend_n (av := .q eB rt)) (lends_cons .nil lS)))))))) lends_nil)) ?_)
 refine mG (.q eI ow) ?_
 refine rU (upd (upd (upd (upd (upd (upd (upd Z91 8 (.i (k : Int))) 9 (.q eLk mm)) 10 (.q eB sd)) 12 (.pt 53 0)) 13 (.ro 1 (enc eV ([vw1 (rr.getD k [])] : List View)))) 14 (.ro 1 (enc eV ([vw1 (rr.getD k [])] : List View)))) 15 (.q eI ow)) (updO (updO (updO (Z8x d) 52 (.live ⟨[.one, .q eSec ss, .q eIL pa, .q ePnt pp, .q eIL rr, .i (1 + d.speed % (2 * (10 * (1 + d.len % 20)))), .i (1 + d.mute % 1000), .i (1 + d.wait % 1000), .i cn, .i (d.stay % 4)], 39, 1⟩)) 53 (.live Z90)) 53 (.live ⟨(Z8y rt), 30, 1⟩)) ?_
 refine seqR ?_
 refine oG (qLB [.one, .q eSec ss, .q eIL pa, .q ePnt pp, .q eIL rr, .i (1 + d.speed % (2 * (10 * (1 + d.len % 20)))), .i (1 + d.mute % 1000), .i (1 + d.wait % 1000), .i cn, .i (d.stay % 4)] ag39 sz39 ?_)
 refine oG (qLB (Z8y rt) ag30 sz30 ?_)
 refine oG (callW_ (show Fn Try.prog 19 [.agg [.one, .q eSec ss, .one, .one, .one, .one, .one, .one, .one, .one], .agg (Z8w rt)] (.q eU8 st_) from (by have h_ := l16_states ss (⟨0, 0, 0, [], [], rt, [], 0⟩ : Go.Lo.Act) om hxa; rw [← h_st_] at h_; exact h_)) rfl rfl rfl rfl rfl bd19 (lends_cons (lend_agg lS) (lends_cons (lend_agg (lends_cons (lend_n (av := .v (.int .u8 0))) (lends_cons (lend_n (av := .v (.int .u8 0))) (lends_cons (lend_n (av := .v (.int .u8 0))) (lends_cons .nil (lends_cons .nil (lends_cons (lend_n (av := .q eB rt)) (lends_cons .nil lS)))))))) lends_nil)) ?_)
 refine mG (.q eU8 st_) ?_
 refine rU (upd (upd (upd (upd (upd (upd (upd (upd Z91 8 (.i (k : Int))) 9 (.q eLk mm)) 10 (.q eB sd)) 12 (.pt 53 0)) 13 (.ro 1 (enc eV ([vw1 (rr.getD k [])] : List View)))) 14 (.ro 1 (enc eV ([vw1 (rr.getD k [])] : List View)))) 15 (.q eI ow)) 16 (.q eU8 st_)) (updO (updO (updO (Z8x d) 52 (.live ⟨[.one, .q eSec ss, .q eIL pa, .q ePnt pp, .q eIL rr, .i (1 + d.speed % (2 * (10 * (1 + d.len % 20)))), .i (1 + d.mute % 1000), .i (1 + d.wait % 1000), .i cn, .i (d.stay % 4)], 39, 1⟩)) 53 (.live Z90)) 53 (.live ⟨(Z8y rt), 30, 1⟩)) ?_
 refine awp_seq ?_
 refine aD 8 [(88, .q eI ((rr.getD k []).drop 1)), (87, .q eB sd), (86, .ro 1 (enc eV ([vw1 (rr.getD k [])] : List View))), (85, .q eI ow), (84, .q eU8 st_), (83, .q eLk mm), (82, .q eLk mm), (81, .agg [.one, .q eSec ss, .q eIL pa, .q ePnt pp, .q eIL rr, .i (1 + d.speed % (2 * (10 * (1 + d.len % 20)))), .i (1 + d.mute % 1000), .i (1 + d.wait % 1000), .i cn, .i (d.stay % 4)])] mixed ?_ ?_
 ·refine ⟨?_, ?_, ?_, ?_, ?_, ?_, ?_, ?_, trivial⟩
  ·exact sLB [.one, .q eSec ss, .q eIL pa, .q ePnt pp, .q eIL rr, .i (1 + d.speed % (2 * (10 * (1 + d.len % 20)))), .i (1 + d.mute % 1000), .i (1 + d.wait % 1000), .i cn, .i (d.stay % 4)] ag39 sz39
  ·exact sMv
  ·exact dW 83 fun st hob hE => call_ (l16_turned mm om) rfl rfl rfl rfl rfl bd18 (by show [st.env 82] ++ _ = _; rw [hE 82 rfl]; rfl) (by rw [hob]; rfl)
  ·exact sMv
  ·exact sMv
  ·exact sMv
  ·exact sMv
  exact dW 88 fun st hob hE => callW_ (show Fn Try.prog 17 [.agg [.one, .q eSec ss, .q eIL pa, .q ePnt pp, .q eIL rr, .one, .one, .one, .one, .one], .q eLk mm, .q eU8 st_, .q eI ow, .q eV ([vw1 (rr.getD k [])] : List View), .q eB sd, .i 1] (.q eI ((rr.getD k []).drop 1)) from (by have h_ := (a_Of ([vw1 (rr.getD k [])] : List View) 1 ss pa pp rr st_ ow sd mm (fld_ok hL hst how (by show ((rr.getD k []).take 1).length ≤ 65536; rw [List.length_take]; omega) om) (lk_ok hmr) om (by simp)); rw [hwh] at h_; exact h_)) rfl rfl rfl rfl rfl bd17 (by show Lends _ ([st.env 81, st.env 83, st.env 84, st.env 85, st.env 86, st.env 87, evA st.env (.const (.int .i64 1))] ++ _) _; rw [hE 81 rfl, hE 83 rfl, hE 84 rfl, hE 85 rfl, hE 86 rfl, hE 87 rfl]; exact lS) (by rw [hob]; rfl)
 refine mG (.q eI ((rr.getD k []).drop 1)) ?_
 refine op0 ?_
 refine awp_seq ?_
 refine aD 10 [(98, .q eI sm), (97, .q eB pt), (96, .agg (Z8y rt)), (95, .agg [.one, .q eSec ss, .q eIL pa, .q ePnt pp, .q eIL rr, .i (1 + d.speed % (2 * (10 * (1 + d.len % 20)))), .i (1 + d.mute % 1000), .i (1 + d.wait % 1000), .i cn, .i (d.stay % 4)]), (94, .ro 1 (enc eV ([vw1 (rr.getD k [])] : List View))), (93, .q eI ow), (92, .q eU8 st_), (91, .q eLk mm), (90, .q eLk mm), (89, .agg [.one, .q eSec ss, .q eIL pa, .q ePnt pp, .q eIL rr, .i (1 + d.speed % (2 * (10 * (1 + d.len % 20)))), .i (1 + d.mute % 1000), .i (1 + d.wait % 1000), .i cn, .i (d.stay % 4)])] mixed ?_ ?_
 ·refine ⟨?_, ?_, ?_, ?_, ?_, ?_, ?_, ?_, ?_, ?_, trivial⟩
  ·exact sLB [.one, .q eSec ss, .q eIL pa, .q ePnt pp, .q eIL rr, .i (1 + d.speed % (2 * (10 * (1 + d.len % 20)))), .i (1 + d.mute % 1000), .i (1 + d.wait % 1000), .i cn, .i (d.stay % 4)] ag39 sz39
  ·exact sMv
  ·exact dW 91 fun st hob hE => call_ (l16_turned mm om) rfl rfl rfl rfl rfl bd18 (by show [st.env 90] ++ _ = _; rw [hE 90 rfl]; rfl) (by rw [hob]; rfl)
  ·exact sMv
  ·exact sMv
  ·exact sMv
  ·exact sLB [.one, .q eSec ss, .q eIL pa, .q ePnt pp, .q eIL rr, .i (1 + d.speed % (2 * (10 * (1 + d.len % 20)))), .i (1 + d.mute % 1000), .i (1 + d.wait % 1000), .i cn, .i (d.stay % 4)] ag39 sz39
  ·exact sLB (Z8y rt) ag30 sz30
  ·exact dW 97 fun st hob hE => callW_ (show Fn Try.prog 21 [.agg [.one, .one, .one, .q ePnt pp, .one, .one, .one, .one, .one, .one], .agg (Z8w rt)] (.q eB pt) from (by have h_ := l16_points pp (⟨0, 0, 0, [], [], rt, [], 0⟩ : Go.Lo.Act) om hxa; rw [← h_pt] at h_; exact h_)) rfl rfl rfl rfl rfl bd21 (by show Lends _ ([st.env 95, st.env 96] ++ _) _; rw [hE 95 rfl, hE 96 rfl]; exact (lends_cons (lend_agg lS) (lends_cons (lend_agg (lends_cons (lend_n (av := .v (.int .u8 0))) (lends_cons (lend_n (av := .v (.int .u8 0))) (lends_cons (lend_n (av := .v (.int .u8 0))) (lends_cons .nil (lends_cons .nil (lends_cons (lend_n (av := .q eB rt)) (lends_cons .nil lS)))))))) lends_nil))) (by rw [hob]; rfl)
  exact dW 98 fun st hob hE => callW_ (show Fn Try.prog 17 [.agg [.one, .q eSec ss, .q eIL pa, .q ePnt pp, .q eIL rr, .one, .one, .one, .one, .one], .q eLk mm, .q eU8 st_, .q eI ow, .q eV ([vw1 (rr.getD k [])] : List View), .q eB pt, .i 1] (.q eI sm) from (by have h_ := (a_Of ([vw1 (rr.getD k [])] : List View) 1 ss pa pp rr st_ ow pt mm (fld_ok hL hst how (by show ((rr.getD k []).take 1).length ≤ 65536; rw [List.length_take]; omega) om) (lk_ok hmr) om (by simp)); rw [← h_sm] at h_; exact h_)) rfl rfl rfl rfl rfl bd17 (by show Lends _ ([st.env 89, st.env 91, st.env 92, st.env 93, st.env 94, st.env 97, evA st.env (.const (.int .i64 1))] ++ _) _; rw [hE 89 rfl, hE 91 rfl, hE 92 rfl, hE 93 rfl, hE 94 rfl, hE 97 rfl]; exact lS) (by rw [hob]; rfl)
 refine mG (.q eI sm) ?_
 refine op0 ?_
 refine awp_seq ?_
 refine (Bool.eq_false_or_eq_true (decide ((sm.length : Int) ≤ (((rr.getD k []).drop 1).length : Int)))).elim (fun hg11 => ?_) (fun hg11 => ?_)
 ·skip
  have hf12 := of_decide_eq_true hg11
  refine aD 36 [(134, .b true), (133, .b true), (132, .q eI sm), (131, .q eB pt), (130, .agg (Z8y rt)), (129, .agg [.one, .q eSec ss, .q eIL pa, .q ePnt pp, .q eIL rr, .i (1 + d.speed % (2 * (10 * (1 + d.len % 20)))), .i (1 + d.mute % 1000), .i (1 + d.wait % 1000), .i cn, .i (d.stay % 4)]), (128, .ro 1 (enc eV ([vw1 (rr.getD k [])] : List View))), (127, .q eI ow), (126, .q eU8 st_), (125, .q eLk mm), (124, .agg [.one, .q eSec ss, .q eIL pa, .q ePnt pp, .q eIL rr, .i (1 + d.speed % (2 * (10 * (1 + d.len % 20)))), .i (1 + d.mute % 1000), .i (1 + d.wait % 1000), .i cn, .i (d.stay % 4)]), (123, .q eI sm), (122, .b true), (121, .b true), (120, .b true), (119, .q eI (((rr.getD k []).drop 1).take sm.length)), (118, .i (sm.length : Int)), (117, .q eI sm), (116, .q eI ((rr.getD k []).drop 1)), (115, .q eI sm), (114, .b (decide ((sm.length : Int) ≤ (((rr.getD k []).drop 1).length : Int)))), (113, .b (decide ((sm.length : Int) ≤ (((rr.getD k []).drop 1).length : Int)))), (112, .b (decide ((sm.length : Int) ≤ (((rr.getD k []).drop 1).length : Int)))), (111, .i (((rr.getD k []).drop 1).length : Int)), (110, .q eI ((rr.getD k []).drop 1)), (109, .i (sm.length : Int)), (108, .q eI sm), (107, .b true), (106, .b true), (105, .q eI ((rr.getD k []).drop 1)), (104, .q eI (rr.getD k [])), (103, .rp (([.q eI (rr.getD k [])] : List AV) ++ ((enc eIL rr).drop ((k + 1) * 1)))), (102, .i (k : Int)), (101, .q eIL rr), (100, .pt 52 4), (99, .q eI ((rr.getD k []).drop 1))] mixed ?_ ?_
  ·iterate 36 (refine ⟨?_, ?_⟩; rotate_left)
   trivial
   ·exact sMv
   ·exact sF (.pt 52 0) (.pt 52 4) ft39_4 sz36
   ·exact sL ag36
   ·exact sMv
   ·exact (sIx ([] : List Int) ut36 sz48)
   ·exact (sLd ag48)
   ·exact dW 105 fun st hob hE => aop_sliceRoN (l := 1) (hgh := ((rr.getD k []).length)) (cells' := enc eI ((rr.getD k []).drop 1)) (((rr.getD k []).drop 1)).length rfl rfl rfl ut48 sz3 (hE 104 rfl) ⟨_, rfl⟩ rfl oo oo (sliceE1 (f := eI) (fun _ => rfl) _ _ _ rfl) oz (by rw [hob]; rfl)
   ·exact dW 106 fun st hob hE => call_ (show Fn Try.prog 16 [.q eI ((rr.getD k []).drop 1), .q eI ((rr.getD k []).drop 1)] (.b true) from (by have h_ := r01_Ints ((rr.getD k []).drop 1) ((rr.getD k []).drop 1) om; rw [decide_eq_true rfl] at h_; exact h_)) rfl rfl rfl rfl rfl bd16 (by show [st.env 99, st.env 105] ++ _ = _; rw [hE 99 rfl, hE 105 rfl]; rfl) (by rw [hob]; rfl)
   ·exact sMv
   ·exact gy1 rfl sMv
   ·exact gy1 rfl (dW 109 fun st hob hE => aop_len rfl rfl rfl rfl ut48 (len_ro (hE 108 rfl)) (by rw [hob]; rfl))
   ·exact gy1 rfl sMv
   ·exact gy1 rfl (dW 111 fun st hob hE => aop_len rfl rfl rfl rfl ut48 (len_ro (hE 110 rfl)) (by rw [hob]; rfl))
   ·exact gy1 rfl (sB (.bool (decide ((sm.length : Int) ≤ (((rr.getD k []).drop 1).length : Int)))) rfl)
   ·exact dW 113 fun st hob hE => aop_pick (b := true) (av := .b (decide ((sm.length : Int) ≤ (((rr.getD k []).drop 1).length : Int)))) rfl rfl rfl (hE 107 rfl) (hE 112 rfl) (by rw [hob]; rfl)
   ·exact sMv
   ·exact gy1 hg11 sMv
   ·exact gy1 hg11 sMv
   ·exact gy1 hg11 sMv
   ·exact gy1 hg11 (dW 118 fun st hob hE => aop_len rfl rfl rfl rfl ut48 (len_ro (hE 117 rfl)) (by rw [hob]; rfl))
   ·exact gy1 hg11 (dW 119 fun st hob hE => aop_sliceRoN (l := 0) (hgh := sm.length) (cells' := enc eI (((rr.getD k []).drop 1).take sm.length)) ((((rr.getD k []).drop 1).take sm.length)).length rfl rfl rfl ut48 sz3 (hE 116 rfl) rfl ⟨_, (hE 118 rfl)⟩ om oo (sliceE (f := eI) (fun _ => rfl) _ 0 _) (by simp; omega) (by rw [hob]; rfl))
   ·exact gy1 hg11 (dW 120 fun st hob hE => call_ (show Fn Try.prog 16 [.q eI sm, .q eI (((rr.getD k []).drop 1).take sm.length)] (.b true) from (by have h_ := r01_Ints sm (((rr.getD k []).drop 1).take sm.length) om; rw [decide_eq_true hso2.symm] at h_; exact h_)) rfl rfl rfl rfl rfl bd16 (by show [st.env 115, st.env 119] ++ _ = _; rw [hE 115 rfl, hE 119 rfl]; rfl) (by rw [hob]; rfl))
   ·exact dW 121 fun st hob hE => aop_pick (b := (decide ((sm.length : Int) ≤ (((rr.getD k []).drop 1).length : Int)))) (av := .b true) rfl rfl rfl (hE 114 rfl) (by rw [hg11]; exact hE 120 rfl) (by rw [hob]; rfl)
   ·exact sMv
   ·exact gy1 rfl sMv
   ·exact gy1 rfl (sLB [.one, .q eSec ss, .q eIL pa, .q ePnt pp, .q eIL rr, .i (1 + d.speed % (2 * (10 * (1 + d.len % 20)))), .i (1 + d.mute % 1000), .i (1 + d.wait % 1000), .i cn, .i (d.stay % 4)] ag39 sz39)
   ·exact gy1 rfl sMv
   ·exact gy1 rfl sMv
   ·exact gy1 rfl sMv
   ·exact gy1 rfl sMv
   ·exact gy1 rfl (sLB [.one, .q eSec ss, .q eIL pa, .q ePnt pp, .q eIL rr, .i (1 + d.speed % (2 * (10 * (1 + d.len % 20)))), .i (1 + d.mute % 1000), .i (1 + d.wait % 1000), .i cn, .i (d.stay % 4)] ag39 sz39)
   ·exact gy1 rfl (sLB (Z8y rt) ag30 sz30)
   ·exact gy1 rfl (dW 131 fun st hob hE => callW_ (show Fn Try.prog 21 [.agg [.one, .one, .one, .q ePnt pp, .one, .one, .one, .one, .one, .one], .agg (Z8w rt)] (.q eB pt) from (by have h_ := l16_points pp (⟨0, 0, 0, [], [], rt, [], 0⟩ : Go.Lo.Act) om hxa; rw [← h_pt] at h_; exact h_)) rfl rfl rfl rfl rfl bd21 (by show Lends _ ([st.env 129, st.env 130] ++ _) _; rw [hE 129 rfl, hE 130 rfl]; exact (lends_cons (lend_agg lS) (lends_cons (lend_agg (lends_cons (lend_n (av := .v (.int .u8 0))) (lends_cons (lend_n (av := .v (.int .u8 0))) (lends_cons (lend_n (av := .v (.int .u8 0))) (lends_cons .nil (lends_cons .nil (lends_cons (lend_n (av := .q eB rt)) (lends_cons .nil lS)))))))) lends_nil))) (by rw [hob]; rfl))
   ·exact gy1 rfl (dW 132 fun st hob hE => callW_ (show Fn Try.prog 22 [.agg [.one, .q eSec ss, .q eIL pa, .q ePnt pp, .q eIL rr, .one, .one, .one, .one, .one], .q eLk mm, .q eU8 st_, .q eI ow, .q eV ([vw1 (rr.getD k [])] : List View), .q eB pt, .i 1] (.q eI sm) from (by have h_ := (r16_Of ([vw1 (rr.getD k [])] : List View) 1 ss pa pp rr st_ ow pt mm (fld_ok hL hst how (by show ((rr.getD k []).take 1).length ≤ 65536; rw [List.length_take]; omega) om) hmr hme om (by simp) hL.hrs (fun x hx i hi => step_same hT hwk hnd hx hi)); rw [← h_sm] at h_; exact h_)) rfl rfl rfl rfl rfl bd22 (by show Lends _ ([st.env 124, st.env 125, st.env 126, st.env 127, st.env 128, st.env 131, evA st.env (.const (.int .i64 1))] ++ _) _; rw [hE 124 rfl, hE 125 rfl, hE 126 rfl, hE 127 rfl, hE 128 rfl, hE 131 rfl]; exact lS) (by rw [hob]; rfl))
   ·exact gy1 rfl (dW 133 fun st hob hE => call_ (show Fn Try.prog 16 [.q eI sm, .q eI sm] (.b true) from (by have h_ := r01_Ints sm sm om; rw [decide_eq_true rfl] at h_; exact h_)) rfl rfl rfl rfl rfl bd16 (by show [st.env 123, st.env 132] ++ _ = _; rw [hE 123 rfl, hE 132 rfl]; rfl) (by rw [hob]; rfl))
   exact dW 134 fun st hob hE => aop_pick (b := true) (av := .b true) rfl rfl rfl (hE 122 rfl) (hE 133 rfl) (by rw [hob]; rfl)
  refine mG (.b true) ?_
  refine op0 ?_
  refine awp_ret ?_
  exact fret (av := .v (.bool true)) rfl rfl (by simp)
 have hf13 := of_decide_eq_false hg11
 exfalso; have h9_ := of_decide_eq_false hg11; omega
end Go.Lo
