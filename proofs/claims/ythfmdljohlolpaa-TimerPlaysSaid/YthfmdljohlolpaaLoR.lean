/- Regions whose order is open, with stores among what comes in any order. -/
import Derived.Test.YthfmdljohlolpaaLoP
set_option linter.unusedVariables false
set_option linter.unusedSimpArgs false
namespace Go.Lo
section
variable (P : Program) (E : Env0)
def StillsY (ops : Array Oper) (env : Nat → AV) (obF : (Nat → Bool) → Nat → OSt) (xs : List Nat) : Nat → List Oper → Prop
  | _, [] => True
  | i, o :: r => (if i ∈ xs then o.guard = none ∧ o.dst = none ∧ ∀ b : Nat → Bool, b i = false → ∀ st : St, st.ob = obF b → (∀ t, (o.looksAt ops).elem t = true → st.env t = env t) → AOp P E o st (fun s => s.env = st.env ∧ ∀ id, s.ob id = obF (fun j => j == i || b j) id)
      else ∀ b, Still P E ops env (obF b) o) ∧ StillsY ops env obF xs (i + 1) r
end
section
variable {P : Program} {E : Env0} {ops : Array Oper}
theorem stillsY_at {env : Nat → AV} {obF : (Nat → Bool) → Nat → OSt} {xs : List Nat} : ∀ (k : Nat) (l : List Oper), StillsY P E ops env obF xs k l → ∀ (i : Nat) (o : Oper), l[i]? = some o →
    (if k + i ∈ xs then o.guard = none ∧ o.dst = none ∧ ∀ b : Nat → Bool, b (k + i) = false → ∀ st : St, st.ob = obF b → (∀ t, (o.looksAt ops).elem t = true → st.env t = env t) → AOp P E o st (fun s => s.env = st.env ∧ ∀ id, s.ob id = obF (fun j => j == (k + i) || b j) id)
      else ∀ b, Still P E ops env (obF b) o)
  | _, [], _, i, o, h => by simp at h
  | k, a :: r, hst, i, o, h => by
    cases i with
    | zero => simp at h; subst h; exact hst.1
    | succ i =>
      have := stillsY_at (k + 1) r hst.2 i o (by simpa using h)
      rwa [show k + 1 + i = k + (i + 1) by omega] at this
theorem nbeq_ne {j i : Nat} (h : j ≠ i) : Nat.beq j i = false := by
  cases hb : Nat.beq j i with
  | false => rfl
  | true => exact absurd (Nat.eq_of_beq_eq_true hb) h
theorem updO_pt {f g : Nat → OSt} {i : Nat} {x : OSt} (h1 : g i = x) (h2 : ∀ j, j ≠ i → f j = g j) : ∀ id, updO f i x id = g id := fun id => by
  by_cases h : id = i
  · subst h; rw [updO_same, h1]
  · rw [updO_ne _ _ h, h2 id h]
theorem sy_pure {A B : Prop} {i : Nat} {xs : List Nat} (h : ¬ i ∈ xs) (b : B) : if i ∈ xs then A else B := by rw [if_neg h]; exact b
theorem sy_fx {A B : Prop} {i : Nat} {xs : List Nat} (h : i ∈ xs) (a : A) : if i ∈ xs then A else B := by rw [if_pos h]; exact a
theorem wpAny_headY {Q : Exit → Act → World → Prop} {K : St → Prop} {m : Nat} {env : Nat → AV} {obF : (Nat → Bool) → Nat → OSt} {ob' : Nat → OSt} {xs : List Nat} (hdepF : ∀ b b' : Nat → Bool, (∀ x, x ∈ xs → b x = b' x) → obF b = obF b') (hfin : ∀ b : Nat → Bool, (∀ i, i < m → b i = true) → obF b = ob') (hq : ∀ st' a' w', SRel E st' a' w' → K st' → Q .normal a' w') (hm : m ≤ ops.size)
    (hdeps : (List.range m).all (depsB ops m) = true) (hsc : m = ops.size ∨ (Region.sinkB .any ops m = true ∧ Region.chainB .any ops m = true)) (hT : tailB ops (ops.size - m) m = true)
    (hst : StillsY P E ops env obF xs 0 (ops.toList.take m)) (htail : AOps P E ops (ops.toList.drop m) ⟨env, ob'⟩ K) (u : Nat) :
    ∀ (listed : Array Bool) (a : Act) (w : World), HeadInv .any ops m listed → cnt listed m = u → SRel E ⟨midEnv ops m listed env, obF fun i => listed.getD i false⟩ a w → wpAny P .any ops Q (u + (ops.size - m)) listed a w := by
  have hdep : ∀ i, i < m → ∃ o, ops[i]? = some o ∧ (∀ e ∈ o.after, Region.binds .any e = true → e.on < i) ∧ ∀ t, t ∈ o.looksAt ops → ∀ j oj, j < m → ops[j]? = some oj → oj.dst = some t → ∃ e ∈ o.after, Region.binds .any e = true ∧ e.on = j := by
    intro i hi
    have h := List.all_eq_true.1 hdeps i (List.mem_range.2 hi)
    unfold depsB at h
    split at h
    · rename_i o ho
      simp only [Bool.and_eq_true] at h
      refine ⟨o, ho, fun e he hb => ?_, fun t ht j oj hj hoj hdt => ?_⟩
      · have := Array.all_eq_true'.1 h.1 e he
        simpa [hb] using this
      · have h2 := List.all_eq_true.1 (List.all_eq_true.1 h.2 t ht) j (List.mem_range.2 hj)
        simp only [hoj, hdt] at h2
        have h3 : (o.after.any fun e => Region.binds .any e && e.on == j) = true := by simpa using h2
        obtain ⟨e, he, hb⟩ := Array.any_eq_true'.1 h3
        simp only [Bool.and_eq_true, beq_iff_eq] at hb
        exact ⟨e, he, hb.1, hb.2⟩
    · cases h
  induction u with
  | zero =>
    intro listed a w inv hc hs
    have hall := cnt_zero hc
    have hl : listed = upTo ops.size m := by
      apply Array.ext_getElem?
      intro j
      rcases Nat.lt_or_ge j ops.size with hj | hj
      · rw [upTo_get hj, Array.getElem?_eq_getElem (by rw [inv.size]; exact hj)]
        rcases Nat.lt_or_ge j m with h1 | h1
        · have := hall j h1
          simp [show j < listed.size by rw [inv.size]; exact hj] at this
          simp [this, h1]
        · have := inv.tail j h1 hj
          simp [show j < listed.size by rw [inv.size]; exact hj] at this
          simp [this]; omega
      · rw [Array.getElem?_eq_none (by rw [inv.size]; exact hj), Array.getElem?_eq_none (by rw [upTo_size]; exact hj)]
    have hob' : (obF fun i => listed.getD i false) = ob' := hfin _ hall
    have henv : SRel E ⟨env, ob'⟩ a w := by
      rw [hob'] at hs
      refine hs.le ⟨fun t => .inr ?_, fun id => .inl rfl⟩
      simp only [midEnv]
      rw [if_neg]
      rintro ⟨j, o, h1, _, _, h2⟩
      rw [hall j h1] at h2
      cases h2
    rw [hl, Nat.zero_add]
    have := wpAny_tail hq (ops.toList.drop m) m ⟨env, ob'⟩ a w (fun j => by simp [List.getElem?_drop]) (by simp; omega) (by simpa using hT) henv htail
    simpa using this
  | succ u ih =>
    intro listed a w inv hc hs
    rw [show u + 1 + (ops.size - m) = (u + (ops.size - m)) + 1 by omega]
    have hun : ∃ j, j < m ∧ listed.getD j false = false := by
      apply Classical.byContradiction
      intro hno
      have : ∀ k, k ≤ m → cnt listed k = 0 := by
        intro k
        induction k with
        | zero => intro _; rfl
        | succ k ihk =>
          intro hk
          simp only [cnt]
          rw [ihk (by omega)]
          cases hkv : listed.getD k false with
          | true => simp
          | false => exact absurd ⟨k, by omega, hkv⟩ hno
      have := this m (Nat.le_refl _)
      omega
    -- the least that has not come up may
    have hleast : ∀ n j, j < n → j < m → listed.getD j false = false → Region.ready .any ops listed ≠ [] := by
      intro n
      induction n with
      | zero => intro j h; omega
      | succ n ihn =>
        intro j hj hjm hf
        obtain ⟨o, ho, he, _⟩ := hdep j hjm
        by_cases hready : ∀ e ∈ o.after, Region.binds .any e = true → listed.getD e.on false = true
        · intro hnil
          have : j ∈ Region.ready .any ops listed := mem_ready.2 ⟨getD_in (by rw [inv.size]; omega) hf, o, ho, hready⟩
          rw [hnil] at this
          cases this
        · have : ∃ e ∈ o.after, Region.binds .any e = true ∧ listed.getD e.on false = false := by
            apply Classical.byContradiction
            intro hno
            apply hready
            intro e he1 he2
            cases hv : listed.getD e.on false with
            | true => rfl
            | false => exact absurd ⟨e, he1, he2, hv⟩ hno
          obtain ⟨e, he1, he2, he3⟩ := this
          have := he e he1 he2
          exact ihn e.on (by omega) (by omega) he3
    obtain ⟨j0, hj0, hf0⟩ := hun
    refine ⟨fun hnil => absurd hnil (hleast (j0 + 1) j0 (by omega) hj0 hf0), fun i hi => ?_⟩
    obtain ⟨hiun, oi, hoi, hall⟩ := mem_ready.1 hi
    have hin : i < ops.size := (Array.getElem?_eq_some_iff.1 hoi).1
    have him : i < m := by
      rcases Nat.lt_or_ge i m with h | h
      · exact h
      · rcases hsc with h1 | ⟨h1, h2⟩
        · omega
        · exact absurd hi (tail_waits h1 h2 (by omega) inv _ j0 rfl hj0 (getD_in (by rw [inv.size]; omega) hf0) i h)
    have hif : listed.getD i false = false := getD_both hiun
    obtain ⟨o', ho', _, hlook⟩ := hdep i him
    rw [hoi] at ho'
    cases ho'
    have hsame : ∀ t, t ∈ oi.looksAt ops → midEnv ops m listed env t = env t := by
      intro t ht
      simp only [midEnv]
      rw [if_neg]
      rintro ⟨j, oj, h1, h2, h3, h4⟩
      obtain ⟨e, he1, he2, he3⟩ := hlook t ht j oj h1 h2 h3
      have := hall e he1 he2
      rw [he3, h4] at this
      cases this
    have hstX := stillsY_at _ _ hst i oi (by rw [List.getElem?_take, if_pos him]; simpa using hoi)
    rw [Nat.zero_add] at hstX
    have hcnt : cnt (listed.setIfInBounds i true) m = u := by
      have := cnt_set (listed := listed) (by rw [inv.size]; exact hin) hif m
      rw [if_pos him] at this
      omega
    by_cases hix : i ∈ xs
    · rw [if_pos hix] at hstX
      obtain ⟨hg, hdn, hop⟩ := hstX
      unfold wpOp
      simp only [hoi]
      have hw : Region.wanted oi (yielded ops a.tmps) = true := by simp [Region.wanted, hg]
      rw [if_pos hw]
      refine .inl (Oper.wp_mono ?_ (hop (fun j => listed.getD j false) hif ⟨midEnv ops m listed env, obF fun j => listed.getD j false⟩ rfl (fun t ht => hsame t (List.elem_iff.1 ht)) a w Q hs))
      rintro a' w' ⟨s, h1, he1, he2⟩
      refine ih _ a' w' (inv.set hi him) hcnt (h1.le ⟨fun t => ?_, fun id => .inl ?_⟩)
      · refine .inr ?_
        rw [he1]
        simp only [midEnv]
        by_cases hex : ∃ j o, j < m ∧ ops[j]? = some o ∧ o.dst = some t ∧ listed.getD j false = false
        · rw [if_pos hex, if_pos]
          obtain ⟨j, o, k1, k2, k3, k4⟩ := hex
          refine ⟨j, o, k1, k2, k3, ?_⟩
          have hij : i ≠ j := fun e => by
            subst e
            rw [hoi] at k2
            cases k2
            rw [hdn] at k3
            cases k3
          rw [getD_set_ne false hij]
          exact k4
        · rw [if_neg hex, if_neg]
          rintro ⟨j, o, k1, k2, k3, k4⟩
          refine hex ⟨j, o, k1, k2, k3, ?_⟩
          have hij : i ≠ j := fun e => by
            subst e
            rw [hoi] at k2
            cases k2
            rw [hdn] at k3
            cases k3
          rw [getD_set_ne false hij] at k4
          exact k4
      · rw [he2 id]
        refine congrFun (hdepF _ _ fun x _ => ?_) id
        show _ = (x == i || listed.getD x false)
        by_cases hxi : i = x
        · subst hxi
          have := inv.size
          simp [show i < listed.size by omega]
        · rw [getD_set_ne false hxi]
          simp [show ¬ x = i from fun e => hxi e.symm]
    rw [if_neg hix] at hstX
    have hobi : (obF fun j => (listed.setIfInBounds i true).getD j false) = obF fun j => listed.getD j false := hdepF _ _ fun x hx => by rw [getD_set_ne false (fun e => by subst e; exact hix hx)]
    have hstill : Still P E ops env (obF fun j => listed.getD j false) oi := hstX _
    clear hstX
    generalize hog : (obF fun j => listed.getD j false) = obL at hs hstill
    have ih' : ∀ (a : Act) (w : World), SRel E ⟨midEnv ops m (listed.setIfInBounds i true) env, obL⟩ a w → wpAny P .any ops Q (u + (ops.size - m)) (listed.setIfInBounds i true) a w := fun a w h => ih _ a w (inv.set hi him) hcnt (by rw [hobi, hog]; exact h)
    have hnext : ∀ (d : Nat) (s : St), oi.dst = some d → s.ob = obL → (∀ t, t ≠ d → s.env t = midEnv ops m listed env t) → (env d = .any ∨ s.env d = env d) → Le s ⟨midEnv ops m (listed.setIfInBounds i true) env, obL⟩ := by
      intro d s hdd h1 h2 h3
      refine ⟨fun t => ?_, fun id => .inl (by rw [h1])⟩
      simp only [midEnv]
      by_cases hex : ∃ j o, j < m ∧ ops[j]? = some o ∧ o.dst = some t ∧ (listed.setIfInBounds i true).getD j false = false
      · rw [if_pos hex]; exact .inl rfl
      · rw [if_neg hex]
        by_cases htd : t = d
        · subst htd
          rcases h3 with h3 | h3
          · exact .inl h3
          · exact .inr h3.symm
        · refine .inr ?_
          rw [h2 t htd]
          simp only [midEnv]
          rw [if_neg]
          rintro ⟨j, o, k1, k2, k3, k4⟩
          refine hex ⟨j, o, k1, k2, k3, ?_⟩
          have hij : i ≠ j := fun e => by
            subst e
            rw [hoi] at k2
            cases k2
            rw [hdd] at k3
            cases k3
            exact htd rfl
          rw [getD_set_ne false hij]
          exact k4
    have hgo : ∀ (d : Nat), oi.dst = some d → StillOp P E ops env obL oi → oi.wp P a w (wpAny P .any ops Q (u + (ops.size - m)) (listed.setIfInBounds i true)) Q := by
      rintro d hdd ⟨d', hd', _, hop⟩
      rw [hdd] at hd'
      cases hd'
      refine Oper.wp_mono ?_ (hop ⟨midEnv ops m listed env, obL⟩ rfl (fun t ht => hsame t (List.elem_iff.1 ht)) a w Q hs)
      rintro a' w' ⟨s, h1, rfl⟩
      refine ih' a' w' (h1.le (hnext d _ hdd rfl (fun t ht => upd_ne _ _ ht) (.inr (upd_same _ _ _))))
    unfold wpOp
    simp only [hoi]
    unfold Still at hstill
    cases hg : oi.guard with
    | none =>
      rw [hg] at hstill
      obtain ⟨d, hd, h1, h2⟩ := hstill
      have hw : Region.wanted oi (yielded ops a.tmps) = true := by simp [Region.wanted, hg]
      rw [if_pos hw]
      exact .inl (hgo d hd ⟨d, hd, h1, h2⟩)
    | some jw =>
      obtain ⟨j, want⟩ := jw
      rw [hg] at hstill
      obtain ⟨t, uv, hj, ht, he, hyes, hno⟩ := hstill
      have htl : t ∈ oi.looksAt ops := by
        unfold Oper.looksAt
        rw [hg]
        simp [hj]
      obtain ⟨C, hs'⟩ := hs
      have hy := yielded_of hs' hj ht (by show midEnv ops m listed env t = _; rw [hsame t htl]; exact he)
      by_cases hb : yv uv = some want
      · have hw : Region.wanted oi (yielded ops a.tmps) = true := by simp [Region.wanted, hg, hy, hb]
        rw [if_pos hw]
        obtain ⟨d, hd, h1, h2⟩ := hyes hb
        exact .inl (hgo d hd ⟨d, hd, h1, h2⟩)
      · have hw : Region.wanted oi (yielded ops a.tmps) = false := by simp [Region.wanted, hg, hy, hb]
        rw [if_neg (by simp [hw])]
        obtain ⟨d, hd, hdN, hany⟩ := hno hb
        have hs2 : SRel E ⟨upd (midEnv ops m listed env) d (.v undef), obL⟩ (a.put oi.dst undef) w := by
          have := hs'.set oi.dst (fun d' hd' => by rw [hd] at hd'; cases hd'; exact hdN) (.v undef) undef (fun _ => .v _)
          rw [hd] at this ⊢
          exact ⟨C, this⟩
        exact ih' _ w (hs2.le (hnext d _ hd rfl (fun t ht => upd_ne _ _ ht) (hany.imp id (fun h => by rw [h]; exact upd_same _ _ _))))

theorem awp_drawY {id m : Nat} {st : St} (obF : (Nat → Bool) → Nat → OSt) (ob' : Nat → OSt) (xs : List Nat) (hob0 : obF (fun _ => false) = st.ob) (hdepF : ∀ b b' : Nat → Bool, (∀ x, x ∈ xs → b x = b' x) → obF b = obF b') (hfin : ∀ b : Nat → Bool, (∀ i, i < m → b i = true) → obF b = ob') {Q : Exit → St → Prop} (vs : List (Nat × AV)) (hm : P.follows .mixedOrders = true) (hB : drawOk ops m (vs.map (·.1)) = true)
    (hst : StillsY P E ops (ovl vs st.env) obF xs 0 (ops.toList.take m)) (htail : AOps P E ops (ops.toList.drop m) ⟨ovl vs st.env, ob'⟩ (fun s => Q .normal s)) : AWP P E (.region id ops true) st Q := by
  intro a w hs
  simp only [drawOk, Bool.and_eq_true, Bool.or_eq_true, beq_iff_eq, decide_eq_true_eq] at hB
  obtain ⟨⟨⟨⟨h1, h2⟩, h3⟩, h4⟩, h5⟩ := hB
  refine wp_region_any hm ?_
  have inv : HeadInv .any ops m (Array.replicate ops.size false) :=
    ⟨by simp, fun j oj _ hl => (by rw [getD_replicate_false] at hl; cases hl), fun t _ ht => getD_in (by simpa using ht) (getD_replicate_false _ _)⟩
  have hcnt : ∀ k, cnt (Array.replicate ops.size false) k = k := by
    intro k
    induction k with
    | zero => rfl
    | succ k ih => simp only [cnt]; rw [ih, getD_replicate_false]; simp
  have hs1 : SRel E st a { w with drawn := w.drawn + 1 } := by
    obtain ⟨C, hs⟩ := hs
    have hext : Ext w C { w with drawn := w.drawn + 1 } C := ⟨fun _ h => ⟨h, rfl, rfl, rfl⟩, fun _ _ h => h, fun _ _ _ => rfl⟩
    have := hs.put hext st.ob ⟨hs.obj.nil, fun id o b h1 h2 => ?_, hs.obj.inj, hs.obj.dom, hs.obj.bnd⟩ ⟨hs.fr.os, hs.fr.tape, hs.fr.output, hs.fr.size, hs.fr.block⟩ hs.fresh hs.keep hs.newown none (fun d h => by cases h) .any undef (fun h => absurd rfl h)
    · exact ⟨C, this⟩
    · obtain ⟨k1, cur, k2, k3, k4, k5⟩ := hs.obj.live id o b h1 h2
      refine ⟨k1, cur, k2, k3, k4, fun j av hj => ?_⟩
      obtain ⟨u, hu, k6, k7⟩ := k5 j av hj
      exact ⟨u, hu, k6, k7.ext hext⟩
  have hs2 : SRel E ⟨midEnv ops m (Array.replicate ops.size false) (ovl vs st.env), st.ob⟩ a { w with drawn := w.drawn + 1 } := by
    refine hs1.le ⟨fun t => ?_, fun id => .inl rfl⟩
    simp only [midEnv]
    by_cases hex : ∃ j o, j < m ∧ ops[j]? = some o ∧ o.dst = some t ∧ (Array.replicate ops.size false).getD j false = false
    · rw [if_pos hex]; exact .inl rfl
    · rw [if_neg hex]
      refine .inr (ovl_out fun hmem => ?_)
      have := List.all_eq_true.1 h2 t hmem
      obtain ⟨o, ho, hd⟩ := List.any_eq_true.1 this
      simp only [beq_iff_eq] at hd
      obtain ⟨j, hj⟩ := List.mem_iff_getElem?.1 ho
      rw [List.getElem?_take] at hj
      split at hj
      · rename_i hjm
        exact hex ⟨j, o, hjm, by simpa using hj, hd, getD_replicate_false _ _⟩
      · cases hj
  have hob1 : (obF fun i => (Array.replicate ops.size false).getD i false) = st.ob := by rw [← hob0]; exact hdepF _ _ fun x _ => getD_replicate_false _ _
  rw [← hob1] at hs2
  have := wpAny_headY (P := P) hdepF hfin (Q := fun e a' w' => ∃ st', SRel E st' a' w' ∧ Q e st') (K := fun s => Q .normal s) (fun st' a' w' k1 k2 => ⟨st', k1, k2⟩) h1 h3 h4 h5 hst htail m _ a _ inv (hcnt m) hs2
  rwa [show m + (ops.size - m) = ops.size by omega] at this
end
end Go.Lo
