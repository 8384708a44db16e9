/- Regions whose order is open, in the logic of values: what is only read, in whatever order; then a tail whose order is forced. -/
import Derived.Test.YthfmdljohlolpaaLoD
import Derived.StillTail
set_option linter.unusedVariables false
set_option linter.unusedSimpArgs false
namespace Go.Lo
section
variable (P : Program) (E : Env0)

/-- An operation that leaves what is one's own alone, and yields 'env d' out of what 'env' says of its operands. -/
def StillOp (ops : Array Oper) (env : Nat → AV) (ob : Nat → OSt) (o : Oper) : Prop :=
  ∃ d, o.dst = some d ∧ d < E.N ∧ ∀ st : St, st.ob = ob → (∀ t, (o.looksAt ops).elem t = true → st.env t = env t) → AOp P E o st (fun s => s = ⟨upd st.env d (env d), ob⟩)
def Still (ops : Array Oper) (env : Nat → AV) (ob : Nat → OSt) (o : Oper) : Prop :=
  match o.guard with
  | none => StillOp P E ops env ob o
  | some (j, want) => ∃ (t : Nat) (u : Value), (ops[j]?).bind (·.dst) = some t ∧ t < E.N ∧ env t = .v u ∧ (yv u = some want → StillOp P E ops env ob o) ∧ (yv u ≠ some want → ∃ d, o.dst = some d ∧ d < E.N ∧ (env d = .any ∨ env d = .v undef))
def Stills (ops : Array Oper) (env : Nat → AV) (ob : Nat → OSt) : List Oper → Prop
  | [] => True
  | o :: r => Still P E ops env ob o ∧ Stills ops env ob r
end

def ovl : List (Nat × AV) → (Nat → AV) → Nat → AV
  | [], e => e
  | (d, v) :: r, e => upd (ovl r e) d v
theorem ovl_out {vs : List (Nat × AV)} {e : Nat → AV} {t : Nat} (h : t ∉ vs.map (·.1)) : ovl vs e t = e t := by
  induction vs with
  | nil => rfl
  | cons x r ih =>
    obtain ⟨d, v⟩ := x
    simp only [List.map_cons, List.mem_cons, not_or] at h
    simp only [ovl]
    rw [upd_ne _ _ h.1, ih h.2]

def upTo (n k : Nat) : Array Bool := ((List.range n).map fun j => decide (j < k)).toArray
theorem upTo_size (n k : Nat) : (upTo n k).size = n := by simp [upTo]
theorem upTo_get {n k j : Nat} (h : j < n) : (upTo n k)[j]? = some (decide (j < k)) := by simp [upTo, h]

def tailB (ops : Array Oper) : Nat → Nat → Bool
  | 0, k => (Region.ready .any ops (upTo ops.size k)).isEmpty
  | g + 1, k => (Region.ready .any ops (upTo ops.size k) == [k]) && tailB ops g (k + 1)

def depsB (ops : Array Oper) (m i : Nat) : Bool :=
  match ops[i]? with
  | some o => (o.after.all fun e => !Region.binds .any e || decide (e.on < i)) && (o.looksAt ops).all fun t => (List.range m).all fun j =>
      match ops[j]? with
      | some oj => oj.dst != some t || (o.after.any fun e => Region.binds .any e && e.on == j)
      | none => true
  | none => false

def drawOk (ops : Array Oper) (m : Nat) (ds : List Nat) : Bool :=
  decide (m ≤ ops.size) && (ds.all fun d => (ops.toList.take m).any fun o => o.dst == some d) && (List.range m).all (depsB ops m) && (m == ops.size || (Region.sinkB .any ops m && Region.chainB .any ops m)) && tailB ops (ops.size - m) m

section
variable {P : Program} {E : Env0} {ops : Array Oper}

theorem wpAny_tail {Q : Exit → Act → World → Prop} {K : St → Prop} (hq : ∀ st' a' w', SRel E st' a' w' → K st' → Q .normal a' w') (l : List Oper) :
    ∀ (k : Nat) (st : St) (a : Act) (w : World), (∀ j, l[j]? = ops[k + j]?) → k + l.length = ops.size → tailB ops l.length k = true → SRel E st a w → AOps P E ops l st K → wpAny P .any ops Q l.length (upTo ops.size k) a w := by
  induction l with
  | nil =>
    intro k st a w hl hk hB hs h
    obtain ⟨s, h1, h2⟩ := h
    exact ⟨by simpa [tailB] using hB, hq s a w (h1 a w hs) h2⟩
  | cons o l ih =>
    intro k st a w hl hk hB hs h
    simp only [List.length_cons, tailB, Bool.and_eq_true, beq_iff_eq] at hB
    have h0 : ops[k]? = some o := by simpa using (hl 0).symm
    have hset : (upTo ops.size k).setIfInBounds k true = upTo ops.size (k + 1) := by
      apply Array.ext_getElem?
      intro j
      rcases Nat.lt_or_ge j ops.size with hj | hj
      · rw [upTo_get hj]
        by_cases hjk : k = j
        · subst hjk
          rw [Array.getElem?_setIfInBounds_self_of_lt (by rw [upTo_size]; exact hj)]
          simp
        · rw [Array.getElem?_setIfInBounds_ne hjk, upTo_get hj]
          simp; omega
      · rw [Array.getElem?_eq_none (by simp [upTo_size]; exact hj), Array.getElem?_eq_none (by simp [upTo_size]; exact hj)]
    have hl' : ∀ j, l[j]? = ops[k + 1 + j]? := fun j => by
      have := hl (j + 1)
      simpa [Nat.add_assoc, Nat.add_comm 1 j] using this
    refine ⟨fun h1 => (by rw [h1] at hB; simp at hB), fun i hi => ?_⟩
    rw [hB.1] at hi
    have hik : i = k := by simpa using hi
    subst hik
    unfold wpOp
    simp only [h0]
    rw [hset]
    have hk' : i + 1 + l.length = ops.size := by simp at hk; omega
    unfold AOps at h
    obtain ⟨s0, hi0, h⟩ := h
    replace hs := hi0 a w hs
    cases hg : o.guard with
    | none =>
      rw [hg] at h
      have hw : Region.wanted o (yielded ops a.tmps) = true := by simp [Region.wanted, hg]
      rw [if_pos hw]
      refine .inl (Oper.wp_mono ?_ (h a w Q hs))
      rintro a' w' ⟨s, h1, h2⟩
      exact ih (i + 1) s a' w' hl' hk' hB.2 h1 h2
    | some jw =>
      obtain ⟨j, want⟩ := jw
      rw [hg] at h
      obtain ⟨t, u, hj, ht, he, hyes, hno⟩ := h
      obtain ⟨C, hs'⟩ := hs
      have hy := yielded_of hs' hj ht he
      by_cases hb : yv u = some want
      · have hw : Region.wanted o (yielded ops a.tmps) = true := by simp [Region.wanted, hg, hy, hb]
        rw [if_pos hw]
        refine .inl (Oper.wp_mono ?_ (hyes hb a w Q ⟨C, hs'⟩))
        rintro a' w' ⟨s, h1, h2⟩
        exact ih (i + 1) s a' w' hl' hk' hB.2 h1 h2
      · have hw : Region.wanted o (yielded ops a.tmps) = false := by simp [Region.wanted, hg, hy, hb]
        rw [if_neg (by simp [hw])]
        obtain ⟨hd, hr⟩ := hno hb
        exact ih (i + 1) _ _ w hl' hk' hB.2 ⟨C, hs'.set o.dst hd (.v undef) undef (fun _ => .v _)⟩ hr

/-- How many of the first m have not come up. -/
def cnt (listed : Array Bool) : Nat → Nat
  | 0 => 0
  | m + 1 => cnt listed m + (if listed.getD m false = true then 0 else 1)
theorem cnt_zero {listed : Array Bool} {m : Nat} (h : cnt listed m = 0) : ∀ j, j < m → listed.getD j false = true := by
  induction m with
  | zero => intro j hj; omega
  | succ m ih =>
    intro j hj
    simp only [cnt] at h
    by_cases hm : listed.getD m false = true
    · rw [if_pos hm] at h
      rcases Nat.lt_or_ge j m with h1 | h1
      · exact ih (by omega) j h1
      · rw [show j = m by omega]; exact hm
    · rw [if_neg hm] at h; omega
theorem cnt_set {listed : Array Bool} {i : Nat} (hi : i < listed.size) (hf : listed.getD i false = false) (m : Nat) : cnt (listed.setIfInBounds i true) m + (if i < m then 1 else 0) = cnt listed m := by
  induction m with
  | zero => simp [cnt]
  | succ m ih =>
    simp only [cnt]
    by_cases him : i = m
    · subst him
      have h1 : (listed.setIfInBounds i true).getD i false = true := by simp [hi]
      rw [h1, hf]
      simp at ih ⊢
      omega
    · have h1 : (listed.setIfInBounds i true).getD m false = listed.getD m false := by simp [Array.getElem?_setIfInBounds_ne him]
      rw [h1]
      have h2 : (if i < m + 1 then 1 else 0) = (if i < m then 1 else 0) := by
        by_cases h3 : i < m
        · rw [if_pos h3, if_pos (by omega)]
        · rw [if_neg h3, if_neg (by omega)]
      omega

/-- What is known while some of the first m have come up: of the others' slots nothing. -/
noncomputable def midEnv (ops : Array Oper) (m : Nat) (listed : Array Bool) (env : Nat → AV) : Nat → AV := fun t =>
  open Classical in if ∃ j o, j < m ∧ ops[j]? = some o ∧ o.dst = some t ∧ listed.getD j false = false then .any else env t

theorem stills_at {env : Nat → AV} {ob : Nat → OSt} : ∀ (l : List Oper), Stills P E ops env ob l → ∀ (i : Nat) (o : Oper), l[i]? = some o → Still P E ops env ob o
  | [], _, i, o, h => by simp at h
  | a :: r, hst, i, o, h => by
    cases i with
    | zero => simp at h; subst h; exact hst.1
    | succ i => exact stills_at r hst.2 i o (by simpa using h)

theorem wpAny_head {Q : Exit → Act → World → Prop} {K : St → Prop} {m : Nat} {env : Nat → AV} {ob : Nat → OSt} (hq : ∀ st' a' w', SRel E st' a' w' → K st' → Q .normal a' w') (hm : m ≤ ops.size)
    (hdeps : (List.range m).all (depsB ops m) = true) (hsc : m = ops.size ∨ (Region.sinkB .any ops m = true ∧ Region.chainB .any ops m = true)) (hT : tailB ops (ops.size - m) m = true)
    (hst : Stills P E ops env ob (ops.toList.take m)) (htail : AOps P E ops (ops.toList.drop m) ⟨env, ob⟩ K) (u : Nat) :
    ∀ (listed : Array Bool) (a : Act) (w : World), HeadInv .any ops m listed → cnt listed m = u → SRel E ⟨midEnv ops m listed env, ob⟩ a w → wpAny P .any ops Q (u + (ops.size - m)) listed a w := by
  have hdep : ∀ i, i < m → ∃ o, ops[i]? = some o ∧ (∀ e ∈ o.after, Region.binds .any e = true → e.on < i) ∧ ∀ t, t ∈ o.looksAt ops → ∀ j oj, j < m → ops[j]? = some oj → oj.dst = some t → ∃ e ∈ o.after, Region.binds .any e = true ∧ e.on = j := by
    intro i hi
    have h := List.all_eq_true.1 hdeps i (List.mem_range.2 hi)
    unfold depsB at h
    split at h
    · rename_i o ho
      simp only [Bool.and_eq_true] at h
      refine ⟨o, ho, fun e he hb => ?_, fun t ht j oj hj hoj hdt => ?_⟩
      · have := Array.all_eq_true'.1 h.1 e he
        simpa [hb] using this
      · have h2 := List.all_eq_true.1 (List.all_eq_true.1 h.2 t ht) j (List.mem_range.2 hj)
        simp only [hoj, hdt] at h2
        have h3 : (o.after.any fun e => Region.binds .any e && e.on == j) = true := by simpa using h2
        obtain ⟨e, he, hb⟩ := Array.any_eq_true'.1 h3
        simp only [Bool.and_eq_true, beq_iff_eq] at hb
        exact ⟨e, he, hb.1, hb.2⟩
    · cases h
  induction u with
  | zero =>
    intro listed a w inv hc hs
    have hall := cnt_zero hc
    have hl : listed = upTo ops.size m := by
      apply Array.ext_getElem?
      intro j
      rcases Nat.lt_or_ge j ops.size with hj | hj
      · rw [upTo_get hj, Array.getElem?_eq_getElem (by rw [inv.size]; exact hj)]
        rcases Nat.lt_or_ge j m with h1 | h1
        · have := hall j h1
          simp [show j < listed.size by rw [inv.size]; exact hj] at this
          simp [this, h1]
        · have := inv.tail j h1 hj
          simp [show j < listed.size by rw [inv.size]; exact hj] at this
          simp [this]; omega
      · rw [Array.getElem?_eq_none (by rw [inv.size]; exact hj), Array.getElem?_eq_none (by rw [upTo_size]; exact hj)]
    have henv : SRel E ⟨env, ob⟩ a w := by
      refine hs.le ⟨fun t => .inr ?_, fun id => .inl rfl⟩
      simp only [midEnv]
      rw [if_neg]
      rintro ⟨j, o, h1, _, _, h2⟩
      rw [hall j h1] at h2
      cases h2
    rw [hl, Nat.zero_add]
    have := wpAny_tail hq (ops.toList.drop m) m ⟨env, ob⟩ a w (fun j => by simp [List.getElem?_drop]) (by simp; omega) (by simpa using hT) henv htail
    simpa using this
  | succ u ih =>
    intro listed a w inv hc hs
    rw [show u + 1 + (ops.size - m) = (u + (ops.size - m)) + 1 by omega]
    have hun : ∃ j, j < m ∧ listed.getD j false = false := by
      apply Classical.byContradiction
      intro hno
      have : ∀ k, k ≤ m → cnt listed k = 0 := by
        intro k
        induction k with
        | zero => intro _; rfl
        | succ k ihk =>
          intro hk
          simp only [cnt]
          rw [ihk (by omega)]
          cases hkv : listed.getD k false with
          | true => simp
          | false => exact absurd ⟨k, by omega, hkv⟩ hno
      have := this m (Nat.le_refl _)
      omega
    -- the least that has not come up may
    have hleast : ∀ n j, j < n → j < m → listed.getD j false = false → Region.ready .any ops listed ≠ [] := by
      intro n
      induction n with
      | zero => intro j h; omega
      | succ n ihn =>
        intro j hj hjm hf
        obtain ⟨o, ho, he, _⟩ := hdep j hjm
        by_cases hready : ∀ e ∈ o.after, Region.binds .any e = true → listed.getD e.on false = true
        · intro hnil
          have : j ∈ Region.ready .any ops listed := mem_ready.2 ⟨getD_in (by rw [inv.size]; omega) hf, o, ho, hready⟩
          rw [hnil] at this
          cases this
        · have : ∃ e ∈ o.after, Region.binds .any e = true ∧ listed.getD e.on false = false := by
            apply Classical.byContradiction
            intro hno
            apply hready
            intro e he1 he2
            cases hv : listed.getD e.on false with
            | true => rfl
            | false => exact absurd ⟨e, he1, he2, hv⟩ hno
          obtain ⟨e, he1, he2, he3⟩ := this
          have := he e he1 he2
          exact ihn e.on (by omega) (by omega) he3
    obtain ⟨j0, hj0, hf0⟩ := hun
    refine ⟨fun hnil => absurd hnil (hleast (j0 + 1) j0 (by omega) hj0 hf0), fun i hi => ?_⟩
    obtain ⟨hiun, oi, hoi, hall⟩ := mem_ready.1 hi
    have hin : i < ops.size := (Array.getElem?_eq_some_iff.1 hoi).1
    have him : i < m := by
      rcases Nat.lt_or_ge i m with h | h
      · exact h
      · rcases hsc with h1 | ⟨h1, h2⟩
        · omega
        · exact absurd hi (tail_waits h1 h2 (by omega) inv _ j0 rfl hj0 (getD_in (by rw [inv.size]; omega) hf0) i h)
    have hif : listed.getD i false = false := getD_both hiun
    obtain ⟨o', ho', _, hlook⟩ := hdep i him
    rw [hoi] at ho'
    cases ho'
    have hsame : ∀ t, t ∈ oi.looksAt ops → midEnv ops m listed env t = env t := by
      intro t ht
      simp only [midEnv]
      rw [if_neg]
      rintro ⟨j, oj, h1, h2, h3, h4⟩
      obtain ⟨e, he1, he2, he3⟩ := hlook t ht j oj h1 h2 h3
      have := hall e he1 he2
      rw [he3, h4] at this
      cases this
    have hstill := stills_at _ hst i oi (by rw [List.getElem?_take, if_pos him]; simpa using hoi)
    have hcnt : cnt (listed.setIfInBounds i true) m = u := by
      have := cnt_set (listed := listed) (by rw [inv.size]; exact hin) hif m
      rw [if_pos him] at this
      omega
    have hnext : ∀ (d : Nat) (s : St), oi.dst = some d → s.ob = ob → (∀ t, t ≠ d → s.env t = midEnv ops m listed env t) → (env d = .any ∨ s.env d = env d) → Le s ⟨midEnv ops m (listed.setIfInBounds i true) env, ob⟩ := by
      intro d s hdd h1 h2 h3
      refine ⟨fun t => ?_, fun id => .inl (by rw [h1])⟩
      simp only [midEnv]
      by_cases hex : ∃ j o, j < m ∧ ops[j]? = some o ∧ o.dst = some t ∧ (listed.setIfInBounds i true).getD j false = false
      · rw [if_pos hex]; exact .inl rfl
      · rw [if_neg hex]
        by_cases htd : t = d
        · subst htd
          rcases h3 with h3 | h3
          · exact .inl h3
          · exact .inr h3.symm
        · refine .inr ?_
          rw [h2 t htd]
          simp only [midEnv]
          rw [if_neg]
          rintro ⟨j, o, k1, k2, k3, k4⟩
          refine hex ⟨j, o, k1, k2, k3, ?_⟩
          have hij : i ≠ j := fun e => by
            subst e
            rw [hoi] at k2
            cases k2
            rw [hdd] at k3
            cases k3
            exact htd rfl
          rw [getD_set_ne false hij]
          exact k4
    have hgo : ∀ (d : Nat), oi.dst = some d → StillOp P E ops env ob oi → oi.wp P a w (wpAny P .any ops Q (u + (ops.size - m)) (listed.setIfInBounds i true)) Q := by
      rintro d hdd ⟨d', hd', _, hop⟩
      rw [hdd] at hd'
      cases hd'
      refine Oper.wp_mono ?_ (hop ⟨midEnv ops m listed env, ob⟩ rfl (fun t ht => hsame t (List.elem_iff.1 ht)) a w Q hs)
      rintro a' w' ⟨s, h1, rfl⟩
      refine ih _ a' w' (inv.set hi him) hcnt (h1.le (hnext d _ hdd rfl (fun t ht => upd_ne _ _ ht) (.inr (upd_same _ _ _))))
    unfold wpOp
    simp only [hoi]
    unfold Still at hstill
    cases hg : oi.guard with
    | none =>
      rw [hg] at hstill
      obtain ⟨d, hd, h1, h2⟩ := hstill
      have hw : Region.wanted oi (yielded ops a.tmps) = true := by simp [Region.wanted, hg]
      rw [if_pos hw]
      exact .inl (hgo d hd ⟨d, hd, h1, h2⟩)
    | some jw =>
      obtain ⟨j, want⟩ := jw
      rw [hg] at hstill
      obtain ⟨t, uv, hj, ht, he, hyes, hno⟩ := hstill
      have htl : t ∈ oi.looksAt ops := by
        unfold Oper.looksAt
        rw [hg]
        simp [hj]
      obtain ⟨C, hs'⟩ := hs
      have hy := yielded_of hs' hj ht (by show midEnv ops m listed env t = _; rw [hsame t htl]; exact he)
      by_cases hb : yv uv = some want
      · have hw : Region.wanted oi (yielded ops a.tmps) = true := by simp [Region.wanted, hg, hy, hb]
        rw [if_pos hw]
        obtain ⟨d, hd, h1, h2⟩ := hyes hb
        exact .inl (hgo d hd ⟨d, hd, h1, h2⟩)
      · have hw : Region.wanted oi (yielded ops a.tmps) = false := by simp [Region.wanted, hg, hy, hb]
        rw [if_neg (by simp [hw])]
        obtain ⟨d, hd, hdN, hany⟩ := hno hb
        have hs2 : SRel E ⟨upd (midEnv ops m listed env) d (.v undef), ob⟩ (a.put oi.dst undef) w := by
          have := hs'.set oi.dst (fun d' hd' => by rw [hd] at hd'; cases hd'; exact hdN) (.v undef) undef (fun _ => .v _)
          rw [hd] at this ⊢
          exact ⟨C, this⟩
        exact ih _ _ w (inv.set hi him) hcnt (hs2.le (hnext d _ hd rfl (fun t ht => upd_ne _ _ ht) (hany.imp id (fun h => by rw [h]; exact upd_same _ _ _))))

theorem awp_draw {id m : Nat} {st : St} {Q : Exit → St → Prop} (vs : List (Nat × AV)) (hm : P.follows .mixedOrders = true) (hB : drawOk ops m (vs.map (·.1)) = true)
    (hst : Stills P E ops (ovl vs st.env) st.ob (ops.toList.take m)) (htail : AOps P E ops (ops.toList.drop m) ⟨ovl vs st.env, st.ob⟩ (fun s => Q .normal s)) : AWP P E (.region id ops true) st Q := by
  intro a w hs
  simp only [drawOk, Bool.and_eq_true, Bool.or_eq_true, beq_iff_eq, decide_eq_true_eq] at hB
  obtain ⟨⟨⟨⟨h1, h2⟩, h3⟩, h4⟩, h5⟩ := hB
  refine wp_region_any hm ?_
  have inv : HeadInv .any ops m (Array.replicate ops.size false) :=
    ⟨by simp, fun j oj _ hl => (by rw [getD_replicate_false] at hl; cases hl), fun t _ ht => getD_in (by simpa using ht) (getD_replicate_false _ _)⟩
  have hcnt : ∀ k, cnt (Array.replicate ops.size false) k = k := by
    intro k
    induction k with
    | zero => rfl
    | succ k ih => simp only [cnt]; rw [ih, getD_replicate_false]; simp
  have hs1 : SRel E st a { w with drawn := w.drawn + 1 } := by
    obtain ⟨C, hs⟩ := hs
    have hext : Ext w C { w with drawn := w.drawn + 1 } C := ⟨fun _ h => ⟨h, rfl, rfl, rfl⟩, fun _ _ h => h, fun _ _ _ => rfl⟩
    have := hs.put hext st.ob ⟨hs.obj.nil, fun id o b h1 h2 => ?_, hs.obj.inj, hs.obj.dom, hs.obj.bnd⟩ ⟨hs.fr.os, hs.fr.tape, hs.fr.output, hs.fr.size, hs.fr.block⟩ hs.fresh hs.keep hs.newown none (fun d h => by cases h) .any undef (fun h => absurd rfl h)
    · exact ⟨C, this⟩
    · obtain ⟨k1, cur, k2, k3, k4, k5⟩ := hs.obj.live id o b h1 h2
      refine ⟨k1, cur, k2, k3, k4, fun j av hj => ?_⟩
      obtain ⟨u, hu, k6, k7⟩ := k5 j av hj
      exact ⟨u, hu, k6, k7.ext hext⟩
  have hs2 : SRel E ⟨midEnv ops m (Array.replicate ops.size false) (ovl vs st.env), st.ob⟩ a { w with drawn := w.drawn + 1 } := by
    refine hs1.le ⟨fun t => ?_, fun id => .inl rfl⟩
    simp only [midEnv]
    by_cases hex : ∃ j o, j < m ∧ ops[j]? = some o ∧ o.dst = some t ∧ (Array.replicate ops.size false).getD j false = false
    · rw [if_pos hex]; exact .inl rfl
    · rw [if_neg hex]
      refine .inr (ovl_out fun hmem => ?_)
      have := List.all_eq_true.1 h2 t hmem
      obtain ⟨o, ho, hd⟩ := List.any_eq_true.1 this
      simp only [beq_iff_eq] at hd
      obtain ⟨j, hj⟩ := List.mem_iff_getElem?.1 ho
      rw [List.getElem?_take] at hj
      split at hj
      · rename_i hjm
        exact hex ⟨j, o, hjm, by simpa using hj, hd, getD_replicate_false _ _⟩
      · cases hj
  have := wpAny_head (P := P) (Q := fun e a' w' => ∃ st', SRel E st' a' w' ∧ Q e st') (K := fun s => Q .normal s) (fun st' a' w' k1 k2 => ⟨st', k1, k2⟩) h1 h3 h4 h5 hst htail m _ a _ inv (hcnt m) hs2
  rwa [show m + (ops.size - m) = ops.size by omega] at this
end
end Go.Lo
