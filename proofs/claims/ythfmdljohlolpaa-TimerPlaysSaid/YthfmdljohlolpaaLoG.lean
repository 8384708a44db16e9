/- Other names for what is one's own; loops; the frame of a proof, in the logic of values. -/
import Derived.Test.YthfmdljohlolpaaLoF
set_option linter.unusedVariables false
set_option linter.unusedSimpArgs false
namespace Go.Lo

theorem imp_adopt {E : Env0} {s : St} (d id e z : Nat) (hd : s.env d = .v (.slice none 0 0)) (hf : s.ob id = .free) : Imp E s ⟨upd s.env d (.sl id 0 0), updO s.ob id (.live ⟨[], e, z⟩)⟩ := fun _ _ h => h.adopt d id e z hd hf

/-- From old names to new ones. -/
def rn : List (Nat × Nat) → Nat → Nat
  | [], _ => 0
  | (o, n) :: r, x => cond (Nat.beq x o) n (rn r x)
def rnB : List (Nat × Nat) → Nat → Option Nat
  | [], _ => none
  | (o, n) :: r, x => cond (Nat.beq x n) (some o) (rnB r x)
theorem rn_back {ps : List (Nat × Nat)} {x : Nat} (hn : (ps.map (·.2)).Nodup) (h : x ∈ ps.map (·.1)) : rnB ps (rn ps x) = some x := by
  induction ps with
  | nil => simp at h
  | cons p r ih =>
    obtain ⟨o, n⟩ := p
    simp only [List.map_cons, List.nodup_cons] at hn
    simp only [rn, rnB]
    cases hb : Nat.beq x o with
    | true => simp [Nat.eq_of_beq_eq_true hb]
    | false =>
      have hxr : x ∈ r.map (·.1) := by
        rcases List.mem_cons.1 (by simpa using h : x ∈ o :: r.map (·.1)) with h1 | h1
        · subst h1; simp at hb
        · exact h1
      have h2 := ih hn.2 hxr
      simp only [cond_false]
      have hne : Nat.beq (rn r x) n = false := by
        cases hb2 : Nat.beq (rn r x) n with
        | false => rfl
        | true =>
          have he := Nat.eq_of_beq_eq_true hb2
          exfalso
          apply hn.1
          have mem : ∀ (l : List (Nat × Nat)), x ∈ l.map (·.1) → rn l x ∈ l.map (·.2) := by
            intro l
            induction l with
            | nil => intro h; simp at h
            | cons q l ihl =>
              obtain ⟨o', n'⟩ := q
              intro h
              simp only [rn]
              cases hb3 : Nat.beq x o' with
              | true => simp
              | false =>
                have : x ∈ l.map (·.1) := by
                  rcases List.mem_cons.1 (by simpa using h : x ∈ o' :: l.map (·.1)) with h1 | h1
                  · subst h1; simp at hb3
                  · exact h1
                simp only [cond_false, List.map_cons, List.mem_cons]
                exact .inr (ihl this)
          rw [← he]
          exact mem r hxr
      rw [hne]
      exact h2

theorem same_fst {ps : List (Nat × Nat)} (hn : (ps.map (·.1)).Nodup) {x y z : Nat} (h1 : (x, y) ∈ ps) (h2 : (x, z) ∈ ps) : y = z := by
  induction ps with
  | nil => cases h1
  | cons p r ih =>
    simp only [List.map_cons, List.nodup_cons] at hn
    rcases List.mem_cons.1 h1 with h1 | h1 <;> rcases List.mem_cons.1 h2 with h2 | h2
    · rw [← h1] at h2; cases h2; rfl
    · exact absurd (List.mem_map.2 ⟨_, h2, by rw [← h1]⟩) hn.1
    · exact absurd (List.mem_map.2 ⟨_, h1, by rw [← h2]⟩) hn.1
    · exact ih hn.2 h1 h2

/-- Slots, under new names. -/
def SlotR (ps : List (Nat × Nat)) (av av' : AV) : Prop :=
  av' = .any ∨ (av' = av ∧ NoId av) ∨ (Ok (· ∈ ps.map (·.1)) True av ∧ av.map (rn ps) = av')

structure LeR (ps : List (Nat × Nat)) (s s' : St) : Prop where
  nodup1 : (ps.map (·.1)).Nodup
  nodup : (ps.map (·.2)).Nodup
  env : ∀ t, SlotR ps (s.env t) (s'.env t)
  ob : ∀ id' o', s'.ob id' = .live o' → ∃ id o, (id, id') ∈ ps ∧ rnB ps id' = some id ∧ s.ob id = .live o ∧ o'.elem = o.elem ∧ o'.esz = o.esz ∧ ((o'.cells = o.cells ∧ NoIds o.cells) ∨ (o'.cells = AV.mapL (rn ps) o.cells ∧ ∀ c, c ∈ o.cells → Ok (· ∈ ps.map (·.1)) True c))
  live : ∀ id', id' ∈ ps.map (·.2) → s'.ob id' ≠ .free

theorem rn_in {ps : List (Nat × Nat)} {i : Nat} (hn : (ps.map (·.2)).Nodup) (h : (i, i) ∈ ps) : rnB ps i = some i := by
  induction ps with
  | nil => cases h
  | cons p r ih =>
    obtain ⟨o, n⟩ := p
    simp only [List.map_cons, List.nodup_cons] at hn
    simp only [rnB]
    rcases List.mem_cons.1 h with h1 | h1
    · cases h1; simp
    · cases hb : Nat.beq i n with
      | true =>
        have := Nat.eq_of_beq_eq_true hb
        subst this
        exact absurd (List.mem_map.2 ⟨_, h1, rfl⟩) hn.1
      | false => exact ih hn.2 h1
theorem keep_of {ps : List (Nat × Nat)} {m : Nat} (h : ((List.range m).all fun i => ps.any fun p => p.1 == i && p.2 == i) = true) : ∀ i, i < m → (i, i) ∈ ps := fun i hi => by
  have := List.all_eq_true.1 h i (List.mem_range.2 hi)
  obtain ⟨p, hp, h2⟩ := List.any_eq_true.1 this
  simp only [Bool.and_eq_true, beq_iff_eq] at h2
  obtain ⟨rfl, h3⟩ := h2
  obtain ⟨a, b⟩ := p
  simp only at h3
  subst h3
  exact hp
theorem imp_ler {E : Env0} {s s' : St} (ps : List (Nat × Nat)) (h : LeR ps s s') (hkp : ∀ i, i < E.m → (i, i) ∈ ps) : Imp E s s' := by
  rintro a w ⟨C, hs⟩
  let C2 : Ctx := ⟨fun i => (rnB ps i).bind C.blk, fun i => ((rnB ps i).map C.sz).getD (0, 0), fun i => ((rnB ps i).map C.esz).getD 0, fun i => i ∈ ps.map (·.2), C.own⟩
  have hmem : ∀ (l : List (Nat × Nat)) x, x ∈ l.map (·.1) → rn l x ∈ l.map (·.2) := by
    intro l x
    induction l with
    | nil => intro h; simp at h
    | cons q l ihl =>
      obtain ⟨o', n'⟩ := q
      intro h
      simp only [rn]
      cases hb3 : Nat.beq x o' with
      | true => simp
      | false =>
        have : x ∈ l.map (·.1) := by
          rcases List.mem_cons.1 (by simpa using h : x ∈ o' :: l.map (·.1)) with h1 | h1
          · subst h1; simp at hb3
          · exact h1
        simp only [cond_false, List.map_cons, List.mem_cons]
        exact .inr (ihl this)
  have hid : ∀ id, id ∈ ps.map (·.1) → C.dom id → C2.dom (rn ps id) ∧ C2.blk (rn ps id) = C.blk id ∧ C2.sz (rn ps id) = C.sz id ∧ C2.esz (rn ps id) = C.esz id := fun id hm _ => by
    have hb := rn_back h.nodup hm
    exact ⟨hmem ps id hm, by simp [C2, hb], by simp [C2, hb], by simp [C2, hb]⟩
  have hown : True → ∀ b, ¬ C.own b → ¬ C2.own b := fun _ b h => h
  have hmap : ∀ {av : AV} {u : Value}, R w C av u → Ok (· ∈ ps.map (·.1)) True av → R w C2 (av.map (rn ps)) u := fun hr hok => R.map hid hown hr hok
  have hno : ∀ {av : AV} {u : Value}, R w C av u → NoId av → R w C2 av u := fun hr hn => by
    have := R.map (C2 := C2) (σ := id) (p := fun _ => False) (ro := True) (fun _ h => h.elim) hown hr hn
    rwa [map_noId hn] at this
  refine ⟨C2, hs.size, hs.defers, fun t ht => ?_, ⟨fun i o hl => ?_, fun i o b hl hb => ?_, fun i i' o1 o2 b h1 h2 h3 h4 => ?_, fun i hi => h.live i hi, hs.obj.bnd⟩, hs.fr, fun i o b hl hb => ?_, hs.keep, hs.newown, fun i hi => ?_, hs.xbnd⟩
  · rcases h.env t with h1 | ⟨h1, h2⟩ | ⟨h1, h2⟩
    · rw [h1]; exact .any _
    · rw [h1]; exact hno (hs.env t ht) h2
    · rw [← h2]; exact hmap (hs.env t ht) h1
  · obtain ⟨id, o0, hp, hb, hl0, he, hz, hc⟩ := h.ob i o hl
    obtain ⟨k1, k2, k3⟩ := hs.obj.nil id o0 hl0
    refine ⟨List.mem_map.2 ⟨_, hp, rfl⟩, by simp [C2, hb, k2, hz], fun hbn => ?_⟩
    have : C.blk id = none := by simpa [C2, hb] using hbn
    have h0 := k3 this
    rcases hc with ⟨hc, _⟩ | ⟨hc, _⟩
    · rw [hc, h0]
    · rw [hc, h0]; rfl
  · obtain ⟨id, o0, hp, hb0, hl0, he, hz, hc⟩ := h.ob i o hl
    have hb' : C.blk id = some b := by simpa [C2, hb0] using hb
    obtain ⟨k1, cur, k2, k3, k4, k5⟩ := hs.obj.live id o0 b hl0 hb'
    refine ⟨k1, cur, by rw [he]; exact k2, by simp [C2, hb0, k3], ?_, fun j av hj => ?_⟩
    · rcases hc with ⟨hc, _⟩ | ⟨hc, _⟩
      · rw [hc]; simpa [C2, hb0] using k4
      · rw [hc, mapL_eq]; simpa [C2, hb0] using k4
    · rcases hc with ⟨hc, hn⟩ | ⟨hc, hn⟩
      · rw [hc] at hj
        obtain ⟨u, hu, k6, k7⟩ := k5 j av hj
        exact ⟨u, by simpa [C2, hb0] using hu, k6, hno k7 (hn av (List.mem_of_getElem? hj))⟩
      · rw [hc, mapL_eq, List.getElem?_map, Option.map_eq_some_iff] at hj
        obtain ⟨c, hj, rfl⟩ := hj
        obtain ⟨u, hu, k6, k7⟩ := k5 j c hj
        exact ⟨u, by simpa [C2, hb0] using hu, k6, hmap k7 (hn c (List.mem_of_getElem? hj))⟩
  · obtain ⟨id, p1, q1, r1, l1, _⟩ := h.ob i o1 h1
    obtain ⟨id2, p2, q2, r2, l2, _⟩ := h.ob i' o2 h2
    have e1 : C.blk id = some b := by simpa [C2, r1] using h3
    have e2 : C.blk id2 = some b := by simpa [C2, r2] using h4
    have e3 := hs.obj.inj id id2 p1 p2 b l1 l2 e1 e2
    subst e3
    exact same_fst h.nodup1 q1 q2
  · obtain ⟨id, o0, hp, hb0, hl0, _⟩ := h.ob i o hl
    have hb' : C.blk id = some b := by simpa [C2, hb0] using hb
    exact hs.fresh id o0 b hl0 hb'
  · have hp := hkp i hi
    have hb := rn_in h.nodup hp
    obtain ⟨k1, k2, k3, k4⟩ := hs.init i hi
    exact ⟨List.mem_map.2 ⟨_, hp, rfl⟩, by simp [C2, hb, k2], by simp [C2, hb, k3], by simp [C2, hb, k4]⟩
/-! building a state anew -/
theorem sr_none {ps : List (Nat × Nat)} {e : Nat → AV} : ∀ t, SlotR ps (e t) (none_ t) := fun _ => .inl rfl
theorem sr_same {ps : List (Nat × Nat)} {e e' : Nat → AV} (d : Nat) (av : AV) (hd : e d = av) (hn : NoId av) (h : ∀ t, SlotR ps (e t) (e' t)) : ∀ t, SlotR ps (e t) (upd e' d av t) := by
  intro t
  by_cases ht : t = d
  · subst ht
    rw [upd_same]
    exact .inr (.inl ⟨hd.symm, by rw [hd]; exact hn⟩)
  · rw [upd_ne _ _ ht]
    exact h t
theorem sr_map {ps : List (Nat × Nat)} {e e' : Nat → AV} (d : Nat) (av : AV) (hok : Ok (· ∈ ps.map (·.1)) True (e d)) (hd : (e d).map (rn ps) = av) (h : ∀ t, SlotR ps (e t) (e' t)) : ∀ t, SlotR ps (e t) (upd e' d av t) := by
  intro t
  by_cases ht : t = d
  · subst ht
    rw [upd_same]
    exact .inr (.inr ⟨hok, hd⟩)
  · rw [upd_ne _ _ ht]
    exact h t
def noOb : Nat → OSt := fun _ => .free
/-- One row: it was 'x', now it is 'y'. -/
theorem ler1 {s : St} {e' : Nat → AV} (x y : Nat) (o o' : LObj) (hl : s.ob x = .live o) (hoo : o' = o) (hn : NoIds o.cells) (he : ∀ t, SlotR [(x, y)] (s.env t) (e' t)) : LeR [(x, y)] s ⟨e', updO noOb y (.live o')⟩ := by
  subst hoo
  refine ⟨by simp, by simp, he, fun id' o1 h => ?_, fun id' h => ?_⟩
  · by_cases hi : id' = y
    · subst hi
      have h' : updO noOb id' (.live o') id' = .live o1 := h
      rw [updO_same] at h'
      cases h'
      exact ⟨x, o', by simp, by simp [rnB], hl, rfl, rfl, .inl ⟨rfl, hn⟩⟩
    · have h' : updO noOb y (.live o') id' = .live o1 := h
      rw [updO_ne _ _ hi] at h'
      cases h'
  · simp at h
    subst h
    show updO noOb id' (.live o') id' ≠ _
    rw [updO_same]
    intro h; cases h
/-- Nothing of one's own is kept. -/
theorem ler0 {s : St} {e' : Nat → AV} (he : ∀ t, SlotR [] (s.env t) (e' t)) : LeR [] s ⟨e', noOb⟩ :=
  ⟨by simp, by simp, he, (fun id' o1 h => by cases h), (fun id' h => by simp at h)⟩
/-- Two rows. -/
theorem ler2 {s : St} {e' : Nat → AV} (x y x2 y2 : Nat) (o o' o2 o2' : LObj) (hx : x ≠ x2) (hy : y ≠ y2) (hl : s.ob x = .live o) (hl2 : s.ob x2 = .live o2) (hoo : o' = o) (hoo2 : o2' = o2) (hn : NoIds o.cells) (hn2 : NoIds o2.cells)
    (he : ∀ t, SlotR [(x, y), (x2, y2)] (s.env t) (e' t)) : LeR [(x, y), (x2, y2)] s ⟨e', updO (updO noOb y (.live o')) y2 (.live o2')⟩ := by
  subst hoo
  subst hoo2
  have hyb : Nat.beq y2 y = false := by
    cases hb : Nat.beq y2 y with
    | false => rfl
    | true => exact absurd (Nat.eq_of_beq_eq_true hb).symm hy
  refine ⟨by simp [hx], by simp [hy], he, fun id' o1 h => ?_, fun id' h => ?_⟩
  · have h' : updO (updO noOb y (.live o')) y2 (.live o2') id' = .live o1 := h
    by_cases hi2 : id' = y2
    · subst hi2
      rw [updO_same] at h'
      cases h'
      exact ⟨x2, o2', by simp, by simp [rnB, hyb], hl2, rfl, rfl, .inl ⟨rfl, hn2⟩⟩
    · rw [updO_ne _ _ hi2] at h'
      by_cases hi : id' = y
      · subst hi
        rw [updO_same] at h'
        cases h'
        exact ⟨x, o', by simp, by simp [rnB], hl, rfl, rfl, .inl ⟨rfl, hn⟩⟩
      · rw [updO_ne _ _ hi] at h'
        cases h'
  · show updO (updO noOb y (.live o')) y2 (.live o2') id' ≠ _
    by_cases hi2 : id' = y2
    · subst hi2; rw [updO_same]; intro h; cases h
    · rw [updO_ne _ _ hi2]
      have : id' = y := by simpa [hi2] using h
      subst this
      rw [updO_same]; intro h; cases h

section
variable {P : Program} {E : Env0} {st : St} {Q : Exit → St → Prop}

theorem AWP.imp {c : Code} {s s' : St} (h : AWP P E c s' Q) (hl : Imp E s s') : AWP P E c s Q := fun a w hs => h a w (hl a w hs)
theorem awp_imp {c : Code} (s' : St) (hl : Imp E st s') (h : AWP P E c s' Q) : AWP P E c st Q := fun a w hs => h a w (hl a w hs)

/-- A loop: a family of states; each round ends in one of a smaller measure, or leaves. -/
theorem awp_loopI {ι : Type} {c : Code} (I : ι → St) (μ : ι → Nat) (i0 : ι) (h0 : Imp E st (I i0))
    (round : ∀ i, AWP P E c (I i) (thenQ (fun s => ∃ j, μ j < μ i ∧ Imp E s (I j)) Q)) : AWP P E (.loop c) st Q := by
  intro a w hs
  refine wp_loop_ix (fun i a w => SRel E (I i) a w) μ (fun i a w hi => ?_) i0 a w (h0 a w hs)
  refine wp_mono (round i a w hi) ?_
  rintro e a' w' ⟨s, h1, h2⟩
  cases e with
  | normal =>
    obtain ⟨j, hj, hl⟩ := h2
    exact ⟨j, hj, hl a' w' h1⟩
  | _ => exact ⟨s, h1, h2⟩

/-- A loop from 0 on. -/
theorem awp_count {c : Code} (I : Nat → St) (n : Nat) (h0 : Imp E st (I 0))
    (round : ∀ k, k ≤ n → AWP P E c (I k) (thenQ (fun s => k < n ∧ Imp E s (I (k + 1))) Q)) : AWP P E (.loop c) st Q := by
  refine awp_loopI (ι := { k : Nat // k ≤ n }) (fun k => I k.1) (fun k => n - k.1) ⟨0, Nat.zero_le _⟩ h0 (fun k => ?_)
  refine AWP.mono (round k.1 k.2) (fun e s h => ?_)
  cases e with
  | normal =>
    obtain ⟨h1, h2⟩ := h
    exact ⟨⟨k.1 + 1, h1⟩, by show n - (k.1 + 1) < n - k.1; omega, h2⟩
  | _ => exact h

/-- A loop from 0 on, of whose counter something is known. -/
theorem awp_countI {c : Code} (I : Nat → St) (Inv : Nat → Prop) (n : Nat) (h0 : Imp E st (I 0)) (hi : Inv 0)
    (round : ∀ k, k ≤ n → Inv k → AWP P E c (I k) (thenQ (fun s => k < n ∧ Inv (k + 1) ∧ Imp E s (I (k + 1))) Q)) : AWP P E (.loop c) st Q := by
  refine awp_loopI (ι := { k : Nat // k ≤ n ∧ Inv k }) (fun k => I k.1) (fun k => n - k.1) ⟨0, Nat.zero_le _, hi⟩ h0 (fun k => ?_)
  refine AWP.mono (round k.1 k.2.1 k.2.2) (fun e s h => ?_)
  cases e with
  | normal =>
    obtain ⟨h1, h2, h3⟩ := h
    exact ⟨⟨k.1 + 1, h1, h2⟩, by show n - (k.1 + 1) < n - k.1; omega, h3⟩
  | _ => exact h

/-! the code, piece by piece -/
theorem seqR {id : Nat} {ops : Array Oper} {y : Code} (h : AOps P E ops ops.toList st (fun s => AWP P E y s Q)) : AWP P E (.seq (.region id ops false) y) st Q := awp_seq (awp_region h)
theorem regR {id : Nat} {ops : Array Oper} (h : AOps P E ops ops.toList st (fun s => Q .normal s)) : AWP P E (.region id ops false) st Q := awp_region h
theorem opG {ops : Array Oper} {o : Oper} {r : List Oper} {K : St → Prop} (hg : o.guard = none) (h : AOp P E o st fun s => AOps P E ops r s K) : AOps P E ops (o :: r) st K := by
  unfold AOps
  refine ⟨st, Imp.refl E st, ?_⟩
  rw [hg]
  exact h
theorem opY {ops : Array Oper} {o : Oper} {r : List Oper} {K : St → Prop} {j t : Nat} {want : Bool} (hg : o.guard = some (j, want)) (hj : (ops[j]?).bind (·.dst) = some t) (ht : Nat.blt t E.N = true) (he : st.env t = .v (.bool want)) (h : AOp P E o st fun s => AOps P E ops r s K) : AOps P E ops (o :: r) st K := by
  unfold AOps
  refine ⟨st, Imp.refl E st, ?_⟩
  rw [hg]
  exact ⟨t, .bool want, hj, blt_lt ht, he, fun _ => h, fun hne => absurd rfl hne⟩
/-- A guarded operation that doesn't come up. -/
theorem opN {ops : Array Oper} {o : Oper} {r : List Oper} {K : St → Prop} {j t d : Nat} {want : Bool} {u : Value} (hg : o.guard = some (j, want)) (hj : (ops[j]?).bind (·.dst) = some t) (ht : Nat.blt t E.N = true) (he : st.env t = .v u) (hu : yv u ≠ some want) (hd : o.dst = some d) (hdN : Nat.blt d E.N = true)
    (h : AOps P E ops r ⟨upd st.env d (.v undef), st.ob⟩ K) : AOps P E ops (o :: r) st K := by
  unfold AOps
  refine ⟨st, Imp.refl E st, ?_⟩
  rw [hg]
  refine ⟨t, u, hj, blt_lt ht, he, fun h => absurd h hu, fun _ => ⟨fun d' hd' => by rw [hd] at hd'; cases hd'; exact blt_lt hdN, ?_⟩⟩
  rw [hd]
  exact h
theorem op0 {ops : Array Oper} {K : St → Prop} (h : K st) : AOps P E ops [] st K := ⟨st, Imp.refl E st, h⟩
theorem aops_append {ops : Array Oper} {l2 : List Oper} {K : St → Prop} {mid : St} (h2 : AOps P E ops l2 mid K) (l1 : List Oper) : ∀ (st : St), AOps P E ops l1 st (fun s => Imp E s mid) → AOps P E ops (l1 ++ l2) st K := by
  induction l1 with
  | nil =>
    rintro st ⟨s, h1, h3⟩
    exact ops_imp (h1.trans h3) h2
  | cons o r ih =>
    intro st h
    rw [List.cons_append]
    unfold AOps at h ⊢
    obtain ⟨s0, hi, h⟩ := h
    refine ⟨s0, hi, ?_⟩
    cases hg : o.guard with
    | none => rw [hg] at h; exact AOp.mono h (fun s hs => ih s hs)
    | some jw =>
      rw [hg] at h
      obtain ⟨t, u, h1, h2, h3, h4, h5⟩ := h
      exact ⟨t, u, h1, h2, h3, fun hu => AOp.mono (h4 hu) (fun s hs => ih s hs), fun hu => ⟨(h5 hu).1, ih _ (h5 hu).2⟩⟩
/-- The operations up to here end in what is weaker; from there on. -/
theorem aops_cut {ops : Array Oper} {l : List Oper} {K : St → Prop} (n : Nat) (mid : St) (h1 : AOps P E ops (l.take n) st (fun s => Imp E s mid)) (h2 : AOps P E ops (l.drop n) mid K) : AOps P E ops l st K := by
  have := aops_append h2 (l.take n) st h1
  rwa [List.take_append_drop] at this
/-- Operations of which one slot is wanted. -/
theorem aops_grp {ops : Array Oper} {l : List Oper} {K : St → Prop} (n d : Nat) (av : AV) (h1 : AOps P E ops (l.take n) st (fun s => Imp E s ⟨upd st.env d av, st.ob⟩)) (h2 : AOps P E ops (l.drop n) ⟨upd st.env d av, st.ob⟩ K) : AOps P E ops l st K :=
  aops_cut n _ h1 h2
/-- 'x; y', x ending in what is weaker. -/
theorem seqCut {x y : Code} (mid : St) (h1 : AWP P E x st (thenQ (fun s => Imp E s mid) Q)) (h2 : AWP P E y mid Q) : AWP P E (.seq x y) st Q := by
  refine awp_seq (h1.mono fun e s h => ?_)
  cases e with
  | normal => exact h2.imp h
  | _ => exact h

/-! weaker states -/
theorem imp_env {e e' : Nat → AV} {o : Nat → OSt} (h : ∀ t, e' t = .any ∨ e' t = e t) : Imp E ⟨e, o⟩ ⟨e', o⟩ := imp_le ⟨h, fun _ => .inl rfl⟩
/-- A slot that held nothing known may be written. -/
theorem lee_out {e e' : Nat → AV} (d : Nat) (av : AV) (hd : e' d = .any) (h : ∀ t, e' t = .any ∨ e' t = e t) : ∀ t, e' t = .any ∨ e' t = upd e d av t := by
  intro t
  by_cases ht : t = d
  · subst ht; exact .inl hd
  · rw [upd_ne _ _ ht]; exact h t
theorem lee_both {e e' : Nat → AV} (d : Nat) (av av' : AV) (hav : av' = av) (h : ∀ t, e' t = .any ∨ e' t = e t) : ∀ t, upd e' d av' t = .any ∨ upd e' d av' t = upd e d av t := by
  intro t
  by_cases ht : t = d
  · subst ht; rw [upd_same, upd_same]; exact .inr hav
  · rw [upd_ne _ _ ht, upd_ne _ _ ht]; exact h t
theorem lee_same (e : Nat → AV) : ∀ t, e t = .any ∨ e t = e t := fun _ => .inr rfl
end
end Go.Lo
