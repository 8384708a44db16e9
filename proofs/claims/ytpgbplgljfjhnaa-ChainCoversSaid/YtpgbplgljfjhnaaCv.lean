/- A train that goes on, plain: it is within its span. -/
import Derived.Test.YtpgbplgljfjhnaaSp
set_option linter.unusedVariables false
set_option linter.unusedSimpArgs false
namespace Go.Lo
/-- A train that goes on: how many sections it has entered, how far it is to the end, what is left of a tick. -/
structure CV where
  j : Nat
  a : Int
  mt : Int
section
variable (secs : List Sec) (pts : List Pnt) (right : List Bool) (trail : List Int) (dir : Int)
def qK (j : Nat) : RS := rsK secs pts right (rs0 trail dir 0) j
def cvB (j : Nat) : Bool := nextB secs pts right (qK secs pts right trail dir j).s (qK secs pts right trail dir j).e && !decide ((nextV secs pts right (qK secs pts right trail dir j).s (qK secs pts right trail dir j).e).sec ∈ trail ++ (qK secs pts right trail dir j).ahead)
def cvJ (c : CV) : Nat := if c.a = 0 then c.j + 1 else c.j
def cvA (c : CV) : Int := if c.a = 0 then lenI secs (qK secs pts right trail dir (c.j + 1)).s else c.a
def cvM (c : CV) : Int := if c.mt > cvA secs pts right trail dir c then cvA secs pts right trail dir c else c.mt
def cvN (c : CV) : CV := ⟨cvJ c, cvA secs pts right trail dir c - cvM secs pts right trail dir c, c.mt - cvM secs pts right trail dir c⟩
def cvStop (c : CV) : Bool := decide (c.mt ≤ 0) || (decide (c.a = 0) && !cvB secs pts right trail dir c.j)
def cvK (c : CV) : Nat → CV
  | 0 => c
  | k + 1 => cvN secs pts right trail dir (cvK c k)
def cvRun : Nat → CV → CV
  | 0, c => c
  | n + 1, c => if cvStop secs pts right trail dir c then c else cvRun n (cvN secs pts right trail dir c)
def cvIn (c : CV) : CV := cvRun secs pts right trail dir c.mt.toNat c
def mtI (steps : List Int) (sp : Int) (i : Nat) : Int := steps.getD i 0 * sp / 255
def cvO (steps : List Int) (sp ahd : Int) : Nat → CV
  | 0 => ⟨0, ahd, 0⟩
  | i + 1 => cvIn secs pts right trail dir ⟨(cvO steps sp ahd i).j, (cvO steps sp ahd i).a, mtI steps sp i⟩
def cvC (steps : List Int) (sp ahd : Int) (i : Nat) : CV := ⟨(cvO secs pts right trail dir steps sp ahd i).j, (cvO secs pts right trail dir steps sp ahd i).a, mtI steps sp i⟩
end
section
variable {secs : List Sec} {pts : List Pnt} {right : List Bool} {trail : List Int} {dir : Int}
theorem cv_done {n : Nat} {c F : CV} (h : cvRun secs pts right trail dir n c = F) (hs : cvStop secs pts right trail dir c = true) : c = F := by
  cases n with
  | zero => exact h
  | succ n => rw [← h]; unfold cvRun; rw [if_pos hs]
theorem cv_go {N k : Nat} {c F : CV} (h : cvRun secs pts right trail dir (N - k) c = F) (hs : cvStop secs pts right trail dir c = false) (hk : k < N) : cvRun secs pts right trail dir (N - (k + 1)) (cvN secs pts right trail dir c) = F := by
  rw [show N - k = (N - (k + 1)) + 1 by omega] at h
  rw [← h]
  conv => rhs; unfold cvRun
  rw [if_neg (by simp [hs])]
theorem cv_m {c : CV} (h : c.mt ≤ 0) : cvStop secs pts right trail dir c = true := by unfold cvStop; rw [decide_eq_true h]; rfl
theorem cv_b {c : CV} (h : c.a = 0) (hb : cvB secs pts right trail dir c.j = false) : cvStop secs pts right trail dir c = true := by unfold cvStop; rw [decide_eq_true h, hb]; simp
theorem cv_no {c : CV} (h1 : ¬ c.mt ≤ 0) (h2 : c.a = 0 → cvB secs pts right trail dir c.j = true) : cvStop secs pts right trail dir c = false := by
  unfold cvStop
  rw [decide_eq_false h1, Bool.false_or]
  by_cases h : c.a = 0
  · rw [h2 h]; simp
  · rw [decide_eq_false h]; rfl
theorem cvJ_t {c : CV} (h : c.a = 0) : cvJ c = c.j + 1 := by unfold cvJ; rw [if_pos h]
theorem cvJ_f {c : CV} (h : ¬ c.a = 0) : cvJ c = c.j := by unfold cvJ; rw [if_neg h]
theorem cvA_t {c : CV} (h : c.a = 0) : cvA secs pts right trail dir c = lenI secs (qK secs pts right trail dir (c.j + 1)).s := by unfold cvA; rw [if_pos h]
theorem cvA_f {c : CV} (h : ¬ c.a = 0) : cvA secs pts right trail dir c = c.a := by unfold cvA; rw [if_neg h]
theorem cvM_t {c : CV} (h : c.mt > cvA secs pts right trail dir c) : cvA secs pts right trail dir c = cvM secs pts right trail dir c := by unfold cvM; rw [if_pos h]
theorem cvM_f {c : CV} (h : ¬ c.mt > cvA secs pts right trail dir c) : c.mt = cvM secs pts right trail dir c := by unfold cvM; rw [if_neg h]
theorem cvB_iff {j : Nat} : cvB secs pts right trail dir j = true ↔ (nextB secs pts right (qK secs pts right trail dir j).s (qK secs pts right trail dir j).e = true ∧ ¬ (nextV secs pts right (qK secs pts right trail dir j).s (qK secs pts right trail dir j).e).sec ∈ trail ∧ ¬ (nextV secs pts right (qK secs pts right trail dir j).s (qK secs pts right trail dir j).e).sec ∈ (qK secs pts right trail dir j).ahead) := by
  unfold cvB
  simp only [Bool.and_eq_true, Bool.not_eq_true', decide_eq_false_iff_not, List.mem_append, not_or]
/-- The rounds of a span, with another number of metres. -/
theorem rsK_same {dir m1 m2 : Int} : ∀ k, (rsK secs pts right (rs0 trail dir m1) k).ahead = (rsK secs pts right (rs0 trail dir m2) k).ahead ∧ (rsK secs pts right (rs0 trail dir m1) k).s = (rsK secs pts right (rs0 trail dir m2) k).s ∧ (rsK secs pts right (rs0 trail dir m1) k).e = (rsK secs pts right (rs0 trail dir m2) k).e ∧
    (rsK secs pts right (rs0 trail dir m1) k).m - m1 = (rsK secs pts right (rs0 trail dir m2) k).m - m2
  | 0 => ⟨rfl, rfl, rfl, by show m1 - m1 = m2 - m2; omega⟩
  | k + 1 => by
    obtain ⟨h1, h2, h3, h4⟩ := rsK_same (dir := dir) (m1 := m1) (m2 := m2) k
    simp only [rsK, rsN, h1, h2, h3, true_and]
    omega
/-- What is known of a train that goes on; 'b': how far it may have come. -/
structure CvOk (secs : List Sec) (pts : List Pnt) (right : List Bool) (trail : List Int) (dir ahd b : Int) (c : CV) : Prop where
  go : ∀ k, k < c.j → cvB secs pts right trail dir k = true
  a0 : 0 ≤ c.a
  aj : 0 < c.j → c.a < lenI secs (qK secs pts right trail dir c.j).s
  am : c.a ≤ 1000000
  mt : 0 ≤ c.mt
  far : ahd - (qK secs pts right trail dir c.j).m - c.a + c.mt ≤ b
theorem q_ok {j : Nat} (h : ∀ k, k < j → cvB secs pts right trail dir k = true) : RsOk secs trail (qK secs pts right trail dir j) := by
  have key : ∀ (j : Nat), (∀ k, k < j → cvB secs pts right trail dir k = true) → RsOk secs trail (rsK secs pts right (rs0 trail dir ((secs.length : Int) * 65536 + 1)) j) ∧ True := by
    intro j
    induction j with
    | zero => intro _; exact ⟨rsOk0 _ _ _ _ _, trivial⟩
    | succ j ih =>
      intro h
      have h1 := (ih fun k hk => h k (by omega)).1
      have h2 := cvB_iff.1 (h j (by omega))
      have hs := rsK_same (secs := secs) (pts := pts) (right := right) (trail := trail) (dir := dir) (m1 := (secs.length : Int) * 65536 + 1) (m2 := 0) j
      have hx := (nextV_in h2.1).1
      refine ⟨⟨?_, fun x hx' => ?_, fun x hx' => ?_⟩, trivial⟩
      · show ((rsK secs pts right (rs0 trail dir ((secs.length : Int) * 65536 + 1)) j).ahead ++ [_]).Nodup
        refine List.nodup_append.2 ⟨h1.nd, List.nodup_cons.2 ⟨by simp, List.nodup_nil⟩, fun a ha b hb e => ?_⟩
        rw [List.mem_singleton.1 hb, hs.2.1, hs.2.2.1] at e
        rw [e, hs.1] at ha
        exact h2.2.2 ha
      · rcases List.mem_append.1 (show x ∈ (rsK secs pts right (rs0 trail dir ((secs.length : Int) * 65536 + 1)) j).ahead ++ [_] from hx') with h5 | h5
        · exact h1.rg x h5
        · rw [List.mem_singleton.1 h5, hs.2.1, hs.2.2.1]; exact hx
      · rcases List.mem_append.1 (show x ∈ (rsK secs pts right (rs0 trail dir ((secs.length : Int) * 65536 + 1)) j).ahead ++ [_] from hx') with h5 | h5
        · exact h1.nt x h5
        · rw [List.mem_singleton.1 h5, hs.2.1, hs.2.2.1]; exact h2.2.1
  have h1 := (key j h).1
  have hs := rsK_same (secs := secs) (pts := pts) (right := right) (trail := trail) (dir := dir) (m1 := (secs.length : Int) * 65536 + 1) (m2 := 0) j
  exact ⟨by rw [qK, ← hs.1]; exact h1.nd, fun x hx => h1.rg x (by rw [hs.1]; exact hx), fun x hx => h1.nt x (by rw [hs.1]; exact hx)⟩
theorem q_len {j : Nat} (h : ∀ k, k < j → cvB secs pts right trail dir k = true) : j ≤ secs.length := by
  have := (q_ok h).len
  rwa [qK, rsK_len _ rfl] at this
theorem cvN_ok {ahd b : Int} {c : CV} (hlen : ∀ x, x ∈ secs → 1 ≤ x.len ∧ x.len ≤ 65536) (h : CvOk secs pts right trail dir ahd b c) (hs : cvStop secs pts right trail dir c = false) : CvOk secs pts right trail dir ahd b (cvN secs pts right trail dir c) ∧ (cvN secs pts right trail dir c).mt ≤ c.mt - 1 := by
  have hm0 : ¬ c.mt ≤ 0 := fun hc => by rw [cv_m hc] at hs; cases hs
  have h1 := h.a0
  have h2 := h.am
  have h4 := h.far
  by_cases ha : c.a = 0
  · have hb : cvB secs pts right trail dir c.j = true := by
      cases hb : cvB secs pts right trail dir c.j with
      | true => rfl
      | false => rw [cv_b ha hb] at hs; cases hs
    have hx := (nextV_in (cvB_iff.1 hb).1).1
    have hl : 1 ≤ lenI secs (qK secs pts right trail dir (c.j + 1)).s ∧ lenI secs (qK secs pts right trail dir (c.j + 1)).s ≤ 65536 := lenI_in hlen hx
    have hqm : (qK secs pts right trail dir (c.j + 1)).m = (qK secs pts right trail dir c.j).m - lenI secs (qK secs pts right trail dir (c.j + 1)).s := rfl
    have hA : cvA secs pts right trail dir c = lenI secs (qK secs pts right trail dir (c.j + 1)).s := cvA_t ha
    have hM : cvM secs pts right trail dir c = if c.mt > lenI secs (qK secs pts right trail dir (c.j + 1)).s then lenI secs (qK secs pts right trail dir (c.j + 1)).s else c.mt := by unfold cvM; rw [hA]
    have hM2 : 1 ≤ cvM secs pts right trail dir c ∧ cvM secs pts right trail dir c ≤ lenI secs (qK secs pts right trail dir (c.j + 1)).s ∧ cvM secs pts right trail dir c ≤ c.mt := by rw [hM]; split <;> omega
    have hJ : (cvN secs pts right trail dir c).j = c.j + 1 := cvJ_t ha
    have hna : (cvN secs pts right trail dir c).a = lenI secs (qK secs pts right trail dir (c.j + 1)).s - cvM secs pts right trail dir c := by show cvA secs pts right trail dir c - _ = _; rw [hA]
    have hnm : (cvN secs pts right trail dir c).mt = c.mt - cvM secs pts right trail dir c := rfl
    refine ⟨⟨fun k hk => ?_, by rw [hna]; omega, fun _ => by rw [hna, hJ]; omega, by rw [hna]; omega, by rw [hnm]; omega, ?_⟩, by rw [hnm]; omega⟩
    · rw [hJ] at hk
      rcases Nat.lt_or_ge k c.j with h6 | h6
      · exact h.go k h6
      · rw [show k = c.j by omega]; exact hb
    · rw [hJ, hna, hnm, hqm]; omega
  · have hA : cvA secs pts right trail dir c = c.a := cvA_f ha
    have hM : cvM secs pts right trail dir c = if c.mt > c.a then c.a else c.mt := by unfold cvM; rw [hA]
    have hM2 : 1 ≤ cvM secs pts right trail dir c ∧ cvM secs pts right trail dir c ≤ c.a ∧ cvM secs pts right trail dir c ≤ c.mt := by rw [hM]; split <;> omega
    have hJ : (cvN secs pts right trail dir c).j = c.j := cvJ_f ha
    have hna : (cvN secs pts right trail dir c).a = c.a - cvM secs pts right trail dir c := by show cvA secs pts right trail dir c - _ = _; rw [hA]
    have hnm : (cvN secs pts right trail dir c).mt = c.mt - cvM secs pts right trail dir c := rfl
    refine ⟨⟨fun k hk => h.go k (by rw [hJ] at hk; exact hk), by rw [hna]; omega, fun h0 => ?_, by rw [hna]; omega, by rw [hnm]; omega, ?_⟩, by rw [hnm]; omega⟩
    · rw [hJ] at h0 ⊢; rw [hna]; have := h.aj h0; omega
    · rw [hJ, hna, hnm]; omega
theorem cvRun_ok {ahd b : Int} (hlen : ∀ x, x ∈ secs → 1 ≤ x.len ∧ x.len ≤ 65536) : ∀ (n : Nat) (c : CV), CvOk secs pts right trail dir ahd b c → CvOk secs pts right trail dir ahd b (cvRun secs pts right trail dir n c)
  | 0, c, h => h
  | n + 1, c, h => by
    unfold cvRun
    split
    · exact h
    · rename_i hs
      exact cvRun_ok hlen n _ (cvN_ok hlen h (by simpa using hs)).1
theorem CvOk.next {ahd b mt b2 : Int} {c : CV} (h : CvOk secs pts right trail dir ahd b c) (hm : 0 ≤ mt) (hb : b + mt ≤ b2) : CvOk secs pts right trail dir ahd b2 ⟨c.j, c.a, mt⟩ :=
  ⟨h.go, h.a0, h.aj, h.am, hm, by have := h.far; have := h.mt; show ahd - (qK secs pts right trail dir c.j).m - c.a + mt ≤ b2; omega⟩
theorem mtI_ok {steps : List Int} {sp : Int} {i : Nat} (hs : ∀ x, x ∈ steps → 0 ≤ x ∧ x ≤ 255) (hi : i < steps.length) (hsp : 0 ≤ sp ∧ sp ≤ 100000) : (0 ≤ steps.getD i 0 * sp ∧ steps.getD i 0 * sp ≤ 25500000) ∧ 0 ≤ mtI steps sp i ∧ mtI steps sp i ≤ sp := by
  have h1 := hs _ (getD_mem 0 hi)
  have h2 : 0 ≤ steps.getD i 0 * sp := Int.mul_nonneg h1.1 hsp.1
  have h3 : steps.getD i 0 * sp ≤ 255 * sp := Int.mul_le_mul_of_nonneg_right h1.2 hsp.1
  unfold mtI
  generalize steps.getD i 0 * sp = q at h2 h3
  omega
theorem cvO_ok {steps : List Int} {sp ahd : Int} (hlen : ∀ x, x ∈ secs → 1 ≤ x.len ∧ x.len ≤ 65536) (hs : ∀ x, x ∈ steps → 0 ≤ x ∧ x ≤ 255) (hsp : 0 ≤ sp ∧ sp ≤ 100000) (ha : 0 ≤ ahd ∧ ahd ≤ 1000000) : ∀ (i : Nat), i ≤ steps.length → CvOk secs pts right trail dir ahd ((i : Int) * sp) (cvO secs pts right trail dir steps sp ahd i)
  | 0, _ => ⟨fun k hk => absurd hk (Nat.not_lt_zero k), ha.1, fun h => absurd h (Nat.lt_irrefl 0), ha.2, Int.le_refl 0, by show ahd - 0 - ahd + 0 ≤ (0 : Nat) * sp; simp⟩
  | i + 1, hi => by
    have ih := cvO_ok hlen hs hsp ha i (by omega)
    have hm := (mtI_ok hs (show i < steps.length by omega) hsp).2
    refine cvRun_ok hlen _ _ (ih.next hm.1 ?_)
    have : ((i + 1 : Nat) : Int) * sp = (i : Int) * sp + sp := by rw [show ((i + 1 : Nat) : Int) = (i : Int) + 1 by omega, Int.add_mul, Int.one_mul]
    rw [this]; omega
/-- THE LAW: where the train is lies within its span. -/
theorem cover_law {ahd b m : Int} {c : CV} (ht : 0 < trail.length) (hlen : ∀ x, x ∈ secs → 1 ≤ x.len ∧ x.len ≤ 65536) (h : CvOk secs pts right trail dir ahd b c) (hb : b - ahd ≤ m) : (qK secs pts right trail dir c.j).s ∈ spanF secs pts right trail dir m := by
  rw [(reach_some (secs := secs) (pts := pts) (right := right) (dir := dir) (m := m) (show ¬ trail.length = 0 by omega)).1, mem_rsL]
  cases hj : c.j with
  | zero => exact .inl (getD_mem 0 ht)
  | succ j =>
    right
    -- no round ahead of the j-th one stops
    have hqm : ∀ k, k ≤ j → (qK secs pts right trail dir j).m ≤ (qK secs pts right trail dir k).m := by
      intro k hk
      obtain ⟨t, rfl⟩ : ∃ t, j = k + t := ⟨j - k, by omega⟩
      have key : ∀ t, k + t ≤ c.j → (qK secs pts right trail dir (k + t)).m ≤ (qK secs pts right trail dir k).m := by
        intro t
        induction t with
        | zero => intro _; exact Int.le_refl _
        | succ t ih =>
          intro h0
          have hx := (nextV_in (cvB_iff.1 (h.go (k + t) (by omega))).1).1
          have hl : 1 ≤ lenI secs (qK secs pts right trail dir (k + t + 1)).s ∧ _ := lenI_in hlen hx
          have e : (qK secs pts right trail dir (k + t + 1)).m = (qK secs pts right trail dir (k + t)).m - lenI secs (qK secs pts right trail dir (k + t + 1)).s := rfl
          have := ih (by omega)
          show (qK secs pts right trail dir (k + t + 1)).m ≤ _
          omega
      exact key t (by omega)
    have hfar := h.far
    have haj := h.aj (by omega)
    have hmt := h.mt
    rw [hj] at hfar haj
    have e : (qK secs pts right trail dir (j + 1)).m = (qK secs pts right trail dir j).m - lenI secs (qK secs pts right trail dir (j + 1)).s := rfl
    have hpos : 0 < m + (qK secs pts right trail dir j).m := by omega
    have hgo : ∀ k, k < j + 1 → rsStop secs pts right trail (rsK secs pts right (rs0 trail dir m) k) = false := by
      intro k hk
      obtain ⟨h1, h2, h3, h4⟩ := rsK_same (secs := secs) (pts := pts) (right := right) (trail := trail) (dir := dir) (m1 := m) (m2 := 0) k
      have hb2 := cvB_iff.1 (h.go k (by omega))
      have h5 := hqm k (by omega)
      exact rs_no (by show ¬ _ ≤ _; unfold qK at h5 hpos; omega) (by rw [h2, h3]; exact hb2.1) (by rw [h2, h3]; exact hb2.2.1) (by rw [h2, h3, h1]; exact hb2.2.2)
    have hrun : ∀ k, k ≤ j + 1 → k ≤ m.toNat ∧ rsRun secs pts right trail (m.toNat - k) (rsK secs pts right (rs0 trail dir m) k) = reachF secs pts right trail dir m := by
      intro k
      induction k with
      | zero => intro _; exact ⟨by omega, rfl⟩
      | succ k ih =>
        intro hk
        obtain ⟨i1, i2⟩ := ih (by omega)
        have hs := hgo k (by omega)
        have hm1 := (rsStop_iff.1 hs).1
        have hkm : (rsK secs pts right (rs0 trail dir m) k).m ≤ m - (k : Int) := by
          have key : ∀ t, t ≤ k → (rsK secs pts right (rs0 trail dir m) t).m ≤ m - (t : Int) := by
            intro t
            induction t with
            | zero => intro _; show m ≤ _; omega
            | succ t iht =>
              intro h0
              have hx := (nextV_in (rsStop_iff.1 (hgo t (by omega))).2.1).1
              have hl := lenI_in hlen hx
              have := iht (by omega)
              show (rsK secs pts right (rs0 trail dir m) t).m - lenI secs _ ≤ _
              omega
          exact key k (Nat.le_refl _)
        exact ⟨by omega, rs_go i2 hs (by omega)⟩
    obtain ⟨pre, hp⟩ := run_ext (secs := secs) (pts := pts) (right := right) (trail := trail) (m.toNat - (j + 1)) (rsK secs pts right (rs0 trail dir m) (j + 1))
    rw [(hrun (j + 1) (Nat.le_refl _)).2] at hp
    rw [hp]
    refine List.mem_append_left _ ?_
    have h1 := (rsK_same (secs := secs) (pts := pts) (right := right) (trail := trail) (dir := dir) (m1 := m) (m2 := 0) (j + 1)).1
    rw [h1]
    show _ ∈ (rsK secs pts right (rs0 trail dir 0) j).ahead ++ [_]
    exact List.mem_append_right _ (List.mem_singleton.2 rfl)
end
end Go.Lo
