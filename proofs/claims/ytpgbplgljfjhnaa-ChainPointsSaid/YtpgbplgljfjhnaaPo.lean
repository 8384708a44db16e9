/- A point that stands otherwise, plain: what changes lies at that point. -/
import Derived.Test.YtpgbplgljfjhnaaSp
set_option linter.unusedVariables false
set_option linter.unusedSimpArgs false
namespace Go.Lo
def Leg3 (p : Pnt) (s : Int) : Prop := s = p.left ∨ s = p.right ∨ s = p.stem
section
variable {secs : List Sec} {pts : List Pnt} {R T : List Bool} {trail : List Int} {k : Nat}
theorem next_same {s e : Int} (h : legI pts R (pointI pts (nodeA secs s e)) = legI pts T (pointI pts (nodeA secs s e))) : nextO secs pts R s e = nextO secs pts T s e := by
  unfold nextO; rw [h]
theorem legI_or (pts : List Pnt) (R : List Bool) (k : Nat) : legI pts R (k : Int) = (pts.getD k dP).left ∨ legI pts R (k : Int) = (pts.getD k dP).right := by
  unfold legI; split
  · exact .inr rfl
  · exact .inl rfl
theorem next_stem_sec {s e : Int} {x : En} (h0 : ¬ (aroundL secs pts s e).length = 0) (hi : ¬ pointI pts (nodeA secs s e) < 0) (hs : s = (pts.getD (pointI pts (nodeA secs s e)).toNat dP).stem) (h : nextO secs pts R s e = some x) :
    x.sec = legI pts R (pointI pts (nodeA secs s e)) := by
  rw [next_stem h0 hi hs rfl rfl] at h
  split at h
  · cases h
  · rename_i hk
    obtain ⟨j, h1, _, _, h4⟩ := idxB_found dE (show ¬ idxB (fun x : En => decide (x.sec = legI pts R (pointI pts (nodeA secs s e)))) (aroundL secs pts s e) = -1 by omega)
    rw [h1] at h
    injection h with h
    rw [← h]
    exact of_decide_eq_true h4
theorem next_two (hag : ∀ i : Int, 0 ≤ i → i ≠ (k : Int) → legI pts R i = legI pts T i) (s e : Int) :
    nextO secs pts R s e = nextO secs pts T s e ∨ (Leg3 (pts.getD k dP) s ∧ ∀ x y, nextO secs pts R s e = some x → nextO secs pts T s e = some y → x = y ∨ (x.sec ≠ y.sec ∧ Leg3 (pts.getD k dP) x.sec ∧ Leg3 (pts.getD k dP) y.sec)) := by
  by_cases h0 : (aroundL secs pts s e).length = 0
  · exact .inl (by rw [next_none h0, next_none h0])
  by_cases hi : pointI pts (nodeA secs s e) < 0
  · exact .inl (by rw [next_plain h0 hi, next_plain h0 hi])
  by_cases hk : pointI pts (nodeA secs s e) = (k : Int)
  · by_cases hl : legI pts R (k : Int) = legI pts T (k : Int)
    · exact .inl (next_same (by rw [hk]; exact hl))
    by_cases hs : s = (pts.getD k dP).stem
    · refine .inr ⟨.inr (.inr hs), fun x y hx hy => .inr ?_⟩
      have hs2 : s = (pts.getD (pointI pts (nodeA secs s e)).toNat dP).stem := by rw [hk]; exact hs
      have e1 := next_stem_sec h0 hi hs2 hx
      have e2 := next_stem_sec h0 hi hs2 hy
      rw [hk] at e1 e2
      refine ⟨by rw [e1, e2]; exact hl, ?_, ?_⟩
      · rw [e1]; exact (legI_or pts R k).elim .inl (fun h => .inr (.inl h))
      · rw [e2]; exact (legI_or pts T k).elim .inl (fun h => .inr (.inl h))
    · have hs2 : ¬ s = (pts.getD (pointI pts (nodeA secs s e)).toNat dP).stem := by rw [hk]; exact hs
      by_cases hR : s = legI pts R (k : Int)
      · refine .inr ⟨by rw [hR]; exact (legI_or pts R k).elim .inl (fun h => .inr (.inl h)), fun x y hx hy => .inl ?_⟩
        rw [next_leg h0 hi hs2 (by rw [hk]; exact hR)] at hx
        rw [next_off h0 hi hs2 (by rw [hk]; intro h; exact hl (hR.symm.trans h))] at hy
        cases hy
      · by_cases hT : s = legI pts T (k : Int)
        · refine .inr ⟨by rw [hT]; exact (legI_or pts T k).elim .inl (fun h => .inr (.inl h)), fun x y hx hy => .inl ?_⟩
          rw [next_off h0 hi hs2 (by rw [hk]; exact hR)] at hx
          cases hx
        · exact .inl (by rw [next_off h0 hi hs2 (by rw [hk]; exact hR), next_off h0 hi hs2 (by rw [hk]; exact hT)])
  · exact .inl (next_same (hag _ (by omega) hk))
def wayL (trail : List Int) (r : RS) : List Int := trail.reverse ++ r.ahead
/-- Two ways that part. -/
def Parts (p : Pnt) (n0 : Nat) (a b : List Int) : Prop := ∃ c x y, a = c ++ x ∧ b = c ++ y ∧ n0 ≤ c.length ∧
  ((x = [] ∧ y = []) ∨ (∃ u v x' y', x = u :: x' ∧ y = v :: y' ∧ u ≠ v ∧ Leg3 p u ∧ Leg3 p v) ∨ ((x = [] ∨ y = []) ∧ Leg3 p (c.getD (c.length - 1) 0)))
theorem way_next (right : List Bool) (r : RS) : wayL trail (rsN secs pts right r) = wayL trail r ++ [(nextV secs pts right r.s r.e).sec] := by simp [wayL, rsN]
theorem run_way (right : List Bool) (n : Nat) (r : RS) : ∃ x, wayL trail (rsRun secs pts right trail n r) = wayL trail r ++ x := by
  obtain ⟨pre, h⟩ := run_ext (secs := secs) (pts := pts) (right := right) (trail := trail) n r
  exact ⟨pre, by unfold wayL; rw [h, List.append_assoc]⟩
theorem getD_last (l : List Int) (x : Int) : (l ++ [x]).getD ((l ++ [x]).length - 1) 0 = x := by simp
theorem run_parts (hag : ∀ i : Int, 0 ≤ i → i ≠ (k : Int) → legI pts R i = legI pts T i) : ∀ (n : Nat) (r : RS), (wayL trail r).getD ((wayL trail r).length - 1) 0 = r.s →
    Parts (pts.getD k dP) trail.length (wayL trail (rsRun secs pts R trail n r)) (wayL trail (rsRun secs pts T trail n r))
  | 0, r, _ => ⟨wayL trail r, [], [], by simp [rsRun], by simp [rsRun], by simp [wayL], .inl ⟨rfl, rfl⟩⟩
  | n + 1, r, hl => by
    have hlen : trail.length ≤ (wayL trail r).length := by simp [wayL]
    cases hR : rsStop secs pts R trail r with
    | true =>
      have eR : rsRun secs pts R trail (n + 1) r = r := by unfold rsRun; rw [if_pos hR]
      cases hT : rsStop secs pts T trail r with
      | true =>
        have eT : rsRun secs pts T trail (n + 1) r = r := by unfold rsRun; rw [if_pos hT]
        rw [eR, eT]
        exact ⟨wayL trail r, [], [], by simp, by simp, hlen, .inl ⟨rfl, rfl⟩⟩
      | false =>
        rw [eR]
        obtain ⟨y, hy⟩ := run_way (secs := secs) (pts := pts) (trail := trail) T (n + 1) r
        refine ⟨wayL trail r, [], y, by simp, hy, hlen, .inr (.inr ⟨.inl rfl, ?_⟩)⟩
        rw [hl]
        rcases next_two (secs := secs) hag r.s r.e with h | h
        · exfalso
          have : rsStop secs pts R trail r = rsStop secs pts T trail r := by unfold rsStop nextB nextV; rw [h]
          rw [hR, hT] at this; cases this
        · exact h.1
    | false =>
      obtain ⟨b1, b2, b3, b4⟩ := rsStop_iff.1 hR
      have eR : rsRun secs pts R trail (n + 1) r = rsRun secs pts R trail n (rsN secs pts R r) := by
        conv => lhs; unfold rsRun
        rw [if_neg (by simp [hR])]
      cases hT : rsStop secs pts T trail r with
      | true =>
        have eT : rsRun secs pts T trail (n + 1) r = r := by unfold rsRun; rw [if_pos hT]
        rw [eT]
        obtain ⟨y, hy⟩ := run_way (secs := secs) (pts := pts) (trail := trail) R (n + 1) r
        refine ⟨wayL trail r, y, [], hy, by simp, hlen, .inr (.inr ⟨.inr rfl, ?_⟩)⟩
        rw [hl]
        rcases next_two (secs := secs) hag r.s r.e with h | h
        · exfalso
          have : rsStop secs pts R trail r = rsStop secs pts T trail r := by unfold rsStop nextB nextV; rw [h]
          rw [hR, hT] at this; cases this
        · exact h.1
      | false =>
        obtain ⟨c1, c2, c3, c4⟩ := rsStop_iff.1 hT
        have eT : rsRun secs pts T trail (n + 1) r = rsRun secs pts T trail n (rsN secs pts T r) := by
          conv => lhs; unfold rsRun
          rw [if_neg (by simp [hT])]
        have same : nextV secs pts R r.s r.e = nextV secs pts T r.s r.e → Parts (pts.getD k dP) trail.length (wayL trail (rsRun secs pts R trail (n + 1) r)) (wayL trail (rsRun secs pts T trail (n + 1) r)) := fun h => by
          have hN : rsN secs pts T r = rsN secs pts R r := by unfold rsN; rw [h]
          rw [eR, eT, hN]
          exact run_parts hag n (rsN secs pts R r) (by rw [way_next, getD_last]; rfl)
        obtain ⟨x, hx⟩ : ∃ x, nextO secs pts R r.s r.e = some x := Option.isSome_iff_exists.1 b2
        obtain ⟨y, hy⟩ : ∃ y, nextO secs pts T r.s r.e = some y := Option.isSome_iff_exists.1 c2
        rcases next_two (secs := secs) hag r.s r.e with h | h
        · exact same (by unfold nextV; rw [h])
        · rcases h.2 x y hx hy with h3 | ⟨h4, h5, h6⟩
          · exact same (by rw [(nextV_of hx).1, (nextV_of hy).1, h3])
          · rw [eR, eT]
            obtain ⟨u, hu⟩ := run_way (secs := secs) (pts := pts) (trail := trail) R n (rsN secs pts R r)
            obtain ⟨v, hv⟩ := run_way (secs := secs) (pts := pts) (trail := trail) T n (rsN secs pts T r)
            refine ⟨wayL trail r, x.sec :: u, y.sec :: v, ?_, ?_, hlen, .inr (.inl ⟨_, _, _, _, rfl, rfl, h4, h5, h6⟩)⟩
            · rw [hu, way_next, (nextV_of hx).1]; simp
            · rw [hv, way_next, (nextV_of hy).1]; simp
theorem span_parts {dir m : Int} (ht : 0 < trail.length) (hag : ∀ i : Int, 0 ≤ i → i ≠ (k : Int) → legI pts R i = legI pts T i) :
    Parts (pts.getD k dP) trail.length (spanF secs pts R trail dir m).reverse (spanF secs pts T trail dir m).reverse := by
  have hn : ¬ trail.length = 0 := by omega
  have hw : ∀ r, (rsL trail r).reverse = wayL trail r := fun r => by simp [rsL, wayL]
  rw [(reach_some (secs := secs) (pts := pts) (right := R) (dir := dir) (m := m) hn).1, (reach_some (secs := secs) (pts := pts) (right := T) (dir := dir) (m := m) hn).1, hw, hw]
  refine run_parts hag _ _ ?_
  cases trail with
  | nil => cases ht
  | cons a l => simp [wayL, rs0]
end
section
variable {p : Pnt} {n0 : Nat} {a b : List Int}
theorem getD_left {c x : List Int} {j : Nat} (h : j < c.length) : (c ++ x).getD j 0 = c.getD j 0 := by
  rw [List.getD_eq_getElem?_getD, List.getD_eq_getElem?_getD, List.getElem?_append_left h]
theorem parts_at (h : Parts p n0 a b) {i : Nat} (ha : i < a.length) (hb : i < b.length) (he : a.take i = b.take i) (hne : a.getD i 0 ≠ b.getD i 0) : n0 ≤ i ∧ Leg3 p (a.getD i 0) ∧ Leg3 p (b.getD i 0) := by
  obtain ⟨c, x, y, rfl, rfl, hc, hh⟩ := h
  have key : ∀ j (u v : List Int), j < c.length → (c ++ u).getD j 0 = (c ++ v).getD j 0 := fun j u v hj => by
    rw [getD_left hj, getD_left hj]
  have hi : c.length ≤ i := Nat.le_of_not_lt fun hj => hne (key i x y hj)
  rcases hh with ⟨h1, h2⟩ | ⟨u, v, x', y', h1, h2, h3, h4, h5⟩ | ⟨h1 | h1, _⟩
  · subst h1 h2; exact absurd rfl hne
  · subst h1 h2
    have hic : i = c.length := by
      rcases Nat.lt_or_ge c.length i with hj | hj
      · exfalso
        have hg := congrArg (fun l => l.getD c.length 0) he
        simp only [List.getD_eq_getElem?_getD, List.getElem?_take_of_lt hj] at hg
        rw [List.getElem?_append_right (Nat.le_refl _), List.getElem?_append_right (Nat.le_refl _), Nat.sub_self] at hg
        exact h3 hg
      · omega
    subst hic
    have e1 : ∀ (u : Int) (x' : List Int), (c ++ u :: x').getD c.length 0 = u := fun u x' => by
      rw [List.getD_eq_getElem?_getD, List.getElem?_append_right (Nat.le_refl _), Nat.sub_self]; rfl
    rw [e1, e1]
    exact ⟨hc, h4, h5⟩
  · subst h1; simp at ha; omega
  · subst h1; simp at hb; omega
theorem parts_end (h : Parts p n0 a b) (h0 : 0 < n0) (hne : a.length ≠ b.length) {n : Nat} (hn : n = min a.length b.length) (he : a.take n = b.take n) : n0 ≤ n ∧ Leg3 p (a.getD (n - 1) 0) := by
  obtain ⟨c, x, y, rfl, rfl, hc, hh⟩ := h
  have fin : ∀ z : List Int, n = c.length → Leg3 p (c.getD (c.length - 1) 0) → n0 ≤ n ∧ Leg3 p ((c ++ z).getD (n - 1) 0) := fun z e hl => by
    subst e; exact ⟨hc, by rw [getD_left (by omega)]; exact hl⟩
  rcases hh with ⟨h1, h2⟩ | ⟨u, v, x', y', h1, h2, h3, h4, h5⟩ | ⟨h1 | h1, hl⟩
  · subst h1 h2; exact absurd rfl hne
  · subst h1 h2
    exfalso
    have hj : c.length < n := by rw [hn]; simp
    have hg := congrArg (fun l => l.getD c.length 0) he
    simp only [List.getD_eq_getElem?_getD, List.getElem?_take_of_lt hj] at hg
    rw [List.getElem?_append_right (Nat.le_refl _), List.getElem?_append_right (Nat.le_refl _), Nat.sub_self] at hg
    exact h3 hg
  · subst h1; exact fin [] (by rw [hn]; simp) hl
  · subst h1; exact fin x (by rw [hn]; simp) hl
end
/-- A row of its own, filled up to k. -/
def rtK (l : List Bool) (n : Nat) : Nat → List Bool
  | 0 => List.replicate n false
  | k + 1 => (rtK l n k).set k (l.getD k false)
theorem rtK_len (l : List Bool) (n : Nat) : ∀ k, (rtK l n k).length = n
  | 0 => List.length_replicate
  | k + 1 => by show ((rtK l n k).set k _).length = n; rw [List.length_set]; exact rtK_len l n k
theorem hasB_set {R : List Bool} {q : Nat} {v : Bool} {i : Int} (h0 : 0 ≤ i) (h : i ≠ (q : Int)) : hasB R i = hasB (R.set q v) i := by
  rw [hasB_nn h0, hasB_nn h0, List.length_set, List.getD_eq_getElem?_getD, List.getD_eq_getElem?_getD, List.getElem?_set_ne (by omega)]
theorem legI_set {pts : List Pnt} {R : List Bool} {q : Nat} {v : Bool} (i : Int) (h0 : 0 ≤ i) (h : i ≠ (q : Int)) : legI pts R i = legI pts (R.set q v) i := by
  unfold legI; rw [← hasB_set h0 h]
theorem take_both {a b : List Int} {i : Nat} (ha : i < a.length) (hb : i < b.length) (h : a.take i = b.take i) (he : a.getD i 0 = b.getD i 0) : a.take (i + 1) = b.take (i + 1) := by
  rw [take_snoc 0 ha, take_snoc 0 hb, h, he]
theorem leg_last {p : Pnt} {s : Int} (h : Leg3 p s) (h1 : ¬ s = p.left) (h2 : ¬ s = p.right) : s = p.stem := by
  rcases h with h | h | h
  · exact absurd h h1
  · exact absurd h h2
  · exact h
theorem modT {a b : Int} (h : 0 ≤ a) : Int.tmod a b = a % b := Int.tmod_eq_emod_of_nonneg h
end Go.Lo
