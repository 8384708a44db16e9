/- Layer 13 (state): the changes, applied, give what is. -/
import Derived.Test.YtmmdkioohjninaaDoorSv
set_option linter.unusedVariables false
set_option linter.unusedSimpArgs false
namespace Go.Lo
theorem chgK_mem {W I : List Int} {c : Chg} : ∀ n, c ∈ chgK W I n → ∃ q : Nat, q < n ∧ c.sec = (q : Int) ∧ c.kind = kindI (W.getD q 0) (I.getD q 0) ∧ c.kind > 0
  | 0, h => by cases h
  | n + 1, h => by
    by_cases hk : kindI (W.getD n 0) (I.getD n 0) > 0
    · rw [chgK_on hk] at h
      rcases List.mem_append.1 h with h | h
      · obtain ⟨q, h1, h2⟩ := chgK_mem n h
        exact ⟨q, by omega, h2⟩
      · rw [List.mem_singleton.1 h]
        exact ⟨n, by omega, rfl, rfl, hk⟩
    · rw [chgK_off hk] at h
      obtain ⟨q, h1, h2⟩ := chgK_mem n h
      exact ⟨q, by omega, h2⟩
theorem chgK_rise {W I : List Int} : ∀ n, (chgK W I n).Pairwise fun a b => a.sec < b.sec
  | 0 => .nil
  | n + 1 => by
    by_cases hk : kindI (W.getD n 0) (I.getD n 0) > 0
    · rw [chgK_on hk, List.pairwise_append]
      refine ⟨chgK_rise n, List.pairwise_singleton _ _, fun a ha b hb => ?_⟩
      obtain ⟨q, h1, h2, _⟩ := chgK_mem n ha
      rw [List.mem_singleton.1 hb]
      show a.sec < (n : Int)
      omega
    · rw [chgK_off hk]; exact chgK_rise n
theorem chgK_full {W I : List Int} {q : Nat} (hk : kindI (W.getD q 0) (I.getD q 0) > 0) : ∀ n, q < n → (chgK W I n).any (fun c => decide (c.sec = (q : Int))) = true
  | 0, h => by omega
  | n + 1, h => by
    rcases Nat.lt_or_ge q n with h1 | h1
    · have ih := chgK_full hk n h1
      by_cases hn : kindI (W.getD n 0) (I.getD n 0) > 0
      · rw [chgK_on hn, List.any_append, ih]; rfl
      · rw [chgK_off hn]; exact ih
    · have : q = n := by omega
      subst this
      rw [chgK_on hk, List.any_append]
      simp
theorem rise_get {W I : List Int} {n m : Nat} (h0 : 0 < m) (hm : m < (chgK W I n).length) : ((chgK W I n).getD (m - 1) dC).sec < ((chgK W I n).getD m dC).sec := by
  have h := List.pairwise_iff_getElem.1 (chgK_rise (W := W) (I := I) n) (m - 1) m (by omega) hm (by omega)
  rw [List.getD_eq_getElem?_getD, List.getD_eq_getElem?_getD, List.getElem?_eq_getElem hm, List.getElem?_eq_getElem (by omega)]
  exact h
/-- What was, after the first m changes. -/
def backF (W I : List Int) (C : List Chg) (m : Nat) : List Int := (List.range W.length).map fun (q : Nat) => if (C.take m).any (fun c => decide (c.sec = (q : Int))) then I.getD q 0 else W.getD q 0
theorem backF_len (W I : List Int) (C : List Chg) (m : Nat) : (backF W I C m).length = W.length := by simp [backF]
theorem backF_at {W I : List Int} {C : List Chg} {m q : Nat} (h : q < W.length) : (backF W I C m).getD q 0 = if (C.take m).any (fun c => decide (c.sec = (q : Int))) then I.getD q 0 else W.getD q 0 := by
  rw [List.getD_eq_getElem?_getD, List.getElem?_eq_getElem (by rw [backF_len]; exact h)]
  simp [backF]
theorem ext_getD {a b : List Int} (hl : a.length = b.length) (h : ∀ q, q < a.length → a.getD q 0 = b.getD q 0) : a = b := by
  refine List.ext_getElem hl fun q h1 h2 => ?_
  have := h q h1
  rw [List.getD_eq_getElem?_getD, List.getD_eq_getElem?_getD, List.getElem?_eq_getElem h1, List.getElem?_eq_getElem h2] at this
  exact this
theorem backF_zero (W I : List Int) (C : List Chg) : backF W I C 0 = W :=
  ext_getD (backF_len _ _ _ _) fun q h => by rw [backF_len] at h; rw [backF_at h]; rfl
theorem set_getD {l : List Int} {s q : Nat} {v : Int} (h : q < l.length) : (l.set s v).getD q 0 = if s = q then v else l.getD q 0 := by
  rw [List.getD_eq_getElem?_getD, List.getElem?_eq_getElem (by simpa using h), List.getD_eq_getElem?_getD, List.getElem?_eq_getElem h]
  simp only [Option.getD_some, List.getElem_set]
theorem backF_step {W I : List Int} {C : List Chg} {m s : Nat} (hm : m < C.length) (hs : (C.getD m dC).sec = (s : Int)) : (backF W I C m).set s (I.getD s 0) = backF W I C (m + 1) := by
  refine ext_getD (by simp [backF_len]) fun q h => ?_
  have hq : q < W.length := by simpa [backF_len] using h
  rw [set_getD (by rw [backF_len]; exact hq), backF_at hq, backF_at hq]
  have ht : (C.take (m + 1)).any (fun c => decide (c.sec = (q : Int))) = ((C.take m).any (fun c => decide (c.sec = (q : Int))) || decide ((s : Int) = (q : Int))) := by
    rw [List.getD_eq_getElem?_getD, List.getElem?_eq_getElem hm] at hs
    have hs' : (C[m]).sec = (s : Int) := hs
    rw [List.take_add_one, List.any_append, List.getElem?_eq_getElem hm]
    simp [hs']
  rw [ht]
  by_cases hsq : s = q
  · subst hsq; simp
  · have : decide ((s : Int) = (q : Int)) = false := by simp; omega
    rw [this, if_neg hsq, Bool.or_false]
theorem kind_zero : ∀ a : Nat, a < 4 → ∀ b : Nat, b < 4 → ¬ kindI (a : Int) (b : Int) > 0 → a = b := by decide +kernel
theorem kind_inj : ∀ a : Nat, a < 4 → ∀ b : Nat, b < 4 → ∀ j : Nat, j < 4 → kindI (a : Int) (b : Int) > 0 → (kindI (a : Int) (j : Int) = kindI (a : Int) (b : Int) ↔ j = b) := by decide +kernel
theorem kind_zeroI {a b : Int} (ha : 0 ≤ a ∧ a ≤ 3) (hb : 0 ≤ b ∧ b ≤ 3) (h : ¬ kindI a b > 0) : a = b := by
  have h1 := kind_zero a.toNat (by omega) b.toNat (by omega)
  rw [Int.toNat_of_nonneg ha.1, Int.toNat_of_nonneg hb.1] at h1
  have := h1 h
  omega
theorem kind_injI {a b : Int} {j : Nat} (ha : 0 ≤ a ∧ a ≤ 3) (hb : 0 ≤ b ∧ b ≤ 3) (hj : j < 4) (h : kindI a b > 0) : kindI a (j : Int) = kindI a b ↔ (j : Int) = b := by
  have h1 := kind_inj a.toNat (by omega) b.toNat (by omega) j hj
  rw [Int.toNat_of_nonneg ha.1, Int.toNat_of_nonneg hb.1] at h1
  rw [h1 h]
  omega
theorem backF_end {W I : List Int} {m : Nat} (hl : W.length = I.length) (hw : ∀ x, x ∈ W → 0 ≤ x ∧ x ≤ 3) (hi : ∀ x, x ∈ I → 0 ≤ x ∧ x ≤ 3) (hm : (chgL W I).length ≤ m) : backF W I (chgL W I) m = I := by
  refine ext_getD (by rw [backF_len, hl]) fun q h => ?_
  rw [backF_len] at h
  rw [backF_at h, List.take_of_length_le hm]
  split
  · rfl
  · rename_i hn
    refine kind_zeroI (hw _ (getD_mem 0 h)) (hi _ (getD_mem 0 (by omega))) fun hk => hn ?_
    exact chgK_full hk _ (by rw [← hl, Nat.min_self]; exact h)
/-- The search for the state that a kind leads to. -/
def seekF (l : List Int) (s : Nat) (b : Int) (j : Nat) : List Int := if b < (j : Int) then l.set s b else l
theorem seekF_len (l : List Int) (s : Nat) (b : Int) (j : Nat) : (seekF l s b j).length = l.length := by unfold seekF; split <;> simp
theorem seekF_zero {l : List Int} {s : Nat} {b : Int} (hb : 0 ≤ b) : seekF l s b 0 = l := by unfold seekF; rw [if_neg (by omega)]
theorem seekF_end {l : List Int} {s : Nat} {b : Int} (hb : b ≤ 3) : seekF l s b 4 = l.set s b := by unfold seekF; rw [if_pos (by omega)]
theorem seekF_on {l : List Int} {s : Nat} {b : Int} {j : Nat} (h : (j : Int) = b) : seekF l s b (j + 1) = (seekF l s b j).set s (j : Int) := by
  unfold seekF; rw [if_pos (by omega), if_neg (by omega), h]
theorem seekF_off {l : List Int} {s : Nat} {b : Int} {j : Nat} (h : ¬ (j : Int) = b) : seekF l s b (j + 1) = seekF l s b j := by
  unfold seekF
  by_cases h2 : b < (j : Int)
  · rw [if_pos (by omega), if_pos h2]
  · rw [if_neg (by omega), if_neg h2]
theorem oneS_b3 {s o : Int} {views : List View} (h : -2 ≤ o) : 0 ≤ oneS s o views ∧ oneS s o views ≤ 3 := by
  rcases one_cases (s := s) (views := views) h with ⟨_, h2⟩ | ⟨_, h2⟩ | ⟨_, _, h2⟩ | ⟨_, _, h2⟩ <;> rw [h2] <;> first | omega | (split <;> omega)
theorem ofK_b3 {parts : List (List Int)} {owners : List Int} {views : List View} {x : Int} (ho : parts.length ≤ owners.length) (h : ∀ y, y ∈ owners → -2 ≤ y) : ∀ n, x ∈ ofK parts owners views n → 0 ≤ x ∧ x ≤ 3
  | 0, hx => by cases hx
  | n + 1, hx => by
    unfold ofK at hx
    rcases List.mem_append.1 hx with hx | hx
    · exact ofK_b3 ho h n hx
    · rw [List.mem_singleton.1 hx]; exact oneS_b3 (whoI_ge ho h)
end Go.Lo
