/- Part of the logic of values: what the law reaches. -/
import Derived.Test.YtdeajfldegcdaaaPFnLsqRt
import Derived.Test.YtdeajfldegcdaaaPFnLsqAc
set_option linter.unusedVariables false
set_option linter.unusedSimpArgs false
namespace Go.Lo
theorem k_partT_mem {j : Int} {i : Nat} : ∀ k, i < k → (i : Int) ∈ partD.partT j k ∨ ∃ x, x ∈ partD j k ∧ (i : Int) ∈ x
 | 0, h => by omega
 | k + 1, h => by
  cases hj : joinB j k with
  | true =>
   obtain ⟨h1, h2⟩ := parts_join hj
   rw [h1, h2]
   rcases Nat.lt_or_ge i k with hi | hi
   ·rcases k_partT_mem k hi with h3 | h3
    ·exact .inl (List.mem_append_left _ h3)
    ·exact .inr h3
   ·have : i = k := by omega
    subst this
    exact .inl (List.mem_append_right _ List.mem_cons_self)
  | false =>
   obtain ⟨h1, h2⟩ := parts_new hj
   rw [h1, h2]
   rcases Nat.lt_or_ge i k with hi | hi
   ·right
    unfold partsK
    rw [if_neg (by omega)]
    rcases k_partT_mem k hi with h3 | ⟨x, h3, h4⟩
    ·exact ⟨_, List.mem_append_right _ List.mem_cons_self, h3⟩
    ·exact ⟨x, List.mem_append_left _ h3, h4⟩
   ·have : i = k := by omega
    subst this
    exact .inl List.mem_cons_self
theorem k_part_in {form j : Int} {i : Nat} (h : i < (mkEnds form).length) : 0 ≤ partI (mkParts form j) (i : Int) ∧ partI (mkParts form j) (i : Int) < ((mkParts form j).length : Int) := by
 have hr := partI_range (mkParts form j) (i : Int)
 have : ∃ x, x ∈ mkParts form j ∧ (i : Int) ∈ x := by
  unfold mkParts partsK
  rw [if_neg (by omega)]
  rcases k_partT_mem (j := j) _ h with h3 | ⟨x, h3, h4⟩
  ·exact ⟨_, List.mem_append_right _ List.mem_cons_self, h3⟩
  ·exact ⟨x, List.mem_append_left _ h3, h4⟩
 obtain ⟨x, h1, h2⟩ := this
 have hany : (mkParts form j).any (fun l => decide ((i : Int) ∈ l)) = true := List.any_eq_true.2 ⟨x, h1, by simpa using h2⟩
 have hd := idxB_any (f := fun l : List Int => decide ((i : Int) ∈ l)) [] (mkParts form j)
 rw [hany] at hd
 have : partI (mkParts form j) (i : Int) ≥ 0 := of_decide_eq_true hd
 omega
theorem k_partD_each {j : Int} {x : List Int} : ∀ k, x ∈ partD j k → x.length ≤ k
 | 0, h => by cases h
 | k + 1, h => by
  unfold partD at h
  split at h
  ·exact Nat.le_succ_of_le (k_partD_each k h)
  ·split at h
   ·cases h
   ·rcases List.mem_append.1 h with h | h
    ·exact Nat.le_succ_of_le (k_partD_each k h)
    ·rw [List.mem_singleton.1 h]; exact Nat.le_succ_of_le (partT_len j k)
theorem k_mkParts_facts (form j : Int) : 1 ≤ (mkParts form j).length ∧ (mkParts form j).length ≤ 8 ∧ ∀ x, x ∈ mkParts form j → x.length ≤ 65536 := by
 have hel := mkEnds_len form
 have h1 := partsK_len j (mkEnds form).length
 refine ⟨?_, by unfold mkParts; omega, fun x hx => ?_⟩
 ·unfold mkParts partsK
  rw [if_neg (by omega)]
  simp
 ·unfold mkParts partsK at hx
  rw [if_neg (by omega)] at hx
  rcases List.mem_append.1 hx with hx | hx
  ·have := k_partD_each _ hx; omega
  ·rw [List.mem_singleton.1 hx]
   have := partT_len j (mkEnds form).length
   omega
structure LayOk (secs : List Sec) (parts : List (List Int)) (pts : List Pnt) (routes : List (List Int)) : Prop where
 h1 : 1 ≤ secs.length
 hs : secs.length ≤ 8
 hp : pts.length ≤ 2
 hpa : parts.length ≤ 8
 hpl : ∀ y, y ∈ parts → y.length ≤ 65536
 hro : routes.length ≤ 16
 hrl : ∀ x, x ∈ routes → 2 ≤ x.length ∧ x.length ≤ 65536
 hrs : ∀ x, x ∈ routes → ∀ s, s ∈ x → 0 ≤ s ∧ s < (secs.length : Int)
 hpo : ∀ s : Int, 0 ≤ s → s < (secs.length : Int) → 0 ≤ partI parts s ∧ partI parts s < (parts.length : Int)
section
variable {secs : List Sec} {pts : List Pnt} {turns : List Int} {s e most : Int}
theorem wst_in (h1 : 1 ≤ secs.length) (hs : 0 ≤ s ∧ s < (secs.length : Int)) : ∀ i y, y ∈ (wst secs pts turns s e i).out → 0 ≤ y ∧ y < (secs.length : Int)
 | 0, y, h => by rw [List.mem_singleton.1 h]; exact hs
 | i + 1, y, h => by
  rcases List.mem_append.1 h with h | h
  ·exact wst_in h1 hs i y h
  ·rw [List.mem_singleton.1 h]
   unfold wnext
   rcases Nat.eq_zero_or_pos (aroundL secs pts (wst secs pts turns s e i).s (wst secs pts turns s e i).e).length with h0 | h0
   ·rw [List.eq_nil_of_length_eq_zero h0]; show 0 ≤ (0 : Int) ∧ (0 : Int) < _; omega
   ·exact around_sec (getD_mem dE (legK_lt h0))
theorem walkR_in (h1 : 1 ≤ secs.length) (hs : 0 ≤ s ∧ s < (secs.length : Int)) : ∀ f i y, y ∈ walkR secs pts turns s e most f i → 0 ≤ y ∧ y < (secs.length : Int)
 | 0, i, y, h => wst_in h1 hs i y h
 | f + 1, i, y, h => by
  unfold walkR at h
  split at h
  ·exact wst_in h1 hs i y h
  ·exact walkR_in h1 hs f (i + 1) y h
theorem routesK_in (h1 : 1 ≤ secs.length) {rs : List (List Int)} : ∀ k x, x ∈ routesK secs pts rs k → (2 ≤ x.length ∧ x.length ≤ 65536) ∧ ∀ y, y ∈ x → 0 ≤ y ∧ y < (secs.length : Int)
 | 0, x, h => by cases h
 | k + 1, x, h => by
  unfold routesK at h
  split at h
  ·exact routesK_in h1 k x h
  ·rename_i hc
   rcases List.mem_append.1 h with h | h
   ·exact routesK_in h1 k x h
   ·rw [List.mem_singleton.1 h]
    have hw := walkL_len secs pts ((rs.getD k []).getD 0 0 % (secs.length : Int)) ((rs.getD k []).getD 0 0 / 128) ((rs.getD k []).drop 2) (2 + (rs.getD k []).getD 1 0 % 5)
    have hm := Int.emod_nonneg ((rs.getD k []).getD 1 0) (show (5 : Int) ≠ 0 by decide)
    have hm2 := Int.emod_lt_of_pos ((rs.getD k []).getD 1 0) (show (0 : Int) < 5 by decide)
    refine ⟨⟨by omega, ?_⟩, fun y hy => walkR_in h1 ⟨Int.emod_nonneg _ (by omega), Int.emod_lt_of_pos _ (by omega)⟩ _ _ y hy⟩
    have : (routeOf secs pts (rs.getD k [])).length ≤ (2 + (rs.getD k []).getD 1 0 % 5).toNat + 1 := hw
    omega
end
theorem full_ok (form len jn : Int) (rs : List (List Int)) : LayOk (mkSecs form len) (mkParts form jn) (mkPts form) (fullRoutes form len rs) := by
 have hel := mkEnds_len form
 have hsl := mkSecs_len form len
 obtain ⟨hp1, hp2, hp3⟩ := k_mkParts_facts form jn
 refine ⟨by omega, by omega, mkPts_len form, hp2, hp3, (routesK_len _ _ _ _).2, fun x hx => (routesK_in (by omega) _ x hx).1, fun x hx => (routesK_in (by omega) _ x hx).2, fun s h0 h1 => ?_⟩
 obtain ⟨k, rfl⟩ := Int.eq_ofNat_of_zero_le h0
 exact k_part_in (by omega)
structure Lo_ where
 secs : List Sec
 parts : List (List Int)
 pts : List Pnt
 routes : List (List Int)
 cn : Int
end Go.Lo
