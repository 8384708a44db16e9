/- Part of the logic of values: what the law reaches. -/
import Derived.Test.YtdeajfldegcdaaaPFnLsqTk
import Derived.Test.YtdeajfldegcdaaaPFnLsqAc
import Derived.Test.YtdeajfldegcdaaaPFnLsqMk
set_option linter.unusedVariables false
set_option linter.unusedSimpArgs false
namespace Go.Lo
theorem parts_flat (j : Int) : ∀ k, (partD j k ++ [partD.partT j k]).flatten = (List.range k).map fun (i : Nat) => (i : Int)
 | 0 => rfl
 | k + 1 => by
  have ih := parts_flat j k
  cases hb : joinB j k with
  | true =>
   obtain ⟨h1, h2⟩ := parts_join hb
   rw [h1, h2, List.range_succ, List.map_append, ← ih]
   simp
  | false =>
   obtain ⟨h1, h2⟩ := parts_new hb
   rw [h1, h2, List.range_succ, List.map_append, ← ih]
   unfold partsK
   split
   ·rename_i h0; subst h0; simp [partD, partD.partT]
   ·simp
theorem parts_nd (form j : Int) : (mkParts form j).flatten.Nodup := by
 have h := parts_flat j (mkEnds form).length
 have hel := mkEnds_len form
 unfold mkParts partsK
 rw [if_neg (by omega), h]
 exact (List.nodup_range).map (f := fun (i : Nat) => (i : Int)) (fun a b h e => h (by have e2 : (a : Int) = (b : Int) := e; omega))
theorem once {l : List (List Int)} {s : Int} : l.flatten.Nodup → ∀ a b, s ∈ l.getD a [] → s ∈ l.getD b [] → a = b := by
 induction l with
 | nil => intro _ a b h; simp at h
 | cons x l ih =>
  intro hn a b h1 h2
  rw [List.flatten_cons, List.nodup_append] at hn
  have key : ∀ c, s ∈ l.getD c [] → ¬ s ∈ x := fun c h hx => by
   have hm : s ∈ l.flatten := by
    rw [List.getD_eq_getElem?_getD] at h
    cases hq : l[c]? with
    | none => rw [hq] at h; simp at h
    | some y => rw [hq] at h; exact List.mem_flatten.2 ⟨y, List.mem_of_getElem? hq, h⟩
   exact hn.2.2 s hx s hm rfl
  cases a with
  | zero =>
   cases b with
   | zero => rfl
   | succ b => exact absurd h1 (key b (by simpa using h2))
  | succ a =>
   cases b with
   | zero => exact absurd h2 (key a (by simpa using h1))
   | succ b => rw [ih hn.2.1 a b (by simpa using h1) (by simpa using h2)]
def lastP (parts : List (List Int)) (s : Int) : Nat → Int
 | 0 => 0
 | q + 1 => if s ∈ parts.getD q [] then (q : Int) else lastP parts s q
theorem lastP_r {parts : List (List Int)} {s : Int} : ∀ q, 0 ≤ lastP parts s q ∧ lastP parts s q ≤ (q : Int)
 | 0 => by simp [lastP]
 | q + 1 => by have := lastP_r (parts := parts) (s := s) q; unfold lastP; split <;> omega
theorem lastP_lt {parts : List (List Int)} {s : Int} : ∀ q, 1 ≤ q → lastP parts s q < (q : Int)
 | 0, h => by omega
 | q + 1, _ => by have := lastP_r (parts := parts) (s := s) q; unfold lastP; split <;> omega
theorem lastP_eq {parts : List (List Int)} {s : Int} (hn : parts.flatten.Nodup) (h : 0 ≤ partI parts s) : lastP parts s parts.length = partI parts s := by
 obtain ⟨p, h1, h2, _, h4⟩ := idxB_found [] (show ¬ idxB (fun l => decide (s ∈ l)) parts = -1 by show ¬ partI parts s = -1; omega)
 have h5 : partI parts s = (p : Int) := h1
 have h6 : s ∈ parts.getD p [] := of_decide_eq_true h4
 have key : ∀ q, lastP parts s q = if p < q then (p : Int) else 0 := by
  intro q
  induction q with
  | zero => simp [lastP]
  | succ q ih =>
   unfold lastP
   split
   ·rename_i hq
    have := once hn _ _ hq h6
    subst this
    rw [if_pos (by omega)]
   ·rename_i hq
    have : p ≠ q := fun e => hq (e ▸ h6)
    rw [ih]
    by_cases h7 : p < q
    ·rw [if_pos h7, if_pos (by omega)]
    ·rw [if_neg h7, if_neg (by omega)]
 rw [key, if_pos h2, h5]
section
variable {routes parts : List (List Int)} {st ow : List Int} {now r tr en : Int} {ps : List Int}
theorem tnK_ge {j : Nat} : ∀ k, k ≤ j → (tnK routes parts st ow now r tr en ps k).getD j 0 = ps.getD j 0
 | 0, _ => rfl
 | k + 1, h => by
  show ((tnK routes parts st ow now r tr en ps k).set k _).getD j 0 = _
  rw [List.getD_eq_getElem?_getD, List.getElem?_set_ne (by omega), ← List.getD_eq_getElem?_getD, tnK_ge k (by omega)]
theorem tnK_at {j : Nat} (hj : j < ps.length) : ∀ k, j < k → (tnK routes parts st ow now r tr en ps k).getD j 0 = tnP routes parts st ow now ⟨r, tr, en, tnK routes parts st ow now r tr en ps j⟩ j
 | 0, h => by omega
 | k + 1, h => by
  show ((tnK routes parts st ow now r tr en ps k).set k _).getD j 0 = _
  rcases Nat.lt_or_ge j k with h2 | h2
  ·rw [List.getD_eq_getElem?_getD, List.getElem?_set_ne (by omega), ← List.getD_eq_getElem?_getD, tnK_at hj k h2]
  ·have : j = k := by omega
   subst this
   rw [List.getD_eq_getElem?_getD, List.getElem?_set_self (by rw [tnK_len]; exact hj)]; rfl
end
structure Lz where
 routes : List (List Int)
 parts : List (List Int)
 n : Nat
 kk : Int
 cn : Int
 acts : List Act
def Lz.p (L : Lz) : List Int := pthR L.routes L.kk
def Lz.st (L : Lz) (i : Nat) : List Int := stL (L.acts.getD i dAc) L.n
def Lz.ow (L : Lz) (i : Nat) : List Int := owL (L.acts.getD i dAc) L.parts.length
def lcC (L : Lz) : Nat → Int
 | 0 => -1
 | i + 1 => if ((L.acts.getD i dAc).dw % 8 == 0 && decide (lcC L i < 0)) = true then 3 * (i : Int) else lcC L i
def lcE (L : Lz) (i : Nat) : Int := if lcC L i < 0 then -1 else lcC L i + L.cn
def lcP (L : Lz) : Nat → List Int
 | 0 => List.replicate L.p.length 1
 | i + 1 => tnK L.routes L.parts (L.st i) (L.ow i) (3 * (i : Int)) L.kk 1 (lcE L (i + 1)) (lcP L i) (lcP L i).length
def usB (L : Lz) (i j : Nat) : Bool := ((L.st i).getD (L.p.getD j 0).toNat 0 == 1) && ((L.ow i).getD (lastP L.parts (L.p.getD j 0) L.parts.length).toNat 0 == 1)
def usJ (L : Lz) (i : Nat) (us : List Bool) : Nat → List Bool
 | 0 => us
 | j + 1 => if (lcP L i).getD j 0 = 0 then usJ L i us j else (usJ L i us j).set j ((usJ L i us j).getD j false || usB L i j)
def lcU (L : Lz) : Nat → List Bool
 | 0 => List.replicate L.p.length false
 | i + 1 => usJ L i (lcU L i) L.p.length
section
variable {L : Lz}
theorem lcP_len : ∀ i, (lcP L i).length = L.p.length
 | 0 => by simp [lcP]
 | i + 1 => by show (tnK _ _ _ _ _ _ _ _ _ _).length = _; rw [tnK_len, lcP_len i]
theorem usJ_len {us : List Bool} (i : Nat) : ∀ j, (usJ L i us j).length = us.length
 | 0 => rfl
 | j + 1 => by unfold usJ; split <;> simp [usJ_len i j]
theorem lcU_len : ∀ i, (lcU L i).length = L.p.length
 | 0 => by simp [lcU]
 | i + 1 => by show (usJ L i (lcU L i) L.p.length).length = _; rw [usJ_len, lcU_len i]
theorem usJ_ge {us : List Bool} {i k : Nat} : ∀ j, j ≤ k → (usJ L i us j).getD k false = us.getD k false
 | 0, _ => rfl
 | j + 1, h => by
  unfold usJ
  split
  ·exact usJ_ge j (by omega)
  ·rw [List.getD_eq_getElem?_getD, List.getElem?_set_ne (by omega), ← List.getD_eq_getElem?_getD, usJ_ge j (by omega)]
theorem usJ_at {us : List Bool} {i k : Nat} (hk : k < us.length) : ∀ j, k < j → (usJ L i us j).getD k false = if (lcP L i).getD k 0 = 0 then us.getD k false else (us.getD k false || usB L i k)
 | 0, h => by omega
 | j + 1, h => by
  rcases Nat.lt_or_ge k j with h2 | h2
  ·have ih := usJ_at (i := i) hk j h2
   unfold usJ
   split
   ·exact ih
   ·rw [List.getD_eq_getElem?_getD, List.getElem?_set_ne (by omega), ← List.getD_eq_getElem?_getD, ih]
  ·have : k = j := by omega
   subst this
   have hg := usJ_ge (L := L) (us := us) (i := i) k (Nat.le_refl k)
   unfold usJ
   split
   ·rw [hg]
   ·rw [List.getD_eq_getElem?_getD, List.getElem?_set_self (by rw [usJ_len]; exact hk), hg]; rfl
theorem lcC_r : ∀ i, -1 ≤ lcC L i ∧ lcC L i ≤ 3 * (i : Int)
 | 0 => by simp [lcC]
 | i + 1 => by have := lcC_r i; unfold lcC; split <;> omega
theorem lcC_t {i : Nat} (h : ((L.acts.getD i dAc).dw % 8 == 0 && decide (lcC L i < 0)) = true) : 3 * (i : Int) = lcC L (i + 1) := by show _ = (if _ then _ else _); rw [if_pos h]
theorem lcC_f {i : Nat} (h : ((L.acts.getD i dAc).dw % 8 == 0 && decide (lcC L i < 0)) = false) : lcC L i = lcC L (i + 1) := by show _ = (if _ then _ else _); rw [if_neg (by rw [h]; exact Bool.false_ne_true)]
theorem lcE_t {i : Nat} (h : ((L.acts.getD i dAc).dw % 8 == 0 && decide (lcC L i < 0)) = true) : (if lcE L i < 0 then 3 * (i : Int) + L.cn else lcE L i) = lcE L (i + 1) := by
 have h2 := lcC_t h
 rw [Bool.and_eq_true] at h
 have h3 : lcC L i < 0 := of_decide_eq_true h.2
 have h4 : lcE L i = -1 := by unfold lcE; rw [if_pos h3]
 rw [h4, if_pos (by decide)]
 unfold lcE
 rw [← h2, if_neg (by omega)]
theorem lcE_f {i : Nat} (h : ((L.acts.getD i dAc).dw % 8 == 0 && decide (lcC L i < 0)) = false) : lcE L i = lcE L (i + 1) := by unfold lcE; rw [lcC_f h]
theorem lc_inv (hn : L.parts.flatten.Nodup) (hpo : ∀ j, j < L.p.length → 0 ≤ partI L.parts (L.p.getD j 0)) : ∀ i j, j < L.p.length → (lcP L i).getD j 0 = 2 → (lcU L i).getD j false = true
 | 0, j, hj, h => by
  exfalso
  unfold lcP at h
  rw [List.getD_eq_getElem?_getD, List.getElem?_replicate, if_pos hj] at h
  exact absurd h (by decide)
 | i + 1, j, hj, h => by
  have hjl : j < (lcP L i).length := by rw [lcP_len]; exact hj
  have hul : j < (lcU L i).length := by rw [lcU_len]; exact hj
  unfold lcP at h
  rw [tnK_at hjl _ hjl] at h
  show (usJ L i (lcU L i) L.p.length).getD j false = true
  rw [usJ_at hul _ hj]
  have hp := tnK_ge (routes := L.routes) (parts := L.parts) (st := L.st i) (ow := L.ow i) (now := 3 * (i : Int)) (r := L.kk) (tr := 1) (en := lcE L (i + 1)) (ps := lcP L i) (j := j) j (Nat.le_refl j)
  unfold tnP at h
  simp only [hp] at h
  by_cases h2 : (lcP L i).getD j 0 = 2
  ·rw [if_neg (by rw [h2]; decide), lc_inv hn hpo i j hj h2]; rfl
  ·rw [if_neg h2] at h
   by_cases h1 : (lcP L i).getD j 0 = 1
   ·rw [if_pos h1] at h
    rw [if_neg (by rw [h1]; decide)]
    by_cases hq : ((L.st i).getD ((pthR L.routes L.kk).getD j 0).toNat 0 == 1 && (L.ow i).getD (partI L.parts ((pthR L.routes L.kk).getD j 0)).toNat 0 == 1) = true
    ·have : usB L i j = true := by
      unfold usB
      rw [lastP_eq hn (hpo j hj)]
      exact hq
     rw [this, Bool.or_true]
    ·rw [if_neg hq] at h
     exfalso
     split at h <;> exact absurd h (by decide)
   ·rw [if_neg h1] at h; exact absurd h h2
theorem lc_law (hn : L.parts.flatten.Nodup) (hpo : ∀ j, j < L.p.length → 0 ≤ partI L.parts (L.p.getD j 0)) {i j : Nat} (hj : j < L.p.length) (h0 : ¬ (lcP L i).getD j 0 = 0) (h : (lcP L (i + 1)).getD j 0 = 0) :
  (L.st i).getD (L.p.getD j 0).toNat 0 = 0 ∧ ((usJ L i (lcU L i) j).getD j false = true ∨ (¬ lcC L (i + 1) < 0 ∧ ¬ 3 * (i : Int) < lcC L (i + 1) + L.cn)) := by
 have hjl : j < (lcP L i).length := by rw [lcP_len]; exact hj
 unfold lcP at h
 rw [tnK_at hjl _ hjl] at h
 have hp := tnK_ge (routes := L.routes) (parts := L.parts) (st := L.st i) (ow := L.ow i) (now := 3 * (i : Int)) (r := L.kk) (tr := 1) (en := lcE L (i + 1)) (ps := lcP L i) (j := j) j (Nat.le_refl j)
 unfold tnP at h
 simp only [hp] at h
 rw [usJ_ge j (Nat.le_refl j)]
 by_cases h2 : (lcP L i).getD j 0 = 2
 ·rw [if_pos h2] at h
  split at h
  ·rename_i hc
   rw [Bool.and_eq_true, beq_iff_eq] at hc
   exact ⟨hc.1, .inl (lc_inv hn hpo i j hj h2)⟩
  ·exact absurd h (by decide)
 ·rw [if_neg h2] at h
  by_cases h1 : (lcP L i).getD j 0 = 1
  ·rw [if_pos h1] at h
   split at h
   ·exact absurd h (by decide)
   ·split at h
    ·rename_i hc
     rw [Bool.and_eq_true, Bool.and_eq_true, beq_iff_eq, decide_eq_true_eq, decide_eq_true_eq] at hc
     refine ⟨hc.1.1, .inr ?_⟩
     have h3 := hc.1.2
     have h4 := hc.2
     unfold lcE at h3 h4
     split at h3
     ·exact absurd h3 (by decide)
     ·rename_i h5
      rw [if_neg h5] at h4
      exact ⟨h5, by omega⟩
    ·exact absurd h (by decide)
  ·rw [if_neg h1] at h; exact absurd h h0
theorem lc_gone {i j : Nat} (h : ((lcP L i).any fun b => b != 0) = false) : (lcP L i).getD j 0 = 0 := by
 rw [List.getD_eq_getElem?_getD]
 cases hq : (lcP L i)[j]? with
 | none => rfl
 | some x =>
  have := List.any_eq_false.1 h x (List.mem_of_getElem? hq)
  simpa using this
theorem lc_bad (hn : L.parts.flatten.Nodup) (hpo : ∀ j, j < L.p.length → 0 ≤ partI L.parts (L.p.getD j 0)) {i j : Nat} (hj : j < L.p.length) (h0 : ¬ (lcP L i).getD j 0 = 0) (h : (lcP L (i + 1)).getD j 0 = 0) :
  (((L.st i).getD (L.p.getD j 0).toNat 0 != 0) || ((!((usJ L i (lcU L i) j).getD j false)) && ((decide (lcC L (i + 1) < 0)) || (decide (3 * (i : Int) < lcC L (i + 1) + L.cn))))) = false := by
 obtain ⟨h1, h2⟩ := lc_law hn hpo hj h0 h
 rw [h1]
 refine h2.elim (fun h3 => ?_) (fun h3 => ?_)
 ·rw [h3]; rfl
 ·rw [decide_eq_false h3.1, decide_eq_false h3.2, Bool.or_false, Bool.and_false]; rfl
theorem us_set {us : List Bool} {i j : Nat} {u : Bool} (h : ¬ (lcP L i).getD j 0 = 0) (hu : u = usB L i j) : usJ L i us (j + 1) = (usJ L i us j).set j ((usJ L i us j).getD j false || u) := by
 show (if _ then _ else _) = _
 rw [if_neg h, hu]
end
end Go.Lo
