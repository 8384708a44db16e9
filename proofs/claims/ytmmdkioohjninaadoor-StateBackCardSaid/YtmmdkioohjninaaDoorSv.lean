/- Layer 13 (state): fields, owners, views. -/
import Derived.Test.YtmmdkioohjninaaDoorSt
set_option linter.unusedVariables false
set_option linter.unusedSimpArgs false
namespace Go.Lo
structure Look where
  id : Int
  sure : Bool
  span : List Int
def dL : Look := ⟨0, false, []⟩
def eLk (x : Look) : List AV := [.v (.int .u8 x.id), .v (.bool x.sure), .ro x.span.length (enc eU8 x.span)]
instance (x : Look) : NoIL (eLk x) := by unfold eLk; infer_instance
structure Field where
  own : List Int
  clear : List Bool
  looks : List Look
def eF (f : Field) : List AV := [.ro f.own.length (enc eU8 f.own), .ro f.clear.length (enc eB f.clear), .ro f.looks.length (enc eLk f.looks)]
structure FieldOk (f : Field) : Prop where
  own : ∀ x, x ∈ f.own → 0 ≤ x ∧ x ≤ 255
  looks : ∀ x, x ∈ f.looks → (0 ≤ x.id ∧ x.id ≤ 255) ∧ ∀ y, y ∈ x.span → 0 ≤ y ∧ y ≤ 255
  n : f.looks.length ≤ maxLen
  m : f.own.length ≤ maxLen
def fewB (l : List Look) : Bool := !(l.any fun x => decide (x.span.length > 14)) && decide (l.length ≤ 6)
theorem fewB_big {l : List Look} {k : Nat} (hk : k < l.length) (h : (l.getD k dL).span.length > 14) : fewB l = false := by
  have : l.any (fun x => decide (x.span.length > 14)) = true := List.any_eq_true.2 ⟨_, getD_mem dL hk, by simpa using h⟩
  simp [fewB, this]
theorem fewB_end {l : List Look} {k : Nat} (hk : l.length ≤ k) (h : (l.take k).any (fun x => decide (x.span.length > 14)) = false) : fewB l = decide (l.length ≤ 6) := by
  rw [List.take_of_length_le hk] at h
  unfold fewB; rw [h]; rfl
theorem fewB_iff {l : List Look} (h : fewB l = true) : l.length ≤ 6 ∧ ∀ x, x ∈ l → x.span.length ≤ 14 := by
  simp only [fewB, Bool.and_eq_true, Bool.not_eq_true', decide_eq_true_eq] at h
  refine ⟨h.2, fun x hx => ?_⟩
  rcases Nat.lt_or_ge 14 x.span.length with hc | hc
  · have : l.any (fun x => decide (x.span.length > 14)) = true := List.any_eq_true.2 ⟨x, hx, by simpa using hc⟩
    rw [h.1] at this; cases this
  · exact hc
def own1 (own : List Int) (k : Nat) : Int := if k < own.length then own.getD k 0 % 5 else 0
theorem own1_t {own : List Int} {k : Nat} (h : k < own.length) : own.getD k 0 % 5 = own1 own k := by unfold own1; rw [if_pos h]
theorem own1_f {own : List Int} {k : Nat} (h : ¬ k < own.length) : (0 : Int) = own1 own k := by unfold own1; rw [if_neg h]
theorem own1_range (own : List Int) (k : Nat) : 0 ≤ own1 own k ∧ own1 own k ≤ 4 := by unfold own1; split <;> omega
def ownK (own : List Int) : Nat → List Int
  | 0 => []
  | k + 1 => ownK own k ++ [own1 own k - 2]
theorem ownK_len (own : List Int) (k : Nat) : (ownK own k).length = k := by
  induction k with
  | zero => rfl
  | succ k ih => simp [ownK, ih]
theorem ownK_range {own : List Int} {x : Int} : ∀ k, x ∈ ownK own k → -2 ≤ x ∧ x ≤ 2
  | 0, h => by cases h
  | k + 1, h => by
    rcases List.mem_append.1 h with h | h
    · exact ownK_range k h
    · have := own1_range own k
      simp at h; omega
def spanK (n : Nat) (sp : List Int) : Nat → List Int
  | 0 => []
  | j + 1 => if sp.getD j 0 % (n : Int) ∈ spanK n sp j then spanK n sp j else spanK n sp j ++ [sp.getD j 0 % (n : Int)]
def spanL (n : Nat) (sp : List Int) : List Int := spanK n sp sp.length
theorem spanK_len (n : Nat) (sp : List Int) (j : Nat) : (spanK n sp j).length ≤ j := by
  induction j with
  | zero => simp [spanK]
  | succ j ih => unfold spanK; split <;> first | omega | (simp; omega)
theorem spanK_in {n : Nat} {sp : List Int} {j : Nat} (h : sp.getD j 0 % (n : Int) ∈ spanK n sp j) : spanK n sp (j + 1) = spanK n sp j := by
  show (if _ then _ else _) = _
  rw [if_pos h]
theorem spanK_new {n : Nat} {sp : List Int} {j : Nat} (h : ¬ sp.getD j 0 % (n : Int) ∈ spanK n sp j) : spanK n sp (j + 1) = spanK n sp j ++ [sp.getD j 0 % (n : Int)] := by
  show (if _ then _ else _) = _
  rw [if_neg h]
def viewsK (n : Nat) (looks : List Look) : Nat → List View
  | 0 => []
  | k + 1 => if findI (viewsK n looks k) ((looks.getD k dL).id % 4) < 0 then viewsK n looks k ++ [⟨(looks.getD k dL).id % 4, (looks.getD k dL).sure, spanL n (looks.getD k dL).span⟩] else viewsK n looks k
def viewsL (n : Nat) (looks : List Look) : List View := viewsK n looks looks.length
theorem viewsK_len (n : Nat) (looks : List Look) (k : Nat) : (viewsK n looks k).length ≤ k := by
  induction k with
  | zero => simp [viewsK]
  | succ k ih => unfold viewsK; split <;> first | omega | (simp; omega)
theorem viewsK_old {n : Nat} {looks : List Look} {k : Nat} (h : ¬ findI (viewsK n looks k) ((looks.getD k dL).id % 4) < 0) : viewsK n looks (k + 1) = viewsK n looks k := by
  show (if _ then _ else _) = _
  rw [if_neg h]
theorem viewsK_new {n : Nat} {looks : List Look} {k : Nat} (h : findI (viewsK n looks k) ((looks.getD k dL).id % 4) < 0) : viewsK n looks (k + 1) = viewsK n looks k ++ [⟨(looks.getD k dL).id % 4, (looks.getD k dL).sure, spanL n (looks.getD k dL).span⟩] := by
  show (if _ then _ else _) = _
  rw [if_pos h]
theorem viewsK_span {n : Nat} {looks : List Look} {m : Nat} (hm : ∀ x, x ∈ looks → x.span.length ≤ m) {v : View} : ∀ k, k ≤ looks.length → v ∈ viewsK n looks k → v.span.length ≤ m
  | 0, _, h => by cases h
  | k + 1, hk, h => by
    unfold viewsK at h
    split at h
    · rcases List.mem_append.1 h with h | h
      · exact viewsK_span hm k (by omega) h
      · rw [List.mem_singleton.1 h]
        exact Nat.le_trans (spanK_len _ _ _) (hm _ (getD_mem dL (by omega)))
    · exact viewsK_span hm k (by omega) h
theorem R_tup3 {w : World} {C : Ctx} {x y z b : AV} {u : Value} (h : R w C (.tup [.agg [x, y, z], b]) u) (h1 : isOne x = true) (h2 : isOne y = true) (h3 : isOne z = true) : R w C (.tup [.agg [.one, .one, .one], b]) u := by
  cases h with
  | tup _ us hs hr =>
    refine .tup _ us hs fun j av hj => ?_
    match j, hj with
    | 0, hj =>
      simp at hj; subst hj
      have h0 := hr 0 _ rfl
      generalize us.getD 0 undef = v at h0
      cases h0 with
      | agg _ vs hvs hvr =>
        refine .agg _ vs hvs fun i a hi => ?_
        match i, hi with
        | 0, hi => simp at hi; subst hi; exact .one _ (R_one (hvr 0 _ rfl) h1)
        | 1, hi => simp at hi; subst hi; exact .one _ (R_one (hvr 1 _ rfl) h2)
        | 2, hi => simp at hi; subst hi; exact .one _ (R_one (hvr 2 _ rfl) h3)
        | i + 3, hi => simp at hi
    | 1, hj => simp at hj; subst hj; exact hr 1 _ rfl
    | j + 2, hj => simp at hj
theorem fn_tup3 {P : Program} {f : FuncId} {args : List AV} {x y z b : AV} (h : Fn P f args (.tup [.agg [x, y, z], b])) (h1 : isOne x = true) (h2 : isOne y = true) (h3 : isOne z = true) : Fn P f args (.tup [.agg [.one, .one, .one], b]) :=
  fun w X vs k1 k2 kL k3 => (h w X vs k1 k2 kL k3).mono fun e w' ⟨v, C', res, news, h4, ⟨h5, h6⟩, h7, h8, h9⟩ => ⟨v, C', _, news, h4, ⟨rfl, h6⟩, h7, R_tup3 (by rw [h5] at h8; exact h8) h1 h2 h3, h9⟩
/-! ### what a section is, by the document -/
def s1 (who : Int) (views : List View) (s : Int) : Int := if who ≥ 0 ∧ s ∈ (findV views who).span then 1 else 0
theorem s1_t {who : Int} {views : List View} {s : Int} (h : who ≥ 0) (h2 : s ∈ (findV views who).span) : (1 : Int) = s1 who views s := by unfold s1; rw [if_pos ⟨h, h2⟩]
theorem s1_f {who : Int} {views : List View} {s : Int} (h2 : ¬ s ∈ (findV views who).span) : (0 : Int) = s1 who views s := by unfold s1; rw [if_neg fun h => h2 h.2]
theorem s1_n {who : Int} {views : List View} {s : Int} (h : ¬ who ≥ 0) : (0 : Int) = s1 who views s := by unfold s1; rw [if_neg fun h2 => h h2.1]
def s2 (views : List View) (s : Int) (j : Nat) : Int := if (views.take j).any (hasV s) then 2 else 3
theorem s2_on {views : List View} {s : Int} {j : Nat} (hj : j < views.length) (h : hasV s (views.getD j dV) = true) : (2 : Int) = s2 views s (j + 1) := by
  have : (views.take (j + 1)).any (hasV s) = true := List.any_eq_true.2 ⟨_, List.mem_of_getElem? (i := j) (by rw [List.getElem?_take, if_pos (by omega), List.getD_eq_getElem?_getD, List.getElem?_eq_getElem hj]; rfl), h⟩
  unfold s2; rw [if_pos this]
theorem s2_off {views : List View} {s : Int} {j : Nat} (hj : j < views.length) (h : hasV s (views.getD j dV) = false) : s2 views s j = s2 views s (j + 1) := by
  have : (views.take (j + 1)).any (hasV s) = (views.take j).any (hasV s) := by
    rw [List.take_add_one, List.any_append, List.getElem?_eq_getElem hj]
    rw [List.getD_eq_getElem?_getD, List.getElem?_eq_getElem hj] at h
    simp at h; simp [h]
  unfold s2; rw [this]
theorem one_of_s2 {who : Int} {views : List View} {s : Int} {j : Nat} (h : who = -1) (hj : views.length ≤ j) : s2 views s j = oneS s who views := by
  unfold s2
  rw [List.take_of_length_le hj]
  cases hv : views.any (hasV s) with
  | true => rw [oneS_b (by omega) h hv]; rfl
  | false => rw [oneS_c (by omega) h hv]; rfl
theorem one_of_s1 {who : Int} {views : List View} {s : Int} (h : ¬ who = -1) (hw : -2 ≤ who) : s1 who views s = oneS s who views := by
  by_cases h2 : who = -2
  · rw [oneS_a h2, ← s1_n (by omega)]
  · by_cases h3 : s ∈ (findV views who).span
    · rw [oneS_d h2 h h3, ← s1_t (by omega) h3]
    · rw [oneS_e h2 h h3, ← s1_f h3]
theorem whoI_ge {parts : List (List Int)} {owners : List Int} {s : Int} (ho : parts.length ≤ owners.length) (h : ∀ x, x ∈ owners → -2 ≤ x) : -2 ≤ whoI parts owners s := by
  unfold whoI
  split
  · have := partI_range parts s
    exact h _ (getD_mem 0 (by omega))
  · omega
theorem ofK_get {parts : List (List Int)} {owners : List Int} {views : List View} {n i : Nat} (h : i < n) : (ofK parts owners views n).getD i 0 = oneS (i : Int) (whoI parts owners (i : Int)) views := by
  induction n with
  | zero => omega
  | succ n ih =>
    have hl := ofK_len parts owners views n
    rw [List.getD_eq_getElem?_getD]
    unfold ofK
    rcases Nat.lt_or_ge i n with hi | hi
    · rw [List.getElem?_append_left (by omega), ← List.getD_eq_getElem?_getD]
      exact ih hi
    · have : i = n := by omega
      subst this
      rw [List.getElem?_append_right (by omega), hl, Nat.sub_self]
      rfl
theorem whoI_rep {parts : List (List Int)} {s : Int} : whoI parts (List.replicate parts.length (-1)) s = -1 := by
  unfold whoI
  split
  · have := partI_range parts s
    rw [List.getD_eq_getElem?_getD, List.getElem?_replicate, if_pos (by omega)]; rfl
  · rfl
theorem start_law {parts : List (List Int)} {views : List View} {n i k : Nat} (h : i < n) (hk : views.length ≤ k) : (ofK parts (List.replicate parts.length (-1)) views n).getD i 0 = s2 views (i : Int) k := by
  rw [ofK_get h, whoI_rep, one_of_s2 (who := -1) rfl hk]
theorem partT_mem {j : Int} {i : Nat} : ∀ k, i < k → (i : Int) ∈ partD.partT j k ∨ ∃ x, x ∈ partD j k ∧ (i : Int) ∈ x
  | 0, h => by omega
  | k + 1, h => by
    cases hj : joinB j k with
    | true =>
      obtain ⟨h1, h2⟩ := parts_join hj
      rw [h1, h2]
      rcases Nat.lt_or_ge i k with hi | hi
      · rcases partT_mem k hi with h3 | h3
        · exact .inl (List.mem_append_left _ h3)
        · exact .inr h3
      · have : i = k := by omega
        subst this
        exact .inl (List.mem_append_right _ List.mem_cons_self)
    | false =>
      obtain ⟨h1, h2⟩ := parts_new hj
      rw [h1, h2]
      rcases Nat.lt_or_ge i k with hi | hi
      · right
        unfold partsK
        rw [if_neg (by omega)]
        rcases partT_mem k hi with h3 | ⟨x, h3, h4⟩
        · exact ⟨_, List.mem_append_right _ List.mem_cons_self, h3⟩
        · exact ⟨x, List.mem_append_left _ h3, h4⟩
      · have : i = k := by omega
        subst this
        exact .inl List.mem_cons_self
/-- Each section is in a part. -/
theorem part_in {form j : Int} {i : Nat} (h : i < (mkEnds form).length) : 0 ≤ partI (mkParts form j) (i : Int) ∧ partI (mkParts form j) (i : Int) < ((mkParts form j).length : Int) := by
  have hr := partI_range (mkParts form j) (i : Int)
  have : ∃ x, x ∈ mkParts form j ∧ (i : Int) ∈ x := by
    unfold mkParts partsK
    rw [if_neg (by omega)]
    rcases partT_mem (j := j) _ h with h3 | ⟨x, h3, h4⟩
    · exact ⟨_, List.mem_append_right _ List.mem_cons_self, h3⟩
    · exact ⟨x, List.mem_append_left _ h3, h4⟩
  obtain ⟨x, h1, h2⟩ := this
  have hany : (mkParts form j).any (fun l => decide ((i : Int) ∈ l)) = true := List.any_eq_true.2 ⟨x, h1, by simpa using h2⟩
  have hd := idxB_any (f := fun l : List Int => decide ((i : Int) ∈ l)) [] (mkParts form j)
  rw [hany] at hd
  have : partI (mkParts form j) (i : Int) ≥ 0 := of_decide_eq_true hd
  omega
/-- What a section is, by whose its part is. -/
theorem one_cases {s o : Int} {views : List View} (h : -2 ≤ o) : (o = -2 ∧ oneS s o views = 0) ∨ (o = -1 ∧ oneS s o views = (if views.any (hasV s) then 2 else 3)) ∨ (0 ≤ o ∧ s ∈ (findV views o).span ∧ oneS s o views = 1) ∨ (0 ≤ o ∧ ¬ s ∈ (findV views o).span ∧ oneS s o views = 0) := by
  by_cases h1 : o = -2
  · exact .inl ⟨h1, oneS_a h1⟩
  · by_cases h2 : o = -1
    · refine .inr (.inl ⟨h2, ?_⟩)
      cases hv : views.any (hasV s) with
      | true => rw [oneS_b h1 h2 hv]; rfl
      | false => rw [oneS_c h1 h2 hv]; rfl
    · by_cases h3 : s ∈ (findV views o).span
      · exact .inr (.inr (.inl ⟨by omega, h3, oneS_d h1 h2 h3⟩))
      · exact .inr (.inr (.inr ⟨by omega, h3, oneS_e h1 h2 h3⟩))
theorem partT_le (j : Int) (k : Nat) : (partD.partT j k).length ≤ k := partT_len j k
theorem partD_each {j : Int} {x : List Int} : ∀ k, x ∈ partD j k → x.length ≤ k
  | 0, h => by cases h
  | k + 1, h => by
    unfold partD at h
    split at h
    · exact Nat.le_succ_of_le (partD_each k h)
    · split at h
      · cases h
      · rcases List.mem_append.1 h with h | h
        · exact Nat.le_succ_of_le (partD_each k h)
        · rw [List.mem_singleton.1 h]; exact Nat.le_succ_of_le (partT_len j k)
theorem mkParts_facts (form j : Int) : 1 ≤ (mkParts form j).length ∧ (mkParts form j).length ≤ 8 ∧ ∀ x, x ∈ mkParts form j → x.length ≤ 65536 := by
  have hel := mkEnds_len form
  have h1 := partsK_len j (mkEnds form).length
  refine ⟨?_, by unfold mkParts; omega, fun x hx => ?_⟩
  · unfold mkParts partsK
    rw [if_neg (by omega)]
    simp
  · unfold mkParts partsK at hx
    rw [if_neg (by omega)] at hx
    rcases List.mem_append.1 hx with hx | hx
    · have := partD_each _ hx; omega
    · rw [List.mem_singleton.1 hx]
      have := partT_len j (mkEnds form).length
      omega
theorem free_law {s X o : Int} {views : List View} (hX : X = oneS s o views) (h : -2 ≤ o) : (o = -2 ∧ X = 0 ∧ True) ∨ (o = -1 ∧ X = 2 ∧ True) ∨ (o = -1 ∧ X = 3 ∧ True) ∨ (0 ≤ o ∧ X = 1 ∧ s ∈ (findV views o).span) ∨ (0 ≤ o ∧ X = 0 ∧ ¬ s ∈ (findV views o).span) := by
  rw [hX]
  rcases one_cases (s := s) (views := views) h with ⟨h1, h2⟩ | ⟨h1, h2⟩ | ⟨h1, h3, h2⟩ | ⟨h1, h3, h2⟩
  · exact .inl ⟨h1, h2, trivial⟩
  · split at h2
    · exact .inr (.inl ⟨h1, h2, trivial⟩)
    · exact .inr (.inr (.inl ⟨h1, h2, trivial⟩))
  · exact .inr (.inr (.inr (.inl ⟨h1, h2, h3⟩)))
  · exact .inr (.inr (.inr (.inr ⟨h1, h2, h3⟩)))
theorem remNat {a b : Int} {m : Nat} (h : 0 ≤ a) (hb : b = ((m + 1 : Nat) : Int)) : binI .i64 .rem a b = .int .i64 ((a.toNat % (m + 1) : Nat) : Int) := by
  rw [remI h, hb, Int.natCast_emod, Int.toNat_of_nonneg h]
theorem take_any {p : View → Bool} {l : List View} {k : Nat} (h : (l.take k).any p = true) : l.any p = true := by
  obtain ⟨x, h1, h2⟩ := List.any_eq_true.1 h
  exact List.any_eq_true.2 ⟨x, List.mem_of_mem_take h1, h2⟩
/-- Fewer views: an unowned section that fewer views do not free stays. -/
theorem views_law {s : Int} {views : List View} {k : Nat} {x y : Int} (hx : x = if (views.take k).any (hasV s) then 2 else 3) (hy : y = if views.any (hasV s) then 2 else 3) : (x = 2 ∧ y = 2) ∨ (x = 3 ∧ y = 2) ∨ (x = 3 ∧ y = 3) := by
  by_cases h : (views.take k).any (hasV s) = true
  · rw [if_pos h] at hx; rw [if_pos (take_any h)] at hy; exact .inl ⟨hx, hy⟩
  · rw [if_neg h] at hx
    by_cases h2 : views.any (hasV s) = true
    · rw [if_pos h2] at hy; exact .inr (.inl ⟨hx, hy⟩)
    · rw [if_neg h2] at hy; exact .inr (.inr ⟨hx, hy⟩)
/-- What two lists of views, the one a part of the other, make of a section. -/
theorem views_cases {s X Y o : Int} {views : List View} {k : Nat} (hX : X = oneS s o (views.take k)) (hY : Y = oneS s o views) (h : -2 ≤ o) : (o = -2 ∧ X = 0 ∧ Y = 0) ∨ (o = -1 ∧ X = 2 ∧ Y = 2) ∨ (o = -1 ∧ X = 3 ∧ Y = 2) ∨ (o = -1 ∧ X = 3 ∧ Y = 3) ∨ (0 ≤ o ∧ (X = 0 ∨ X = 1) ∧ (Y = 0 ∨ Y = 1)) := by
  rw [hX, hY]
  rcases one_cases (s := s) (views := views.take k) h with ⟨h1, h2⟩ | ⟨h1, h2⟩ | ⟨h1, h3, h2⟩ | ⟨h1, h3, h2⟩ <;> rcases one_cases (s := s) (views := views) h with ⟨h4, h5⟩ | ⟨h4, h5⟩ | ⟨h4, h6, h5⟩ | ⟨h4, h6, h5⟩ <;> first | omega | skip
  have h7 := views_law h2 h5
  rcases h7 with ⟨a, b⟩ | ⟨a, b⟩ | ⟨a, b⟩ <;> omega
end Go.Lo
