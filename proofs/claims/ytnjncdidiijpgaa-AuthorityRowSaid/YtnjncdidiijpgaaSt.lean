/- Layer 13 (state): plain definitions and plain laws. -/
import Derived.Test.YtnjncdidiijpgaaDr
import Derived.Test.YtnjncdidiijpgaaLoU
set_option linter.unusedVariables false
set_option linter.unusedSimpArgs false
namespace Go.Lo
structure Chg where
  sec : Int
  kind : Int
def dC : Chg := ⟨0, 0⟩
def eCh (x : Chg) : List AV := [.v (.int .i64 x.sec), .v (.int .u8 x.kind)]
instance (x : Chg) : NoIL (eCh x) := by unfold eCh; infer_instance
instance (x : Chg) : FlatL (eCh x) := by unfold eCh; infer_instance
theorem Chg.ext2 {x y : Chg} (h1 : x.sec = y.sec) (h2 : x.kind = y.kind) : x = y := by
  cases x; cases y; simp_all
instance : DecidableEq Chg := fun x y => if h : x.sec = y.sec ∧ x.kind = y.kind then isTrue (Chg.ext2 h.1 h.2) else isFalse fun e => h (by rw [e]; exact ⟨rfl, rfl⟩)
/-! ### the kinds of changes -/
def kindT : List Int := [0, 2, 3, 1, 6, 0, 8, 7, 9, 11, 0, 10, 4, 12, 5, 0]
def kindI (a b : Int) : Int := if decide (a > 3) || decide (b > 3) then 0 else kindT.getD (4 * a + b).toNat 0
theorem kind_no {a b : Int} (h : (decide (a > 3) || decide (b > 3)) = true) : kindI a b = 0 := by unfold kindI; rw [h]; rfl
theorem kind_in {a b : Int} (h : (decide (a > 3) || decide (b > 3)) = false) : kindI a b = kindT.getD (4 * a + b).toNat 0 := by unfold kindI; rw [h]; rfl
theorem kind_lt {a b : Int} (h : (decide (a > 3) || decide (b > 3)) = false) (ha : 0 ≤ a) (hb : 0 ≤ b) : (4 * a + b).toNat < kindT.length ∧ a < 4 ∧ b < 4 := by
  simp only [Bool.or_eq_false_iff, decide_eq_false_iff_not] at h
  show (4 * a + b).toNat < 16 ∧ _
  omega
theorem kindI_range (a b : Int) : 0 ≤ kindI a b ∧ kindI a b ≤ 12 := by
  unfold kindI
  split
  · omega
  · have : ∀ k, 0 ≤ kindT.getD k 0 ∧ kindT.getD k 0 ≤ 12 := fun k => by
      rcases Nat.lt_or_ge k 16 with h | h
      · have : ∀ k, k < 16 → 0 ≤ kindT.getD k 0 ∧ kindT.getD k 0 ≤ 12 := by decide
        exact this k h
      · rw [List.getD_eq_getElem?_getD, List.getElem?_eq_none (by show 16 ≤ k; exact h)]; decide
    exact this _
theorem kind_cell {a b : Int} (h : (decide (a > 3) || decide (b > 3)) = false) (ha : 0 ≤ a) (hb : 0 ≤ b) :
    ((kindT.map fun n => AV.v (.int .u8 n)).drop (a.toNat * 4)).drop (b.toNat * 1) = .v (.int .u8 (kindI a b)) :: (kindT.map fun n => AV.v (.int .u8 n)).drop (4 * a.toNat + b.toNat + 1) := by
  obtain ⟨h1, h2, h3⟩ := kind_lt h ha hb
  rw [kind_in h]
  obtain ⟨m, rfl⟩ := Int.eq_ofNat_of_zero_le ha
  obtain ⟨n, rfl⟩ := Int.eq_ofNat_of_zero_le hb
  have hm : m < 4 := by omega
  have hn : n < 4 := by omega
  have e : (4 * (m : Int) + (n : Int)).toNat = 4 * m + n := by omega
  rw [e, List.drop_drop, Int.toNat_natCast, Int.toNat_natCast, show m * 4 + n * 1 = 4 * m + n by omega]
  have hl : 4 * m + n < (kindT.map fun n => AV.v (.int .u8 n)).length := by show _ < 16; omega
  rw [List.drop_eq_getElem_cons hl, List.getElem_map]
  have hg : kindT.getD (4 * m + n) 0 = kindT[4 * m + n]'(by show _ < 16; omega) := by
    rw [List.getD_eq_getElem?_getD, List.getElem?_eq_getElem (by show _ < 16; omega)]; rfl
  rw [hg]
def chgK (was is : List Int) : Nat → List Chg
  | 0 => []
  | k + 1 => chgK was is k ++ (if kindI (was.getD k 0) (is.getD k 0) > 0 then [⟨(k : Int), kindI (was.getD k 0) (is.getD k 0)⟩] else [])
def chgL (was is : List Int) : List Chg := chgK was is (min was.length is.length)
theorem chgK_len (was is : List Int) (k : Nat) : (chgK was is k).length ≤ k := by
  induction k with
  | zero => simp [chgK]
  | succ k ih => unfold chgK; split <;> simp <;> omega
theorem chgK_on {was is : List Int} {k : Nat} (h : kindI (was.getD k 0) (is.getD k 0) > 0) : chgK was is (k + 1) = chgK was is k ++ [⟨(k : Int), kindI (was.getD k 0) (is.getD k 0)⟩] := by
  show chgK was is k ++ (if _ then _ else _) = _
  rw [if_pos h]
theorem chgK_off {was is : List Int} {k : Nat} (h : ¬ kindI (was.getD k 0) (is.getD k 0) > 0) : chgK was is (k + 1) = chgK was is k := by
  show chgK was is k ++ (if _ then _ else _) = _
  rw [if_neg h, List.append_nil]
theorem chg_ne {x y : Chg} (h : (!decide (x.sec = y.sec ∧ x.kind = y.kind)) = true) : x ≠ y := fun e => by subst e; simp at h
theorem chg_eq {x y : Chg} (h : (!decide (x.sec = y.sec ∧ x.kind = y.kind)) = false) : x = y := by
  have : x.sec = y.sec ∧ x.kind = y.kind := by simpa using h
  exact Chg.ext2 this.1 this.2
theorem chgL_len (was is : List Int) : (chgL was is).length ≤ was.length := Nat.le_trans (chgK_len _ _ _) (Nat.min_le_left _ _)
theorem kind_same {a : Int} (h : 0 ≤ a) : kindI a a = 0 := by
  by_cases hc : (decide (a > 3) || decide (a > 3)) = true
  · exact kind_no hc
  · rw [kind_in (by simpa using hc)]
    obtain ⟨m, rfl⟩ := Int.eq_ofNat_of_zero_le h
    have hm : m < 4 := by simp at hc; omega
    rw [show (4 * (m : Int) + (m : Int)).toNat = 5 * m by omega]
    have : ∀ m, m < 4 → kindT.getD (5 * m) 0 = 0 := by decide
    exact this m hm
theorem chg_same {l : List Int} (h : ∀ x, x ∈ l → 0 ≤ x ∧ x ≤ 255) : chgL l l = [] := by
  have : ∀ k, k ≤ l.length → chgK l l k = [] := fun k => by
    induction k with
    | zero => intro _; rfl
    | succ k ih =>
      intro hk
      rw [chgK_off (by rw [kind_same (h _ (getD_mem 0 (by omega))).1]; omega), ih (by omega)]
  exact this _ (by omega)
/-- The first k numbers of a list, each below four. -/
def mod4 (v : List Int) (k : Nat) : List Int := (v.take k).map (· % 4) ++ v.drop k
theorem mod4_len (v : List Int) (k : Nat) : (mod4 v k).length = v.length := by simp [mod4]; omega
theorem mod4_get {v : List Int} {k : Nat} (h : k < v.length) : (mod4 v k).getD k 0 = v.getD k 0 := by
  have h1 : ((v.take k).map (· % 4)).length = k := by simp; omega
  rw [List.getD_eq_getElem?_getD, List.getD_eq_getElem?_getD]
  unfold mod4
  rw [List.getElem?_append_right (by omega), h1, Nat.sub_self, List.getElem?_drop]
  rfl
theorem mod4_step {v : List Int} {k : Nat} (h : k < v.length) : mod4 v (k + 1) = (mod4 v k).set k ((mod4 v k).getD k 0 % 4) := by
  have h1 : ((v.take k).map (· % 4)).length = k := by simp; omega
  rw [mod4_get h]
  unfold mod4
  rw [List.set_append_right _ _ (by omega), h1, Nat.sub_self, List.drop_eq_getElem_cons h, List.set_cons_zero, List.take_add_one, List.getElem?_eq_getElem h, List.map_append, List.append_assoc, List.getD_eq_getElem?_getD, List.getElem?_eq_getElem h]
  rfl
theorem mod4_b {v : List Int} {k : Nat} (h : ∀ x, x ∈ v → 0 ≤ x ∧ x ≤ 255) : ∀ x, x ∈ mod4 v k → 0 ≤ x ∧ x ≤ 255 := fun x hx => by
  rcases List.mem_append.1 hx with hx | hx
  · obtain ⟨y, hy, rfl⟩ := List.mem_map.1 hx
    have := h y (List.mem_of_mem_take hy)
    omega
  · exact h x (List.mem_of_mem_drop hx)
/-! ### whose a part is, what a section is -/
def partI (parts : List (List Int)) (s : Int) : Int := idxB (fun l => decide (s ∈ l)) parts
theorem partI_range (parts : List (List Int)) (s : Int) : partI parts s = -1 ∨ (0 ≤ partI parts s ∧ partI parts s < (parts.length : Int)) := idxB_range _ [] _
def findI (views : List View) (id : Int) : Int := idxB (fun v => decide (v.id = id)) views
theorem findI_range (views : List View) (id : Int) : findI views id = -1 ∨ (0 ≤ findI views id ∧ findI views id < (views.length : Int)) := idxB_range _ dV _
def findV (views : List View) (id : Int) : View := if findI views id < 0 then dV else views.getD (findI views id).toNat dV
theorem findV_no {views : List View} {id : Int} (h : findI views id < 0) : findV views id = dV := by unfold findV; rw [if_pos h]
theorem findV_at {views : List View} {id : Int} (h : ¬ findI views id < 0) : findV views id = views.getD (findI views id).toNat dV := by unfold findV; rw [if_neg h]
theorem findV_mem {views : List View} {id : Int} (h : ¬ findI views id < 0) : views.getD (findI views id).toNat dV ∈ views := getD_mem dV (by have := findI_range views id; omega)
theorem findV_span {views : List View} {id : Int} (hv : ∀ v, v ∈ views → v.span.length ≤ 65536) : (findV views id).span.length ≤ 65536 := by
  by_cases h : findI views id < 0
  · rw [findV_no h]; show 0 ≤ _; omega
  · rw [findV_at h]; exact hv _ (findV_mem h)
def oneS (s owner : Int) (views : List View) : Int :=
  if owner = -2 then 0 else if owner = -1 then (if views.any (hasV s) then 2 else 3) else if s ∈ (findV views owner).span then 1 else 0
theorem oneS_a {s o : Int} {views : List View} (h : o = -2) : oneS s o views = 0 := by unfold oneS; rw [if_pos h]
theorem oneS_b {s o : Int} {views : List View} (h : ¬ o = -2) (h2 : o = -1) (h3 : views.any (hasV s) = true) : oneS s o views = 2 := by unfold oneS; rw [if_neg h, if_pos h2, if_pos h3]
theorem oneS_c {s o : Int} {views : List View} (h : ¬ o = -2) (h2 : o = -1) (h3 : views.any (hasV s) = false) : oneS s o views = 3 := by unfold oneS; rw [if_neg h, if_pos h2, if_neg (by rw [h3]; simp)]
theorem oneS_d {s o : Int} {views : List View} (h : ¬ o = -2) (h2 : ¬ o = -1) (h3 : s ∈ (findV views o).span) : oneS s o views = 1 := by unfold oneS; rw [if_neg h, if_neg h2, if_pos h3]
theorem oneS_e {s o : Int} {views : List View} (h : ¬ o = -2) (h2 : ¬ o = -1) (h3 : ¬ s ∈ (findV views o).span) : oneS s o views = 0 := by unfold oneS; rw [if_neg h, if_neg h2, if_neg h3]
theorem oneS_range (s owner : Int) (views : List View) : 0 ≤ oneS s owner views ∧ oneS s owner views ≤ 3 := by
  unfold oneS; repeat' split
  all_goals omega
def whoI (parts : List (List Int)) (owners : List Int) (s : Int) : Int := if partI parts s ≥ 0 then owners.getD (partI parts s).toNat 0 else -1
def ofK (parts : List (List Int)) (owners : List Int) (views : List View) : Nat → List Int
  | 0 => []
  | k + 1 => ofK parts owners views k ++ [oneS (k : Int) (whoI parts owners (k : Int)) views]
theorem ofK_len (parts : List (List Int)) (owners : List Int) (views : List View) (k : Nat) : (ofK parts owners views k).length = k := by
  induction k with
  | zero => rfl
  | succ k ih => simp [ofK, ih]
theorem whoI_t {parts : List (List Int)} {owners : List Int} {s : Int} (h : partI parts s ≥ 0) : owners.getD (partI parts s).toNat 0 = whoI parts owners s := by unfold whoI; rw [if_pos h]
theorem whoI_f {parts : List (List Int)} {owners : List Int} {s : Int} (h : ¬ partI parts s ≥ 0) : (-1 : Int) = whoI parts owners s := by unfold whoI; rw [if_neg h]
theorem eq_dec (a b : Int) : (a == b) = decide (a = b) := rfl
/-! ### at first nobody knows -/
def repK (n k : Nat) : List Int := List.replicate k (-1) ++ List.replicate (n - k) 0
theorem u64_in {n : Int} (h : 0 ≤ n ∧ n ≤ 18446744073709551615) : IntKind.u64.wrap n = n := by rw [IntKind.wrap_u64]; omega
theorem repK_len {n k : Nat} (h : k ≤ n) : (repK n k).length = n := by simp [repK]; omega
theorem repK_all (n : Nat) : repK n n = List.replicate n (-1) := by simp [repK]
theorem repK_zero (n : Nat) : repK n 0 = List.replicate n 0 := by simp [repK]
theorem enc_repl {k : Nat} {v : Int} : enc eI (List.replicate k v) = List.replicate k (.v (.int .i64 v)) := enc_rep k v _ rfl
theorem repK_spl {n j i : Nat} (h : j + i ≤ n) : spl (enc eI (repK n j)) (j * 1) (enc eI (List.replicate i (-1))) = enc eI (repK n (j + i)) := by
  unfold spl repK
  rw [enc_append, enc_append, enc_repl, enc_repl, enc_repl, enc_repl, enc_repl, Nat.mul_one, List.length_replicate]
  rw [List.take_append_of_le_length (by simp), List.take_of_length_le (by simp), List.drop_append, List.drop_of_length_le (by simp), List.nil_append, List.length_replicate, List.drop_replicate]
  rw [← List.replicate_append_replicate, show n - j - (j + i - j) = n - (j + i) by omega]
theorem repK_take {n j i : Nat} (h : i ≤ j) : (enc eI (repK n j)).take (i * 1) = enc eI (List.replicate i (-1)) := by
  unfold repK
  rw [enc_append, enc_repl, enc_repl, enc_repl, Nat.mul_one, List.take_append_of_le_length (by simp; exact h), List.take_replicate, Nat.min_eq_left h]
/-- How many have been laid behind k rounds: twice as many each time. -/
def pw (n : Nat) : Nat → Nat
  | 0 => min 1 n
  | k + 1 => pw n k + min (pw n k) (n - pw n k)
theorem pw_facts (n k : Nat) (h : 1 ≤ n) : pw n k ≤ n ∧ 1 ≤ pw n k ∧ (pw n k < n → k + 1 ≤ pw n k) := by
  induction k with
  | zero => simp [pw]; omega
  | succ k ih => simp only [pw]; omega
end Go.Lo
