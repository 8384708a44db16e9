/- Timers, plain: started, stopped, asked, ended. -/
import Derived.Test.YthfmdljohlolpaaRi
import Derived.Test.YthfmdljohlolpaaTb
set_option linter.unusedVariables false
set_option linter.unusedSimpArgs false
namespace Go.Lo
/-- A timer's place; below 0: it doesn't run. -/
def ixT (l : List Tm) (i : Int) : Int := idxB (fun x : Tm => decide (x.id = i)) l
def delT (l : List Tm) (i : Int) : List Tm := if ixT l i < 0 then l else l.eraseIdx (ixT l i).toNat
def hasT (l : List Tm) (i : Int) : Bool := decide (¬ ixT l i < 0)
/-- What a start leaves, in the program; its error. -/
def fullT (l : List Tm) (i : Int) : Bool := !hasT l i && decide (32 ≤ l.length)
def putT (l : List Tm) (i a : Int) : List Tm := delT l i ++ [⟨i, a⟩]
def startT (l : List Tm) (i a : Int) : List Tm := if fullT l i = true then l else sortT (putT l i a)
def errT (l : List Tm) (i : Int) : Int := if fullT l i = true then 6 else 0
theorem ixT_range (l : List Tm) (i : Int) : -1 ≤ ixT l i ∧ ixT l i < l.length := by
  unfold ixT
  by_cases h : idxB (fun x : Tm => decide (x.id = i)) l = -1
  · omega
  · obtain ⟨k, h1, h2, _⟩ := idxB_found dT h
    omega
theorem delT_no {l : List Tm} {i : Int} (h : ixT l i < 0) : delT l i = l := if_pos h
theorem delT_yes {l : List Tm} {i : Int} (h : ¬ ixT l i < 0) : delT l i = l.take (ixT l i).toNat ++ l.drop ((ixT l i).toNat + 1) := by
  unfold delT
  rw [if_neg h, List.eraseIdx_eq_take_drop_succ]
theorem delT_len {l : List Tm} {i : Int} : (delT l i).length ≤ l.length := by
  unfold delT
  split
  · exact Nat.le_refl _
  · rw [List.length_eraseIdx]; split <;> omega
theorem delT_len1 {l : List Tm} {i : Int} (h : ¬ ixT l i < 0) : (delT l i).length = l.length - 1 := by
  have := ixT_range l i
  unfold delT
  rw [if_neg h, List.length_eraseIdx, if_pos (by omega)]
theorem startT_len {l : List Tm} {i a : Int} (h : l.length ≤ 32) : (startT l i a).length ≤ 32 := by
  unfold startT
  split
  · exact h
  · rename_i hf
    rw [sortT_len]
    have h1 := delT_len (l := l) (i := i)
    have h2 := delT_len1 (l := l) (i := i)
    simp only [putT, List.length_append, List.length_singleton]
    simp only [fullT, hasT, Bool.and_eq_true, decide_eq_true_eq, Bool.not_eq_true', decide_eq_false_iff_not, Classical.not_not] at hf
    by_cases hx : ixT l i < 0
    · have : ¬ 32 ≤ l.length := fun hh => hf ⟨hx, hh⟩
      omega
    · have := ixT_range l i
      have := h2 hx
      omega
/-- Those that have ended by then, and the others, of a row in its order. -/
def endL (now : Int) (l : List Tm) : List Tm := l.takeWhile fun x => decide (x.at_ ≤ now)
def restL (now : Int) (l : List Tm) : List Tm := l.dropWhile fun x => decide (x.at_ ≤ now)
def idsT (l : List Tm) : List Int := l.map Tm.id
theorem end_rest (now : Int) (l : List Tm) : endL now l ++ restL now l = l := List.takeWhile_append_dropWhile
/-- How many ticks are left, of one; does it run? -/
def leftT (l : List Tm) (i now : Int) : Int :=
  if ixT l i < 0 then 0 else if (l.getD (ixT l i).toNat dT).at_ ≤ now then 0 else
  if IntKind.i64.wrap ((l.getD (ixT l i).toNat dT).at_ - now) > 0 then IntKind.i64.wrap ((l.getD (ixT l i).toNat dT).at_ - now) else 9223372036854775807
section
variable {l : List Tm} {i now : Int}
theorem has_no (h : ixT l i < 0) : hasT l i = false := by unfold hasT; simp [h]
theorem has_yes (h : ¬ ixT l i < 0) : hasT l i = true := by unfold hasT; simp [h]
theorem left_no (h : ixT l i < 0) : leftT l i now = 0 := if_pos h
theorem left_0 (h : ¬ ixT l i < 0) (h1 : (l.getD (ixT l i).toNat dT).at_ ≤ now) : leftT l i now = 0 := by unfold leftT; rw [if_neg h, if_pos h1]
theorem left_1 (h : ¬ ixT l i < 0) (h1 : ¬ (l.getD (ixT l i).toNat dT).at_ ≤ now) (h2 : IntKind.i64.wrap ((l.getD (ixT l i).toNat dT).at_ - now) > 0) : leftT l i now = IntKind.i64.wrap ((l.getD (ixT l i).toNat dT).at_ - now) := by unfold leftT; rw [if_neg h, if_neg h1, if_pos h2]
theorem left_2 (h : ¬ ixT l i < 0) (h1 : ¬ (l.getD (ixT l i).toNat dT).at_ ≤ now) (h2 : ¬ IntKind.i64.wrap ((l.getD (ixT l i).toNat dT).at_ - now) > 0) : leftT l i now = 9223372036854775807 := by unfold leftT; rw [if_neg h, if_neg h1, if_neg h2]
end
def I64 (n : Int) : Prop := -9223372036854775808 ≤ n ∧ n ≤ 9223372036854775807
/-- What a start leaves, in the document. -/
def dstartT (l : List Tm) (i a : Int) : List Tm := if fullT l i = true then l else putT l i a
theorem subU {x now : Int} (h : ¬ x ≤ now) (hx : I64 x) (hn : I64 now) : binI .u64 .sub (IntKind.u64.wrap x) (IntKind.u64.wrap now) = .int .u64 (x - now) := by
  obtain ⟨h1, h2⟩ := hx
  obtain ⟨h3, h4⟩ := hn
  show Value.int .u64 (IntKind.u64.wrap (IntKind.u64.wrap x - IntKind.u64.wrap now)) = _
  congr 1
  simp only [IntKind.wrap, IntKind.bits, IntKind.signed]
  simp
  omega
theorem wrap_le {d : Int} (h0 : 0 < d) (h : d ≤ 9223372036854775807) : IntKind.i64.wrap d = d := by
  simp only [IntKind.wrap, IntKind.bits, IntKind.signed]
  simp
  omega
theorem wrap_gt {d : Int} (h0 : 9223372036854775807 < d) (h : d ≤ 18446744073709551615) : ¬ IntKind.i64.wrap d > 0 := by
  simp only [IntKind.wrap, IntKind.bits, IntKind.signed]
  simp
  omega
theorem convU {x now : Int} (h : ¬ x ≤ now) (h2 : ¬ x - now > 9223372036854775807) : IntKind.i64.wrap (x - now) = x - now := wrap_le (by omega) (by omega)
section
variable {l : List Tm} {i now : Int}
theorem left_big (h : ¬ ixT l i < 0) (h1 : ¬ (l.getD (ixT l i).toNat dT).at_ ≤ now) (h2 : (l.getD (ixT l i).toNat dT).at_ - now > 9223372036854775807) (hx : I64 (l.getD (ixT l i).toNat dT).at_) (hn : I64 now) : leftT l i now = 9223372036854775807 :=
  left_2 h h1 (wrap_gt h2 (by obtain ⟨_, _⟩ := hx; obtain ⟨_, _⟩ := hn; omega))
theorem left_small (h : ¬ ixT l i < 0) (h1 : ¬ (l.getD (ixT l i).toNat dT).at_ ≤ now) (h2 : ¬ (l.getD (ixT l i).toNat dT).at_ - now > 9223372036854775807) : leftT l i now = (l.getD (ixT l i).toNat dT).at_ - now := by
  have hw := convU h1 h2
  rw [left_1 h h1 (by rw [hw]; omega), hw]
end
theorem fullT_eq (l : List Tm) (i : Int) : fullT l i = (!hasT l i && decide ((l.length : Int) ≥ 32)) := by
  unfold fullT
  congr 1
  rw [decide_eq_decide]
  omega
theorem fullT_eq2 (l : List Tm) (i : Int) : fullT l i = (!hasT l i && decide (((delT l i).length : Int) ≥ 32)) := by
  rw [fullT_eq]
  by_cases h : ixT l i < 0
  · rw [delT_no h]
  · rw [has_yes h]; rfl
section
variable {l : List Tm} {i a : Int}
theorem errT_full (h : fullT l i = true) : errT l i = 6 := if_pos h
theorem errT_ok (h : ¬ fullT l i = true) : errT l i = 0 := if_neg h
theorem startT_full (h : fullT l i = true) : startT l i a = l := if_pos h
theorem startT_ok (h : ¬ fullT l i = true) : startT l i a = sortT (putT l i a) := if_neg h
theorem startT_okl (h : ¬ fullT l i = true) : (startT l i a).length = (putT l i a).length := by rw [startT_ok h, sortT_len]
theorem delT_full (h : fullT l i = true) : delT l i = l := by
  by_cases hx : ixT l i < 0
  · exact delT_no hx
  · simp [fullT, has_yes hx] at h
end
theorem putT_pos (l : List Tm) (i a : Int) : 0 < (putT l i a).length := by simp [putT]
theorem putT_len (l : List Tm) (i a : Int) : (putT l i a).length ≤ l.length + 1 := by
  have := delT_len (l := l) (i := i)
  simp [putT]
  omega
theorem app_in {l : List Tm} {k : Nat} (h : k < l.length) : spl (enc eT l) (0 + k * 2) (((enc eT l).drop (0 + (k + 1) * 2)).take ((l.length - (k + 1)) * 2)) = enc eT (l.take k ++ l.drop (k + 1) ++ l.drop (l.length - 1)) := by
  have h1 : (enc eT (l.drop (k + 1))).length = (l.length - (k + 1)) * 2 := by rw [enc_length (f := eT) (s := 2) eT_len, List.length_drop]
  unfold spl
  rw [Nat.zero_add, Nat.zero_add, enc_drop' eT_len, List.take_of_length_le (Nat.le_of_eq h1), h1, enc_take eT_len, show k * 2 + (l.length - (k + 1)) * 2 = (l.length - 1) * 2 by omega, enc_drop' eT_len, enc_append, enc_append]
theorem clr_in {l A : List Tm} {k : Nat} (h : k < l.length) (hA : A.length = l.length - 1) : spl (enc eT (A ++ l.drop (l.length - 1))) (0 + (k + (l.length - (k + 1))) * 2) ((Builtin.zeroCells #[.int .i64 0, .int .i64 0] (l.length - (k + (l.length - (k + 1))))).toList.map .v) = enc eT (A ++ [dT]) := by
  have hd : (l.drop (l.length - 1)).length = 1 := by rw [List.length_drop]; omega
  have hz : (Builtin.zeroCells #[.int .i64 0, .int .i64 0] (l.length - (k + (l.length - (k + 1))))).toList.map AV.v = eT dT := by
    rw [show l.length - (k + (l.length - (k + 1))) = 1 by omega]
    simp [Builtin.zeroCells, eT, dT, List.range_succ]
  rw [hz, enc_append, enc_append]
  unfold spl
  have hl : (enc eT A).length = (l.length - 1) * 2 := by rw [enc_length (f := eT) (s := 2) eT_len, hA]
  have hl2 : (enc eT (l.drop (l.length - 1))).length = 2 := by rw [enc_length (f := eT) (s := 2) eT_len, hd]
  rw [show 0 + (k + (l.length - (k + 1))) * 2 = (enc eT A).length by rw [hl]; omega, List.take_left, List.drop_append, List.drop_of_length_le (show (enc eT A).length ≤ (enc eT A).length + (eT dT).length by omega), List.drop_of_length_le (by rw [hl2, eT_len]; omega)]
  simp [enc]
theorem del_len {l : List Tm} {k : Nat} (h : k < l.length) : (l.take k ++ l.drop (k + 1)).length = l.length - 1 := by simp; omega
theorem clr_end {l : List Tm} {k : Nat} (h : k + 1 = l.length) : spl (enc eT l) (0 + k * 2) ((Builtin.zeroCells #[.int .i64 0, .int .i64 0] (l.length - k)).toList.map .v) = enc eT (l.take k ++ l.drop (k + 1) ++ [dT]) := by
  have hz : (Builtin.zeroCells #[.int .i64 0, .int .i64 0] (l.length - k)).toList.map AV.v = eT dT := by
    rw [show l.length - k = 1 by omega]
    simp [Builtin.zeroCells, eT, dT, List.range_succ]
  rw [hz, List.drop_of_length_le (by omega), List.append_nil, enc_append]
  unfold spl
  rw [Nat.zero_add, enc_take eT_len, List.drop_of_length_le (by rw [enc_length (f := eT) (s := 2) eT_len, eT_len]; omega)]
  simp [enc]
theorem fit_end {l : List Tm} {k : Nat} (h : k + 1 = l.length) : 0 + k * 2 + (l.length - k) * 2 ≤ (enc eT l).length := by
  rw [enc_length (f := eT) (s := 2) eT_len]
  omega
theorem fit_in {l : List Tm} {k : Nat} (h : k < l.length) : 0 + (k + (l.length - (k + 1))) * 2 + (l.length - (k + (l.length - (k + 1)))) * 2 ≤ (enc eT (l.take k ++ l.drop (k + 1) ++ l.drop (l.length - 1))).length := by
  rw [enc_length (f := eT) (s := 2) eT_len, List.length_append, del_len h, List.length_drop]
  omega
theorem fit_in2 {l : List Tm} {k : Nat} (h : k < l.length) : 0 + l.length * 2 ≤ (enc eT (l.take k ++ l.drop (k + 1) ++ l.drop (l.length - 1))).length := by
  rw [enc_length (f := eT) (s := 2) eT_len, List.length_append, del_len h, List.length_drop]
  omega
theorem end_len (now : Int) (l : List Tm) : (idsT (endL now l)).length ≤ l.length ∧ (restL now l).length ≤ l.length := by
  have := congrArg List.length (end_rest now l)
  rw [List.length_append] at this
  unfold idsT
  rw [List.length_map]
  omega
/-! ### those that end -/
def EndInv (now : Int) (l : List Tm) (k : Nat) : Prop := k ≤ l.length ∧ ∀ x, x ∈ l.take k → x.at_ ≤ now
theorem ids_take_len (l : List Tm) (k : Nat) : (idsT (l.take k)).length ≤ l.length := by simp [idsT]; omega
theorem drop0 (l : List Tm) (k : Nat) : (l.drop k).getD 0 dT = l.getD k dT := by simp [List.getD_eq_getElem?_getD]
section
variable {now : Int} {l : List Tm} {k : Nat}
theorem ended_t (h : (decide (((l.drop k).length : Int) > 0) && decide (((l.drop k).getD 0 dT).at_ ≤ now)) = true) : k < l.length ∧ (l.getD k dT).at_ ≤ now := by
  simp only [Bool.and_eq_true, decide_eq_true_eq, drop0, List.length_drop] at h
  exact ⟨by omega, h.2⟩
theorem take_s (h : k < l.length) : l.take (k + 1) = l.take k ++ [l.getD k dT] := by
  rw [List.take_add_one, List.getD_eq_getElem?_getD, List.getElem?_eq_getElem h]
  rfl
theorem endInv_step (hi : EndInv now l k) (h : (decide (((l.drop k).length : Int) > 0) && decide (((l.drop k).getD 0 dT).at_ ≤ now)) = true) : EndInv now l (k + 1) := by
  obtain ⟨h1, h2⟩ := ended_t h
  refine ⟨h1, fun x hx => ?_⟩
  rw [take_s h1] at hx
  rcases List.mem_append.1 hx with hx | hx
  · exact hi.2 x hx
  · rw [List.mem_singleton.1 hx]; exact h2
theorem ids_step (hi : EndInv now l k) (h : (decide (((l.drop k).length : Int) > 0) && decide (((l.drop k).getD 0 dT).at_ ≤ now)) = true) : idsT (l.take k) ++ [((l.drop k).getD 0 dT).id] = idsT (l.take (k + 1)) := by
  rw [take_s (ended_t h).1, drop0]
  simp [idsT]
theorem tw_app {α : Type} {f : α → Bool} {a b : List α} (h : ∀ x, x ∈ a → f x = true) : (a ++ b).takeWhile f = a ++ b.takeWhile f ∧ (a ++ b).dropWhile f = b.dropWhile f := by
  induction a with
  | nil => exact ⟨rfl, rfl⟩
  | cons x a ih =>
    obtain ⟨h1, h2⟩ := ih fun y hy => h y (List.mem_cons_of_mem _ hy)
    have hx := h x List.mem_cons_self
    simp [List.takeWhile_cons, List.dropWhile_cons, hx, h1, h2]
theorem end_stop (hi : EndInv now l k) (h : (decide (((l.drop k).length : Int) > 0) && decide (((l.drop k).getD 0 dT).at_ ≤ now)) = false) : endL now l = l.take k ∧ restL now l = l.drop k := by
  have hd : (l.drop k).takeWhile (fun x => decide (x.at_ ≤ now)) = [] ∧ (l.drop k).dropWhile (fun x => decide (x.at_ ≤ now)) = l.drop k := by
    cases hx : l.drop k with
    | nil => exact ⟨rfl, rfl⟩
    | cons x r =>
      rw [hx] at h
      have h2 : decide (x.at_ ≤ now) = false := by simpa using h
      simp [List.takeWhile_cons, List.dropWhile_cons, h2]
  obtain ⟨h1, h2⟩ := tw_app (f := fun x : Tm => decide (x.at_ ≤ now)) (a := l.take k) (b := l.drop k) fun x hx => by simpa using hi.2 x hx
  rw [List.take_append_drop] at h1 h2
  exact ⟨by unfold endL; rw [h1, hd.1, List.append_nil], by unfold restL; rw [h2, hd.2]⟩
end
end Go.Lo
