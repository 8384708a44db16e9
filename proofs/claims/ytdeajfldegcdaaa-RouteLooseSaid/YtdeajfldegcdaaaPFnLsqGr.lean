/- Part of the logic of values: what the law reaches. -/
import Derived.Test.YtdeajfldegcdaaaPFnLsqLay
import Derived.Test.YtdeajfldegcdaaaPFnLsqLoW
set_option linter.unusedVariables false
set_option linter.unusedSimpArgs false
namespace Go.Lo
section
variable {α : Type} (f : α → Bool) (d : α)
def stepG (s : List α × Nat) (n : α) : List α × Nat := if f n = true then s else (s.1.set s.2 n, s.2 + 1)
def delG (l : List α) (j : Nat) : List α × Nat := (l.take j).foldl (stepG f) (l, 0)
def restG (l : List α) : List α := l.filter (fun x => !f x)
theorem delG_step {l : List α} {j : Nat} (h : j < l.length) : delG f l (j + 1) = stepG f (delG f l j) (l.getD j d) := by
 unfold delG
 rw [take_snoc d h, List.foldl_append]
 rfl
theorem restG_step {l : List α} {k : Nat} (h : k < l.length) : restG f (l.take (k + 1)) = restG f (l.take k) ++ (if f (l.getD k d) = true then [] else [l.getD k d]) := by
 rw [take_snoc d h]
 simp only [restG, List.filter_append, List.filter_cons, List.filter_nil]
 cases f (l.getD k d) <;> simp
theorem restG_on {l : List α} {k : Nat} (h : k < l.length) (hc : f (l.getD k d) = false) : restG f (l.take k) ++ [l.getD k d] = restG f (l.take (k + 1)) := by rw [restG_step f d h, if_neg (by rw [hc]; simp)]
theorem restG_off {l : List α} {k : Nat} (h : k < l.length) (hc : f (l.getD k d) = true) : restG f (l.take k) = restG f (l.take (k + 1)) := by rw [restG_step f d h, if_pos hc, List.append_nil]
theorem delG_inv (l : List α) : ∀ (j : Nat), j ≤ l.length → (delG f l j).1.length = l.length ∧ (delG f l j).2 ≤ j ∧ (∀ i, j ≤ i → (delG f l j).1[i]? = l[i]?) ∧ (delG f l j).1.take (delG f l j).2 = restG f (l.take j) ∧ (delG f l j).2 = (restG f (l.take j)).length := by
 intro j
 induction j with
 | zero => intro _; exact ⟨by simp [delG], by simp [delG], fun i _ => by simp [delG], by simp [delG, restG], by simp [delG, restG]⟩
 | succ j ih =>
  intro hj
  obtain ⟨h1, h2, h3, h4, h5⟩ := ih (by omega)
  rw [delG_step f (l.getD j (l[j]'(by omega))) (by omega)]
  generalize hx : l.getD j (l[j]'(by omega)) = d
  have hxd : l.getD j d = d := by rw [← hx]; simp [show j < l.length by omega]
  rw [hxd]
  unfold stepG
  by_cases hd : f d = true
  ·have hw := restG_off f d (l := l) (k := j) (by omega) (by rw [hxd]; exact hd)
   rw [if_pos hd]
   exact ⟨h1, by omega, fun i hi => h3 i (by omega), by rw [h4, hw], by rw [h5, hw]⟩
  ·have hw := restG_on f d (l := l) (k := j) (by omega) (by rw [hxd]; simpa using hd)
   rw [hxd] at hw
   rw [if_neg hd]
   refine ⟨by simp [h1], by simp; omega, fun i hi => ?_, ?_, ?_⟩
   ·simp only
    rw [List.getElem?_set_ne (by omega)]
    exact h3 i (by omega)
   ·rw [← hw, ← h4]
    simp only
    rw [take_snoc d (by simp; omega)]
    rw [take_set_same]
    simp [show (delG f l j).2 < (delG f l j).1.length by omega]
   ·rw [← hw]
    simp [h5]
theorem delG_at {l : List α} {j : Nat} (h : j < l.length) : (delG f l j).1.getD j d = l.getD j d := by
 have := (delG_inv f l j (by omega)).2.2.1 j (Nat.le_refl _)
 simp only [List.getD_eq_getElem?_getD, this]
theorem delG_keep {l : List α} {j : Nat} (h : j < l.length) (hc : f ((delG f l j).1.getD j d) = false) : delG f l (j + 1) = ((delG f l j).1.set (delG f l j).2 ((delG f l j).1.getD j d), (delG f l j).2 + 1) := by
 rw [delG_step f d h, delG_at f d h] at *
 unfold stepG
 rw [if_neg (by rw [hc]; simp)]
theorem delG_drop {l : List α} {j : Nat} (h : j < l.length) (hc : f ((delG f l j).1.getD j d) = true) : delG f l (j + 1) = delG f l j := by
 rw [delG_at f d h] at hc
 rw [delG_step f d h]
 unfold stepG
 rw [if_pos hc]
include d in
theorem delG_start {l : List α} : ∀ (i : Nat), i < l.length → (l.take i).any f = false → delG f l i = (l, i) := by
 intro i
 induction i with
 | zero => intro _ _; simp [delG]
 | succ i ih =>
  intro hi h
  rw [take_snoc d (by omega), List.any_append, Bool.or_eq_false_iff] at h
  rw [delG_step f d (by omega), ih (by omega) h.1]
  unfold stepG
  rw [if_neg (by simpa using h.2)]
  simp only [Prod.mk.injEq, and_true]
  refine List.ext_getElem? (fun k => ?_)
  rw [List.getElem?_set]
  split
  ·rename_i e
   subst e
   simp [show i < l.length by omega]
  ·rfl
theorem delG_first {l : List α} {i : Nat} (hi : i < l.length) (h : (l.take i).any f = false) (hd : f (l.getD i d) = true) : delG f l (i + 1) = (l, i) := by
 rw [delG_step f d hi, delG_start f d i hi h]
 unfold stepG
 rw [if_pos hd]
theorem delG_lt {l : List α} {i : Nat} (hi : i < l.length) (h : (l.take i).any f = false) (hd : f (l.getD i d) = true) : ∀ k, i + 1 + k ≤ l.length → (delG f l (i + 1 + k)).2 < i + 1 + k := by
 intro k
 induction k with
 | zero => intro _; rw [Nat.add_zero, delG_first f d hi h hd]; simp
 | succ k ih =>
  intro hk
  have := ih (by omega)
  rw [show i + 1 + (k + 1) = (i + 1 + k) + 1 by omega, delG_step f d (by omega)]
  unfold stepG
  split
  ·omega
  ·simp; omega
theorem restG_none {l : List α} (h : l.any f = false) : restG f l = l := by
 unfold restG
 rw [List.filter_eq_self]
 intro a ha
 have := List.any_eq_false.1 h a ha
 simpa using this
include d in
theorem any_none {l : List α} (h : idxB f l = -1) : l.any f = false := by
 cases ha : l.any f with
 | false => rfl
 | true => obtain ⟨k, h1, h2, h3⟩ := any_first d l ha; rw [idxB_stop d h1 h2 h3] at h; omega
end
theorem zeros_enc {α : Type} {e : α → List AV} {z : Array Value} {v : α} (hv : z.toList.map AV.v = e v) (hz : 0 < z.size) : ∀ n : Nat, (Builtin.zeroCells z n).toList.map AV.v = enc e (List.replicate n v) := by
 have key : ∀ n, (Builtin.zeroCells z (n + 1)).toList = (Builtin.zeroCells z n).toList ++ z.toList := by
  intro n
  simp only [Builtin.zeroCells, Array.toList_map, Array.toList_range]
  rw [show (n + 1) * z.size = n * z.size + z.size from Nat.succ_mul _ _, List.range_add, List.map_append, List.map_map]
  congr 1
  apply List.ext_getElem
  ·simp
  ·intro i h1 h2
   have hi : i < z.size := by simpa using h2
   simp only [List.getElem_map, List.getElem_range, Function.comp, Nat.mul_add_mod_self_right, Nat.mod_eq_of_lt hi]
   simp [hi]
 intro n
 induction n with
 | zero => simp [Builtin.zeroCells, enc]
 | succ n ih => rw [key n, List.map_append, ih, List.replicate_succ', enc_snoc, hv]
theorem clear_rowG {α : Type} {e : α → List AV} {z : Array Value} {v : α} {s : Nat} (hf : ∀ x, (e x).length = s) (hz : ∀ n : Nat, (Builtin.zeroCells z n).toList.map AV.v = enc e (List.replicate n v)) {l : List α} {i n : Nat} (h : i + n = l.length) : spl (enc e l) (0 + i * s) ((Builtin.zeroCells z n).toList.map AV.v) = enc e (l.take i ++ List.replicate n v) := by
 have hl : (enc e (List.replicate n v)).length = n * s := by rw [enc_length (f := e) (s := s) hf]; simp
 rw [hz]
 unfold spl
 rw [hl, Nat.zero_add, enc_take (f := e) (s := s) hf, enc_append, List.drop_of_length_le (by rw [enc_length (f := e) (s := s) hf, ← Nat.add_mul]; exact Nat.mul_le_mul_right _ (by omega)), List.append_nil]
theorem clear_fit {α : Type} {e : α → List AV} {s i n : Nat} {l : List α} (hf : ∀ x, (e x).length = s) (h : i + n = l.length) : 0 + i * s + n * s ≤ (enc e l).length := by
 rw [enc_length (f := e) (s := s) hf, Nat.zero_add, ← Nat.add_mul]; exact Nat.mul_le_mul_right _ (by omega)
theorem any_stop {α : Type} {f : α → Bool} (d : α) {l : List α} {k : Nat} (h : k < l.length) (h2 : f (l.getD k d) = true) : l.any f = true := List.any_eq_true.2 ⟨_, getD_mem d h, h2⟩
theorem any_end {α : Type} {f : α → Bool} {l : List α} {k : Nat} (hk : l.length ≤ k) (h : (l.take k).any f = false) : l.any f = false := by rw [List.take_of_length_le hk] at h; exact h
theorem idxB_mem2 (l : List Int) (v : Int) : decide (idxB (fun x => decide (v = x)) l ≥ 0) = decide (v ∈ l) := by
 rw [idxB_any 0]
 by_cases h : v ∈ l
 ·rw [decide_eq_true h]; exact List.any_eq_true.2 ⟨v, h, decide_eq_true rfl⟩
 ·rw [decide_eq_false h]
  cases ha : l.any (fun x => decide (v = x)) with
  | false => rfl
  | true => obtain ⟨x, h1, h2⟩ := List.any_eq_true.1 ha; exact absurd (by rw [of_decide_eq_true h2]; exact h1) h
def noSec (secs : List Sec) (s : Int) : Bool := decide (s < 0) || decide (s ≥ (secs.length : Int))
def secV (secs : List Sec) (s : Int) : Sec := if noSec secs s then dS else secs.getD s.toNat dS
theorem secV_no {secs : List Sec} {s : Int} (h : noSec secs s = true) : secV secs s = dS := by unfold secV; rw [if_pos h]
theorem secV_yes {secs : List Sec} {s : Int} (h : noSec secs s = false) : secV secs s = secs.getD s.toNat dS := by unfold secV; rw [if_neg (by simp [h])]
theorem noSec_false {secs : List Sec} {s : Int} (h : noSec secs s = false) : 0 ≤ s ∧ s < (secs.length : Int) := by
 simp only [noSec, Bool.or_eq_false_iff, decide_eq_false_iff_not] at h
 omega
theorem noSec_nat (secs : List Sec) (k : Nat) : noSec secs (k : Int) = !decide (k < secs.length) := by
 unfold noSec
 rw [decide_eq_false (show ¬ ((k : Int) < 0) by omega), Bool.false_or, ← decide_not]
 exact decide_eq_decide.2 (by omega)
theorem secV_nat {secs : List Sec} {k : Nat} (h : k < secs.length) : secV secs (k : Int) = secs.getD k dS := by
 rw [secV_yes (by rw [noSec_nat]; simp [h])]; rfl
theorem node_0 {secs : List Sec} {s e : Int} (h : noSec secs s = false) (he : e = 0) : nodeA secs s e = (secV secs s).a ∧ noNode secs s e = false := by
 have hb := noSec_false h
 have hn : noNode secs s e = false := by
  unfold noNode; subst he; simp; omega
 exact ⟨by rw [nodeA_a hn he, secV_yes h], hn⟩
theorem node_1 {secs : List Sec} {s e : Int} (h : noSec secs s = false) (he : e = 1) : nodeA secs s e = (secV secs s).b ∧ noNode secs s e = false := by
 have hb := noSec_false h
 have hn : noNode secs s e = false := by
  unfold noNode; subst he; simp; omega
 exact ⟨by rw [nodeA_b hn (by omega), secV_yes h], hn⟩
theorem node_no {secs : List Sec} {s e : Int} (h : noSec secs s = true ∨ (¬ e = 0 ∧ ¬ e = 1)) : nodeA secs s e = 0 ∧ noNode secs s e = true := by
 have hn : noNode secs s e = true := by
  rcases h with h | h
  ·simp only [noSec, Bool.or_eq_true, decide_eq_true_eq] at h
   simp only [noNode, Bool.or_eq_true, decide_eq_true_eq]; omega
  ·simp only [noNode, Bool.or_eq_true, decide_eq_true_eq]; omega
 exact ⟨nodeA_no hn, hn⟩
def endsJ (secs : List Sec) (n : Int) (k j : Nat) : List En := endsK secs n k ++ (if 0 < j ∧ (secs.getD k dS).a = n then [⟨(k : Int), 0⟩] else []) ++ (if 1 < j ∧ (secs.getD k dS).b = n then [⟨(k : Int), 1⟩] else [])
def endAt (secs : List Sec) (k j : Nat) : Int := if j = 0 then (secs.getD k dS).a else (secs.getD k dS).b
theorem endsJ_zero (secs : List Sec) (n : Int) (k : Nat) : endsJ secs n k 0 = endsK secs n k := by
 unfold endsJ; rw [if_neg (by omega), if_neg (by omega), List.append_nil, List.append_nil]
theorem endsJ_two (secs : List Sec) (n : Int) (k : Nat) : endsJ secs n k 2 = endsK secs n (k + 1) := by
 unfold endsJ; rw [endsK_succ]; simp only [show (0 : Nat) < 2 by decide, show (1 : Nat) < 2 by decide, true_and]
theorem endsJ_on {secs : List Sec} {n : Int} {k j : Nat} (hj : j < 2) (h : endAt secs k j = n) : endsJ secs n k (j + 1) = endsJ secs n k j ++ [⟨(k : Int), (j : Int)⟩] := by
 have : j = 0 ∨ j = 1 := by omega
 rcases this with rfl | rfl
 ·unfold endAt at h; rw [if_pos rfl] at h
  rw [endsJ_zero]; unfold endsJ; rw [if_pos ⟨by omega, h⟩, if_neg (by omega), List.append_nil]; rfl
 ·unfold endAt at h; rw [if_neg (by omega)] at h
  have h' : (secs[k]?.getD dS).b = n := by rw [← List.getD_eq_getElem?_getD]; exact h
  unfold endsJ; simp [h']
theorem endsJ_off {secs : List Sec} {n : Int} {k j : Nat} (hj : j < 2) (h : ¬ endAt secs k j = n) : endsJ secs n k (j + 1) = endsJ secs n k j := by
 have : j = 0 ∨ j = 1 := by omega
 rcases this with rfl | rfl
 ·unfold endAt at h; rw [if_pos rfl] at h
  rw [endsJ_zero]; unfold endsJ; rw [if_neg (fun e => h e.2), if_neg (by omega), List.append_nil, List.append_nil]
 ·unfold endAt at h; rw [if_neg (by omega)] at h
  have h' : ¬ (secs[k]?.getD dS).b = n := by rw [← List.getD_eq_getElem?_getD]; exact h
  unfold endsJ; simp [h']
theorem endsJ_len (secs : List Sec) (n : Int) (k j : Nat) : (endsJ secs n k j).length ≤ 2 * k + 2 := by
 have := endsK_len secs n k
 unfold endsJ
 simp only [List.length_append]
 split <;> split <;> simp <;> omega
theorem pair_at {secs : List Sec} {k j : Nat} (hk : k < secs.length) (hj : j < 2) : partA false [.v (.int .i64 (secV secs (k : Int)).a), .v (.int .i64 (secV secs (k : Int)).b)] ((j : Int).toNat * 1) 1 = some (.v (.int .i64 (endAt secs k j))) := by
 have : j = 0 ∨ j = 1 := by omega
 rcases this with rfl | rfl
 ·rw [secV_nat hk]; rfl
 ·rw [secV_nat hk]; rfl
theorem otherE_rest (secs : List Sec) (n s e : Int) : otherE secs n s e = restG (fun x : En => decide (x.sec = s ∧ x.en = e)) (endsL secs n) := rfl
theorem endsL_mem {secs : List Sec} {n : Int} {x : En} : ∀ {k : Nat}, x ∈ endsK secs n k → ∃ i, i < k ∧ x.sec = (i : Int)
 | 0, h => by cases h
 | k + 1, h => by
  rw [endsK_succ] at h
  rcases List.mem_append.1 h with h | h
  ·rcases List.mem_append.1 h with h | h
   ·obtain ⟨i, h1, h2⟩ := endsL_mem h
    exact ⟨i, by omega, h2⟩
   ·split at h
    ·simp at h; subst h; exact ⟨k, by omega, rfl⟩
    ·cases h
  ·split at h
   ·simp at h; subst h; exact ⟨k, by omega, rfl⟩
   ·cases h
theorem around_sec {secs : List Sec} {pts : List Pnt} {s e : Int} {x : En} (h : x ∈ aroundL secs pts s e) : 0 ≤ x.sec ∧ x.sec < (secs.length : Int) := by
 have h1 : ∀ {a b : Int}, x ∈ oneE secs a b → 0 ≤ x.sec ∧ x.sec < (secs.length : Int) := fun hx => by
  obtain ⟨i, h2, h3⟩ := endsL_mem (firstE_mem hx); omega
 unfold aroundL at h
 repeat' split at h
 ·cases h
 ·rcases List.mem_append.1 h with h | h
  ·exact h1 h
  ·exact h1 h
 ·exact h1 h
 ·cases h
 ·obtain ⟨i, h2, h3⟩ := endsL_mem (List.mem_filter.1 h).1; omega
 ·cases h
theorem subZ {a : Int} (h : -9223372036854775808 ≤ a ∧ a ≤ 9223372036854775807) : binI .i64 .sub a 0 = .int .i64 a := by
 rw [subI (by omega), Int.sub_zero]
def eEL (x : List En) : List AV := [.ro x.length (enc eEn x)]
instance (x : List En) : NoIL (eEL x) := by unfold eEL; infer_instance
def catK {α : Type} (ls : List (List α)) (k : Nat) : List α := (ls.take k).flatten
theorem catK_step {α : Type} {ls : List (List α)} {k : Nat} {d : List α} (h : k < ls.length) : catK ls (k + 1) = catK ls k ++ ls.getD k d := by
 unfold catK
 rw [take_snoc d h, List.flatten_append, List.flatten_singleton]
theorem catK_len {α : Type} {ls : List (List α)} {m : Nat} (hx : ∀ x, x ∈ ls → x.length ≤ m) (k : Nat) : (catK ls k).length ≤ k * m := by
 induction k with
 | zero => simp [catK]
 | succ k ih =>
  rcases Nat.lt_or_ge k ls.length with h | h
  ·rw [catK_step (d := []) h, List.length_append, Nat.succ_mul]
   have := hx _ (getD_mem [] h)
   omega
  ·have : catK ls (k + 1) = catK ls k := by unfold catK; rw [List.take_of_length_le h, List.take_of_length_le (by omega)]
   rw [this, Nat.succ_mul]; omega
def overO (out : List Int) (x : Int) : Prop := out.length = 0 ∨ x > out.getD (out.length - 1) 0
structure RiseOk (l out : List Int) : Prop where
 sub : ∀ x, x ∈ out → x ∈ l
 asc : out.Pairwise (· < ·)
 all : ∀ x, x ∈ l → ¬ overO out x → x ∈ out
theorem nodup_len {α : Type} [DecidableEq α] : ∀ (a l : List α), a.Nodup → (∀ x, x ∈ a → x ∈ l) → a.length ≤ l.length
 | [], l, _, _ => by simp
 | x :: a, l, hn, hs => by
  have hx := hs x List.mem_cons_self
  have := nodup_len a (l.erase x) (List.nodup_cons.1 hn).2 (fun y hy => (List.mem_erase_of_ne (fun e => (List.nodup_cons.1 hn).1 (by rw [← e]; exact hy))).2 (hs y (List.mem_cons_of_mem _ hy)))
  rw [List.length_erase_of_mem hx] at this
  have := List.length_pos_of_mem hx
  simp; omega
theorem RiseOk.nodup {l out : List Int} (h : RiseOk l out) : out.Nodup := h.asc.imp (fun h e => by omega)
theorem RiseOk.len {l out : List Int} (h : RiseOk l out) : out.length ≤ l.length := nodup_len _ _ h.nodup h.sub
end Go.Lo
