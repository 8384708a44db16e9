/- Where a train may be, plain: rounds, one section after another. -/
import Derived.Test.YtpgbplgljfjhnaaGr
set_option linter.unusedVariables false
set_option linter.unusedSimpArgs false
namespace Go.Lo
theorem back_step {l : List Int} {k : Nat} (h : k < l.length) : l.reverse.take (k + 1) = l.reverse.take k ++ [l.getD ((l.length : Int) - 1 - (k : Int)).toNat 0] := by
  rw [take_snoc 0 (by simpa using h)]
  congr 1
  rw [List.getD_eq_getElem?_getD, List.getD_eq_getElem?_getD, List.getElem?_reverse h, show ((l.length : Int) - 1 - (k : Int)).toNat = l.length - 1 - k by omega]
theorem rise_int {c : Bool} {i b v : Int} {n : Int} (h : (c = true ∧ v = i) ∨ (c = false ∧ v = b)) (hn : n = if c then i else b) : v = n := by
  subst hn
  rcases h with ⟨h1, h2⟩ | ⟨h1, h2⟩
  · rw [h1, h2]; rfl
  · rw [h1, h2]; rfl
structure RS where
  ahead : List Int
  s : Int
  e : Int
  m : Int
section
variable (secs : List Sec) (pts : List Pnt) (right : List Bool) (trail : List Int)
def rsN (r : RS) : RS := ⟨r.ahead ++ [(nextV secs pts right r.s r.e).sec], (nextV secs pts right r.s r.e).sec, 1 - (nextV secs pts right r.s r.e).en, r.m - lenI secs (nextV secs pts right r.s r.e).sec⟩
def rsStop (r : RS) : Bool := decide (r.m ≤ 0) || !nextB secs pts right r.s r.e || (decide ((nextV secs pts right r.s r.e).sec ∈ trail) || decide ((nextV secs pts right r.s r.e).sec ∈ r.ahead))
def rsK (r0 : RS) : Nat → RS
  | 0 => r0
  | k + 1 => rsN secs pts right (rsK r0 k)
def rsRun : Nat → RS → RS
  | 0, r => r
  | n + 1, r => if rsStop secs pts right trail r then r else rsRun n (rsN secs pts right r)
def rs0 (trail : List Int) (dir m : Int) : RS := ⟨[], trail.getD 0 0, dir, m⟩
def reachF (dir m : Int) : RS := rsRun secs pts right trail m.toNat (rs0 trail dir m)
end
def rsL (trail : List Int) (r : RS) : List Int := r.ahead.reverse ++ trail
section
variable {secs : List Sec} {pts : List Pnt} {right : List Bool} {trail : List Int}
theorem rs_done {n : Nat} {r F : RS} (h : rsRun secs pts right trail n r = F) (hs : rsStop secs pts right trail r = true) : r = F := by
  cases n with
  | zero => exact h
  | succ n => rw [← h]; unfold rsRun; rw [if_pos hs]
theorem rs_go {N k : Nat} {r F : RS} (h : rsRun secs pts right trail (N - k) r = F) (hs : rsStop secs pts right trail r = false) (hk : k < N) : rsRun secs pts right trail (N - (k + 1)) (rsN secs pts right r) = F := by
  rw [show N - k = (N - (k + 1)) + 1 by omega] at h
  rw [← h]
  conv => rhs; unfold rsRun
  rw [if_neg (by simp [hs])]
theorem rs_m {r : RS} (h : r.m ≤ 0) : rsStop secs pts right trail r = true := by unfold rsStop; rw [decide_eq_true h]; rfl
theorem rs_b {r : RS} (h : nextB secs pts right r.s r.e = false) : rsStop secs pts right trail r = true := by unfold rsStop; rw [h]; simp
theorem rs_t {r : RS} (h : (nextV secs pts right r.s r.e).sec ∈ trail) : rsStop secs pts right trail r = true := by unfold rsStop; rw [decide_eq_true h]; simp
theorem rs_a {r : RS} (h : (nextV secs pts right r.s r.e).sec ∈ r.ahead) : rsStop secs pts right trail r = true := by unfold rsStop; rw [decide_eq_true h]; simp
theorem rs_no {r : RS} (h1 : ¬ r.m ≤ 0) (h2 : nextB secs pts right r.s r.e = true) (h3 : ¬ (nextV secs pts right r.s r.e).sec ∈ trail) (h4 : ¬ (nextV secs pts right r.s r.e).sec ∈ r.ahead) : rsStop secs pts right trail r = false := by
  unfold rsStop; rw [decide_eq_false h1, h2, decide_eq_false h3, decide_eq_false h4]; rfl
theorem rsStop_iff {r : RS} : rsStop secs pts right trail r = false ↔ (¬ r.m ≤ 0 ∧ nextB secs pts right r.s r.e = true ∧ ¬ (nextV secs pts right r.s r.e).sec ∈ trail ∧ ¬ (nextV secs pts right r.s r.e).sec ∈ r.ahead) := by
  refine ⟨fun h => ?_, fun h => rs_no h.1 h.2.1 h.2.2.1 h.2.2.2⟩
  unfold rsStop at h
  simp only [Bool.or_eq_false_iff, decide_eq_false_iff_not, Bool.not_eq_false'] at h
  exact ⟨h.1.1, h.1.2, h.2.1, h.2.2⟩
theorem mem_rsL {r : RS} {x : Int} : x ∈ rsL trail r ↔ (x ∈ trail ∨ x ∈ r.ahead) := by
  unfold rsL; rw [List.mem_append, List.mem_reverse]; exact Or.comm
theorem rsL_len (r : RS) : (rsL trail r).length = r.ahead.length + trail.length := by simp [rsL]
theorem rsL_next (r : RS) : rsL trail (rsN secs pts right r) = (nextV secs pts right r.s r.e).sec :: rsL trail r := by simp [rsL, rsN]
theorem rsK_len (r0 : RS) (h0 : r0.ahead = []) (k : Nat) : (rsK secs pts right r0 k).ahead.length = k := by
  induction k with
  | zero => simp [rsK, h0]
  | succ k ih => simp [rsK, rsN, ih]
theorem lenI_in {s : Int} (h : ∀ x, x ∈ secs → 1 ≤ x.len ∧ x.len ≤ 65536) (hs : 0 ≤ s ∧ s < (secs.length : Int)) : 1 ≤ lenI secs s ∧ lenI secs s ≤ 65536 := by
  rw [lenI_yes (by unfold noSec; simp; omega)]
  exact h _ (getD_mem dS (by omega))
end
theorem range_len {l : List Int} {n : Nat} (h : l.Nodup) (hr : ∀ x, x ∈ l → 0 ≤ x ∧ x < (n : Int)) : l.length ≤ n := by
  have := nodup_len l ((List.range n).map fun i : Nat => (i : Int)) h fun x hx => List.mem_map.2 ⟨x.toNat, List.mem_range.2 (by have := hr x hx; omega), by have := hr x hx; omega⟩
  simpa using this
/-- Sections that there are, each once, none of the trail. -/
structure RsOk (secs : List Sec) (trail : List Int) (r : RS) : Prop where
  nd : r.ahead.Nodup
  rg : ∀ x, x ∈ r.ahead → 0 ≤ x ∧ x < (secs.length : Int)
  nt : ∀ x, x ∈ r.ahead → x ∉ trail
theorem rsOk0 (secs : List Sec) (trail t2 : List Int) (dir m : Int) : RsOk secs trail (rs0 t2 dir m) := ⟨List.nodup_nil, fun x h => (by cases h), fun x h => (by cases h)⟩
theorem rsOkN {secs : List Sec} {pts : List Pnt} {right : List Bool} {trail : List Int} {r : RS} (h : RsOk secs trail r) (hs : rsStop secs pts right trail r = false) : RsOk secs trail (rsN secs pts right r) := by
  obtain ⟨h1, h2, h3, h4⟩ := rsStop_iff.1 hs
  have hx := (nextV_in h2).1
  refine ⟨List.nodup_append.2 ⟨h.nd, List.nodup_cons.2 ⟨by simp, List.nodup_nil⟩, fun a ha b hb e => ?_⟩, fun x hx' => ?_, fun x hx' => ?_⟩
  · rw [List.mem_singleton.1 hb] at e; rw [e] at ha; exact h4 ha
  · rcases List.mem_append.1 hx' with h5 | h5
    · exact h.rg x h5
    · rw [List.mem_singleton.1 h5]; exact hx
  · rcases List.mem_append.1 hx' with h5 | h5
    · exact h.nt x h5
    · rw [List.mem_singleton.1 h5]; exact h3
theorem RsOk.len {secs : List Sec} {trail : List Int} {r : RS} (h : RsOk secs trail r) : r.ahead.length ≤ secs.length := range_len h.nd h.rg
def spanF (secs : List Sec) (pts : List Pnt) (right : List Bool) (trail : List Int) (dir m : Int) : List Int := if trail.length = 0 then [] else rsL trail (reachF secs pts right trail dir m)
def frontS (secs : List Sec) (pts : List Pnt) (right : List Bool) (trail : List Int) (dir m : Int) : Int := if trail.length = 0 then -1 else (reachF secs pts right trail dir m).s
def frontE (secs : List Sec) (pts : List Pnt) (right : List Bool) (trail : List Int) (dir m : Int) : Int := if trail.length = 0 then 0 else (reachF secs pts right trail dir m).e
section
variable {secs : List Sec} {pts : List Pnt} {right : List Bool} {trail : List Int} {dir m : Int}
theorem reach_none (h : trail.length = 0) : spanF secs pts right trail dir m = [] ∧ frontS secs pts right trail dir m = -1 ∧ frontE secs pts right trail dir m = 0 := by
  unfold spanF frontS frontE; rw [if_pos h, if_pos h, if_pos h]; exact ⟨rfl, rfl, rfl⟩
theorem reach_some (h : ¬ trail.length = 0) : spanF secs pts right trail dir m = rsL trail (reachF secs pts right trail dir m) ∧ frontS secs pts right trail dir m = (reachF secs pts right trail dir m).s ∧ frontE secs pts right trail dir m = (reachF secs pts right trail dir m).e := by
  unfold spanF frontS frontE; rw [if_neg h, if_neg h, if_neg h]; exact ⟨rfl, rfl, rfl⟩
end
theorem mulS {a b M : Int} (ha : 0 ≤ a ∧ a ≤ 1000000) (hb : 0 ≤ b ∧ b ≤ 1000000) (hM : M = a * b) : 0 ≤ M ∧ M ≤ 1000000000000 := by
  subst hM
  have h1 : 0 ≤ a * b := Int.mul_nonneg ha.1 hb.1
  have h2 : a * b ≤ 1000000 * 1000000 := Int.mul_le_mul ha.2 hb.2 hb.1 (by decide)
  omega
end Go.Lo
