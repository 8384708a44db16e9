/- Part of the logic of values: what the law reaches. -/
import Derived.Test.YtnjncdidiijpgaaPFnOfqLk
set_option linter.unusedVariables false
set_option linter.unusedSimpArgs false
namespace Go.Lo
section
variable {secs : List Sec} {parts : List (List Int)} {pts : List Pnt} {routes : List (List Int)} {x : Act} {n k m : Nat}
theorem fld_ok {v : View} {st ow : List Int} {right : List Bool} (hL : LayOk secs parts pts routes) (hst : st.length = secs.length) (how : ow.length = parts.length) (hsp : v.span.length ≤ 65536) (hr : right.length ≤ 65536) : FldOk (fldOf v secs parts pts routes st ow right) where
 hs := by have := hL.hs; show secs.length ≤ _; omega
 hp := by have := hL.hp; show pts.length ≤ _; omega
 hpa := by have := hL.hpa; show parts.length ≤ _; omega
 hpl := hL.hpl
 hst := by have := hL.hs; show st.length ≤ _; omega
 how := by have := hL.hpa; show ow.length ≤ _; omega
 hr := hr
 hsp := hsp
 hro := by have := hL.hro; show routes.length ≤ _; omega
 hrl := fun x hx => ⟨by have := (hL.hrl x hx).1; omega, (hL.hrl x hx).2⟩
 hrs := fun x hx s hs => by show 0 ≤ s ∧ s < (st.length : Int); rw [hst]; exact hL.hrs x hx s hs
 hpo := fun s h0 h1 => by show 0 ≤ partI parts s ∧ partI parts s < (ow.length : Int); rw [how]; exact hL.hpo s h0 (by rw [← hst]; exact h1)
theorem lk_ok {v : View} {st ow : List Int} {right : List Bool} {ls : List Lk} (h : ∀ y, y ∈ ls → LkR routes y) : ∀ y, y ∈ ls → LkOk (fldOf v secs parts pts routes st ow right) y := fun y hy => ⟨(h y hy).r, (h y hy).ps⟩
theorem vw_at (h : k < m) : (vwL n x m).getD k dV = vwV n x k := by
 unfold vwL
 rw [List.getD_eq_getElem?_getD, List.getElem?_map, List.getElem?_range h]; rfl
theorem vw_span (id : Int) : (findV (vwL n x m) id).span.length ≤ x.sp.length := by
 unfold findV
 split
 ·exact Nat.zero_le _
 ·rename_i h
  rcases idxB_range (fun v : View => decide (v.id = id)) dV (vwL n x m) with h2 | h2
  ·have h3 : findI (vwL n x m) id = -1 := h2
   omega
  ·have h4 : (findI (vwL n x m) id).toNat < m := by have := vwL_len (n := n) (x := x) (k := m); have h5 := h2.2; rw [this] at h5; unfold findI at *; omega
   rw [vw_at h4]; exact vwS_len
theorem sm_iff {l : List Act} (h : smL l = true) : l.length ≤ 50 ∧ ∀ y, y ∈ l → y.sts.length ≤ 20 ∧ y.ow.length ≤ 20 ∧ y.rt.length ≤ 8 ∧ y.sp.length ≤ 6 := by
 unfold smL at h
 simp only [Bool.and_eq_true, Bool.not_eq_true', decide_eq_true_eq] at h
 refine ⟨by omega, fun y hy => ?_⟩
 have h2 : bigA y = false := by
  cases hb : bigA y with
  | false => rfl
  | true => have := List.any_eq_true.2 ⟨y, hy, hb⟩; rw [h.1] at this; cases this
 unfold bigA at h2
 simp only [Bool.or_eq_false_iff, decide_eq_false_iff_not] at h2
 omega
theorem pt_len {n : Nat} : (ptL x n).length ≤ x.rt.length := by
 unfold ptL; split
 ·rw [List.length_take]; omega
 ·exact Nat.le_refl _
theorem lk_len {L : Lo_} {acts : List Act} (h : acts.length ≤ 50) : (lkN L acts acts.length).length ≤ 50 := Nat.le_trans (lkN_len _) h
end
end Go.Lo
