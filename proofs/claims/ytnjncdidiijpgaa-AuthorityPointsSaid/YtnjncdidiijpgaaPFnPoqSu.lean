/- Part of the logic of values: what the law reaches. -/
import Derived.Test.YtnjncdidiijpgaaPFnPoqLk
set_option linter.unusedVariables false
set_option linter.unusedSimpArgs false
namespace Go.Lo
section
variable {secs : List Sec} {parts : List (List Int)} {pts : List Pnt} {routes : List (List Int)} {x : Act} {n k m : Nat}
theorem fld_ok {v : View} {st ow : List Int} {right : List Bool} (hL : LayOk secs parts pts routes) (hst : st.length = secs.length) (how : ow.length = parts.length) (hsp : v.span.length ≤ 65536) (hr : right.length ≤ 65536) : FldOk (fldOf v secs parts pts routes st ow right) where
 hs := by have := hL.hs; show secs.length ≤ _; omega
 hp := by have := hL.hp; show pts.length ≤ _; omega
 hpa := by have := hL.hpa; show parts.length ≤ _; omega
 hpl := hL.hpl
 hst := by have := hL.hs; show st.length ≤ _; omega
 how := by have := hL.hpa; show ow.length ≤ _; omega
 hr := hr
 hsp := hsp
 hro := by have := hL.hro; show routes.length ≤ _; omega
 hrl := fun x hx => ⟨by have := (hL.hrl x hx).1; omega, (hL.hrl x hx).2⟩
 hrs := fun x hx s hs => by show 0 ≤ s ∧ s < (st.length : Int); rw [hst]; exact hL.hrs x hx s hs
 hpo := fun s h0 h1 => by show 0 ≤ partI parts s ∧ partI parts s < (ow.length : Int); rw [how]; exact hL.hpo s h0 (by rw [← hst]; exact h1)
theorem lk_ok {v : View} {st ow : List Int} {right : List Bool} {ls : List Lk} (h : ∀ y, y ∈ ls → LkR routes y) : ∀ y, y ∈ ls → LkOk (fldOf v secs parts pts routes st ow right) y := fun y hy => ⟨(h y hy).r, (h y hy).ps⟩
theorem pt_len {n : Nat} : (ptL x n).length ≤ x.rt.length := by
 unfold ptL; split
 ·rw [List.length_take]; omega
 ·exact Nat.le_refl _
end
end Go.Lo
