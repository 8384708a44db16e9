/- Part of the logic of values: what the law reaches. -/
import Derived.Test.YtnjncdidiijpgaaPFnPoqAu
set_option linter.unusedVariables false
namespace Go.Lo
def noV : List View := [⟨3, true, [0]⟩]
def noK : List Lk := [⟨0, 3, -1, [1, 1]⟩]
def noR : List (List Int) := [[0, 1, 2]]
def noS : List Int := [1, 0, 3]
def noO : List Int := [3, -2, -1]
abbrev noF : Fld := fldOf (findV noV 3) (mkSecs 0 0) (mkParts 0 0) (mkPts 0) noR noS noO []
theorem noF_ok : FldOk noF where
 hs := by decide +kernel
 hp := by decide +kernel
 hpa := by decide +kernel
 hpl := by decide +kernel
 hst := by decide
 how := by decide
 hr := by decide
 hsp := by decide +kernel
 hro := by decide
 hrl := by decide
 hrs := by decide
 hpo := by
  intro s h1 h2
  have h3 : s < 3 := h2
  have : s = 0 ∨ s = 1 ∨ s = 2 := by omega
  rcases this with rfl | rfl | rfl <;> decide +kernel
theorem noK_ok : ∀ x, x ∈ noK → LkOk noF x := fun x h => by
 rw [List.mem_singleton.1 h]; exact ⟨by decide, by decide⟩
theorem no_1 : auT noV 3 noF [] = [] := by decide +kernel
theorem no_2 : auT noV 3 noF noK = [1] := by decide +kernel
end Go.Lo
