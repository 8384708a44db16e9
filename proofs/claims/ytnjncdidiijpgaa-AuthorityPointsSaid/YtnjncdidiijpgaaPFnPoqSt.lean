/- Part of the logic of values: what the law reaches. -/
import Derived.Test.YtnjncdidiijpgaaPFnPoqDr
import Derived.Test.YtnjncdidiijpgaaPFnPoqLoU
set_option linter.unusedVariables false
set_option linter.unusedSimpArgs false
namespace Go.Lo
structure Chg where
 sec : Int
 kind : Int
theorem Chg.ext2 {x y : Chg} (h1 : x.sec = y.sec) (h2 : x.kind = y.kind) : x = y := by
 cases x; cases y; simp_all
instance : DecidableEq Chg := fun x y => if h : x.sec = y.sec ∧ x.kind = y.kind then isTrue (Chg.ext2 h.1 h.2) else isFalse fun e => h (by rw [e]; exact ⟨rfl, rfl⟩)
def partI (parts : List (List Int)) (s : Int) : Int := idxB (fun l => decide (s ∈ l)) parts
theorem partI_range (parts : List (List Int)) (s : Int) : partI parts s = -1 ∨ (0 ≤ partI parts s ∧ partI parts s < (parts.length : Int)) := idxB_range _ [] _
def findI (views : List View) (id : Int) : Int := idxB (fun v => decide (v.id = id)) views
theorem findI_range (views : List View) (id : Int) : findI views id = -1 ∨ (0 ≤ findI views id ∧ findI views id < (views.length : Int)) := idxB_range _ dV _
def findV (views : List View) (id : Int) : View := if findI views id < 0 then dV else views.getD (findI views id).toNat dV
theorem findV_no {views : List View} {id : Int} (h : findI views id < 0) : findV views id = dV := by unfold findV; rw [if_pos h]
theorem findV_at {views : List View} {id : Int} (h : ¬ findI views id < 0) : findV views id = views.getD (findI views id).toNat dV := by unfold findV; rw [if_neg h]
theorem eq_dec (a b : Int) : (a == b) = decide (a = b) := rfl
end Go.Lo
