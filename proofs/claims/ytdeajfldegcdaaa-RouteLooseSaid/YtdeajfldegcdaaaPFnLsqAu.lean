/- Part of the logic of values: what the law reaches. -/
import Derived.Test.YtdeajfldegcdaaaPFnLsqPa
import Derived.Test.YtdeajfldegcdaaaPFnLsqLoY
import Derived.Test.YtdeajfldegcdaaaPFnLsqSt
import Derived.Test.YtdeajfldegcdaaaPFnLsqDr
set_option linter.unusedVariables false
set_option linter.unusedSimpArgs false
namespace Go.Lo
structure Lk where
 route : Int
 train : Int
 ends : Int
 pieces : List Int
def dLk : Lk := ⟨0, 0, 0, []⟩
structure Fld where
 id : Int
 span : List Int
 secs : List Sec
 parts : List (List Int)
 pts : List Pnt
 routes : List (List Int)
 st : List Int
 ow : List Int
 right : List Bool
def openB (f : Fld) (s : Int) : Bool := decide (f.st.getD s.toNat 0 = 0) || (decide (f.st.getD s.toNat 0 = 1) && decide (f.ow.getD (partI f.parts s).toNat 0 = f.id))
end Go.Lo
