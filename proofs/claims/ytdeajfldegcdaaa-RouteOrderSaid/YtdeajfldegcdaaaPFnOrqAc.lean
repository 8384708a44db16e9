/- Part of the logic of values: what the law reaches. -/
import Derived.Test.YtdeajfldegcdaaaPFnOrqAu
set_option linter.unusedVariables false
set_option linter.unusedSimpArgs false
namespace Go.Lo
structure Act where
 dw : Int
 n : Int
 tr : Int
 sts : List Int
 ow : List Int
 rt : List Bool
 sp : List Int
 tk : Int
end Go.Lo
