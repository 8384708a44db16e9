/- Part of the logic of values: what the law reaches. -/
import Derived.Test.YtnjncdidiijpgaaPFnPoqRt
import Derived.Test.YtnjncdidiijpgaaPFnPoqLoY
set_option linter.unusedVariables false
set_option linter.unusedSimpArgs false
namespace Go.Lo
def ow (b : Nat) (l : List Lk) : List (Lk × Nat) := l.zipIdx b
end Go.Lo
