/- Part of the logic of values: what the law reaches. -/
import Derived.Calls
namespace Go.Lo
def laidT : List (Nat × List Value) := []
end Go.Lo
