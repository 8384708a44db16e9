/- The package-level tables that the code reads. -/
import Derived.Calls
namespace Go.Lo
def laidT : List (Nat × List Value) := []
end Go.Lo
