/- The package-level tables that the code reads. -/
import Derived.Calls
namespace Go.Lo
def laidT : List (Nat × List Value) := [(0, [.int .u8 0, .int .u8 2, .int .u8 3, .int .u8 1, .int .u8 6, .int .u8 0, .int .u8 8, .int .u8 7, .int .u8 9, .int .u8 11, .int .u8 0, .int .u8 10, .int .u8 4, .int .u8 12, .int .u8 5, .int .u8 0])]
end Go.Lo
