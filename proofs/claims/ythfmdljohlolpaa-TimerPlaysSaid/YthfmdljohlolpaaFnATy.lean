/- What the types of this translation are: closed facts. -/
import Derived.Test.YthfmdljohlolpaaProg
import Derived.Test.YthfmdljohlolpaaLoX
import Derived.KernelRfl
namespace Go.Lo
open Go.Proofs
theorem ag3 : aggT Try.prog 3 = some false := by kernel_rfl
theorem mixed : Try.prog.follows .mixedOrders = true := by kernel_rfl
theorem sz3 : (Try.prog.info? 3).map (·.size) = some 1 := by kernel_rfl
theorem ut28 : Try.prog.underlying 28 = some (.slice 3) := by kernel_rfl
end Go.Lo
