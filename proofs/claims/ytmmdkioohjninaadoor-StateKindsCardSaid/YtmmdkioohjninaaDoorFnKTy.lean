/- What the types of this translation are: closed facts. -/
import Derived.Test.YtmmdkioohjninaaDoorProg
import Derived.Test.YtmmdkioohjninaaDoorLoP
import Derived.KernelRfl
namespace Go.Lo
open Go.Proofs
theorem bd10 : bodied Tryd.prog 10 = true := by kernel_rfl
theorem ut4 : Tryd.prog.underlying 4 = some (.bool) := by kernel_rfl
theorem ut57 : Tryd.prog.underlying 57 = some (.array 13 3) := by kernel_rfl
theorem ze57 : (Tryd.prog.info? 57).bind (·.zero) = some (.agg #[(.int .i64 0), (.int .i64 0), (.int .i64 0), (.int .i64 0), (.int .i64 0), (.int .i64 0), (.int .i64 0), (.int .i64 0), (.int .i64 0), (.int .i64 0), (.int .i64 0), (.int .i64 0), (.int .i64 0)]) := by kernel_rfl
end Go.Lo
