/- What the types of this translation are: closed facts. -/
import Derived.Test.YtgebbfapgncodaaProg
import Derived.Test.YtgebbfapgncodaaLoP
import Derived.KernelRfl
namespace Go.Lo
open Go.Proofs
theorem ag51 : aggT Try.prog 51 = some true := by kernel_rfl
theorem bd26 : bodied Try.prog 26 = true := by kernel_rfl
theorem bd27 : bodied Try.prog 27 = true := by kernel_rfl
theorem bd28 : bodied Try.prog 28 = true := by kernel_rfl
theorem bd37 : bodied Try.prog 37 = true := by kernel_rfl
theorem bd38 : bodied Try.prog 38 = true := by kernel_rfl
theorem ft51_2 : fieldT Try.prog 51 2 = some (49, 2) := by kernel_rfl
theorem ft53_2 : fieldT Try.prog 53 2 = some (49, 2) := by kernel_rfl
theorem sz51 : (Try.prog.info? 51).map (·.size) = some 3 := by kernel_rfl
theorem sz53 : (Try.prog.info? 53).map (·.size) = some 3 := by kernel_rfl
theorem ut52 : Try.prog.underlying 52 = some (.slice 51) := by kernel_rfl
theorem ut54 : Try.prog.underlying 54 = some (.slice 53) := by kernel_rfl
theorem ze3 : (Try.prog.info? 3).bind (·.zero) = some (.int .i64 0) := by kernel_rfl
end Go.Lo
