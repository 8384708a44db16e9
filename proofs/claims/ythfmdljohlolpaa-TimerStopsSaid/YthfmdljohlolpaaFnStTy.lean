/- What the types of this translation are: closed facts. -/
import Derived.Test.YthfmdljohlolpaaProg
import Derived.Test.YthfmdljohlolpaaLoX
import Derived.KernelRfl
namespace Go.Lo
open Go.Proofs
theorem bd10 : bodied Try.prog 10 = true := by kernel_rfl
theorem bd11 : bodied Try.prog 11 = true := by kernel_rfl
theorem bd12 : bodied Try.prog 12 = true := by kernel_rfl
theorem bd20 : bodied Try.prog 20 = true := by kernel_rfl
theorem bd22 : bodied Try.prog 22 = true := by kernel_rfl
theorem bd23 : bodied Try.prog 23 = true := by kernel_rfl
theorem bd9 : bodied Try.prog 9 = true := by kernel_rfl
theorem ut22 : Try.prog.underlying 22 = some (.slice 2) := by kernel_rfl
theorem ut3 : Try.prog.underlying 3 = some (.int .i64) := by kernel_rfl
theorem ut4 : Try.prog.underlying 4 = some (.bool) := by kernel_rfl
theorem ut5 : Try.prog.underlying 5 = some (.int .u8) := by kernel_rfl
end Go.Lo
