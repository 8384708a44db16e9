/- What the types of this translation are: closed facts. -/
import Derived.Test.YthfmdljohlolpaaProg
import Derived.Test.YthfmdljohlolpaaLoX
import Derived.KernelRfl
namespace Go.Lo
open Go.Proofs
theorem ag39 : aggT Try.prog 39 = some true := by kernel_rfl
theorem ag5 : aggT Try.prog 5 = some false := by kernel_rfl
theorem bd10 : bodied Try.prog 10 = true := by kernel_rfl
theorem bd11 : bodied Try.prog 11 = true := by kernel_rfl
theorem bd12 : bodied Try.prog 12 = true := by kernel_rfl
theorem bd16 : bodied Try.prog 16 = true := by kernel_rfl
theorem bd17 : bodied Try.prog 17 = true := by kernel_rfl
theorem bd19 : bodied Try.prog 19 = true := by kernel_rfl
theorem bd20 : bodied Try.prog 20 = true := by kernel_rfl
theorem bd21 : bodied Try.prog 21 = true := by kernel_rfl
theorem bd22 : bodied Try.prog 22 = true := by kernel_rfl
theorem bd9 : bodied Try.prog 9 = true := by kernel_rfl
theorem ft39_0 : fieldT Try.prog 39 0 = some (5, 0) := by kernel_rfl
theorem ft39_1 : fieldT Try.prog 39 1 = some (3, 1) := by kernel_rfl
theorem ft39_2 : fieldT Try.prog 39 2 = some (2, 2) := by kernel_rfl
theorem sz39 : (Try.prog.info? 39).map (·.size) = some 3 := by kernel_rfl
theorem sz5 : (Try.prog.info? 5).map (·.size) = some 1 := by kernel_rfl
theorem ut35 : Try.prog.underlying 35 = some (.slice 39) := by kernel_rfl
theorem ut4 : Try.prog.underlying 4 = some (.bool) := by kernel_rfl
end Go.Lo
