/- What the types of this translation are: closed facts. -/
import Derived.Test.YtmmdkioohjninaaDoorProg
import Derived.Test.YtmmdkioohjninaaDoorLoP
import Derived.KernelRfl
namespace Go.Lo
open Go.Proofs
theorem ag30 : aggT Tryd.prog 30 = some true := by kernel_rfl
theorem bd10 : bodied Tryd.prog 10 = true := by kernel_rfl
theorem bd11 : bodied Tryd.prog 11 = true := by kernel_rfl
theorem bd12 : bodied Tryd.prog 12 = true := by kernel_rfl
theorem bd13 : bodied Tryd.prog 13 = true := by kernel_rfl
theorem bd14 : bodied Tryd.prog 14 = true := by kernel_rfl
theorem bd17 : bodied Tryd.prog 17 = true := by kernel_rfl
theorem bd25 : bodied Tryd.prog 25 = true := by kernel_rfl
theorem bd27 : bodied Tryd.prog 27 = true := by kernel_rfl
theorem ft68_0 : fieldT Tryd.prog 68 0 = some (3, 0) := by kernel_rfl
theorem ft68_1 : fieldT Tryd.prog 68 1 = some (5, 1) := by kernel_rfl
theorem sz30 : (Tryd.prog.info? 30).map (·.size) = some 3 := by kernel_rfl
end Go.Lo
