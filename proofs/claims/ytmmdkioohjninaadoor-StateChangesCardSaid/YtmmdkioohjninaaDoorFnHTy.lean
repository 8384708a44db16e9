/- What the types of this translation are: closed facts. -/
import Derived.Test.YtmmdkioohjninaaDoorProg
import Derived.Test.YtmmdkioohjninaaDoorLoP
import Derived.KernelRfl
namespace Go.Lo
open Go.Proofs
theorem bd10 : bodied Tryd.prog 10 = true := by kernel_rfl
theorem bd25 : bodied Tryd.prog 25 = true := by kernel_rfl
theorem bd26 : bodied Tryd.prog 26 = true := by kernel_rfl
theorem bd27 : bodied Tryd.prog 27 = true := by kernel_rfl
theorem bd28 : bodied Tryd.prog 28 = true := by kernel_rfl
end Go.Lo
