/- What the types of this translation are: closed facts. -/
import Derived.Test.YtmmdkioohjninaaDoorProg
import Derived.Test.YtmmdkioohjninaaDoorLoP
import Derived.KernelRfl
namespace Go.Lo
open Go.Proofs
theorem ag23 : aggT Tryd.prog 23 = some false := by kernel_rfl
theorem ag25 : aggT Tryd.prog 25 = some true := by kernel_rfl
theorem ag26 : aggT Tryd.prog 26 = some false := by kernel_rfl
theorem bd29 : bodied Tryd.prog 29 = true := by kernel_rfl
theorem bd30 : bodied Tryd.prog 30 = true := by kernel_rfl
theorem ft25_8 : fieldT Tryd.prog 25 8 = some (23, 8) := by kernel_rfl
theorem ft39_4 : fieldT Tryd.prog 39 4 = some (36, 4) := by kernel_rfl
theorem sz23 : (Tryd.prog.info? 23).map (·.size) = some 1 := by kernel_rfl
theorem sz25 : (Tryd.prog.info? 25).map (·.size) = some 9 := by kernel_rfl
theorem sz26 : (Tryd.prog.info? 26).map (·.size) = some 1 := by kernel_rfl
theorem ut23 : Tryd.prog.underlying 23 = some (.slice 26) := by kernel_rfl
end Go.Lo
