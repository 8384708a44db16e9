/- What the types of this translation are: closed facts. -/
import Derived.Test.YtmmdkioohjninaaDoorProg
import Derived.Test.YtmmdkioohjninaaDoorLoP
import Derived.KernelRfl
namespace Go.Lo
open Go.Proofs
theorem ag28 : aggT Tryd.prog 28 = some false := by kernel_rfl
theorem ag4 : aggT Tryd.prog 4 = some false := by kernel_rfl
theorem bd19 : bodied Tryd.prog 19 = true := by kernel_rfl
theorem bd20 : bodied Tryd.prog 20 = true := by kernel_rfl
theorem ft30_0 : fieldT Tryd.prog 30 0 = some (26, 0) := by kernel_rfl
theorem ft30_2 : fieldT Tryd.prog 30 2 = some (28, 2) := by kernel_rfl
theorem ft53_2 : fieldT Tryd.prog 53 2 = some (47, 2) := by kernel_rfl
theorem ft71_0 : fieldT Tryd.prog 71 0 = some (5, 0) := by kernel_rfl
theorem ft71_1 : fieldT Tryd.prog 71 1 = some (4, 1) := by kernel_rfl
theorem ft71_2 : fieldT Tryd.prog 71 2 = some (26, 2) := by kernel_rfl
theorem in53 : (Tryd.prog.info? 53).map (fun i => (i.zero, i.size, i.bytes)) = some (some (.agg #[(.int .i64 0), (.bool false), (.slice none 0 0)]), 3, 40) := by kernel_rfl
theorem in73 : (Tryd.prog.info? 73).map (fun i => (i.zero, i.size, i.bytes)) = some (some (.agg #[(.int .i64 0), (.bool false), (.slice none 0 0)]), 3, 40) := by kernel_rfl
theorem iz53 : (Tryd.prog.info? 53).map (fun i => (i.zero, i.size)) = some (some (.agg #[(.int .i64 0), (.bool false), (.slice none 0 0)]), 3) := by kernel_rfl
theorem iz73 : (Tryd.prog.info? 73).map (fun i => (i.zero, i.size)) = some (some (.agg #[(.int .i64 0), (.bool false), (.slice none 0 0)]), 3) := by kernel_rfl
theorem sz28 : (Tryd.prog.info? 28).map (·.size) = some 1 := by kernel_rfl
theorem sz4 : (Tryd.prog.info? 4).map (·.size) = some 1 := by kernel_rfl
theorem sz71 : (Tryd.prog.info? 71).map (·.size) = some 3 := by kernel_rfl
theorem ut28 : Tryd.prog.underlying 28 = some (.slice 71) := by kernel_rfl
end Go.Lo
