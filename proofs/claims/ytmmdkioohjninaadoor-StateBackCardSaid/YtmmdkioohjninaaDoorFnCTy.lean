/- What the types of this translation are: closed facts. -/
import Derived.Test.YtmmdkioohjninaaDoorProg
import Derived.Test.YtmmdkioohjninaaDoorLoP
import Derived.KernelRfl
namespace Go.Lo
open Go.Proofs
theorem ag35 : aggT Tryd.prog 35 = some false := by kernel_rfl
theorem ag37 : aggT Tryd.prog 37 = some false := by kernel_rfl
theorem ag39 : aggT Tryd.prog 39 = some true := by kernel_rfl
theorem ag86 : aggT Tryd.prog 86 = some true := by kernel_rfl
theorem ag90 : aggT Tryd.prog 90 = some true := by kernel_rfl
theorem bd21 : bodied Tryd.prog 21 = true := by kernel_rfl
theorem bd35 : bodied Tryd.prog 35 = true := by kernel_rfl
theorem bd43 : bodied Tryd.prog 43 = true := by kernel_rfl
theorem bd44 : bodied Tryd.prog 44 = true := by kernel_rfl
theorem bd45 : bodied Tryd.prog 45 = true := by kernel_rfl
theorem bd46 : bodied Tryd.prog 46 = true := by kernel_rfl
theorem es90 : eqT2 Tryd.prog 90 = some (3, 3) := by kernel_rfl
theorem ft39_1 : fieldT Tryd.prog 39 1 = some (35, 1) := by kernel_rfl
theorem ft39_3 : fieldT Tryd.prog 39 3 = some (37, 3) := by kernel_rfl
theorem ft86_0 : fieldT Tryd.prog 86 0 = some (3, 0) := by kernel_rfl
theorem ft86_1 : fieldT Tryd.prog 86 1 = some (3, 1) := by kernel_rfl
theorem ft86_2 : fieldT Tryd.prog 86 2 = some (3, 2) := by kernel_rfl
theorem ft86_3 : fieldT Tryd.prog 86 3 = some (3, 3) := by kernel_rfl
theorem ft88_1 : fieldT Tryd.prog 88 1 = some (3, 1) := by kernel_rfl
theorem ft88_2 : fieldT Tryd.prog 88 2 = some (3, 2) := by kernel_rfl
theorem ft90_0 : fieldT Tryd.prog 90 0 = some (3, 0) := by kernel_rfl
theorem ft90_1 : fieldT Tryd.prog 90 1 = some (3, 1) := by kernel_rfl
theorem in3 : (Tryd.prog.info? 3).map (fun i => (i.zero, i.size, i.bytes)) = some (some (.int .i64 0), 1, 8) := by kernel_rfl
theorem in90 : (Tryd.prog.info? 90).map (fun i => (i.zero, i.size, i.bytes)) = some (some (.agg #[(.int .i64 0), (.int .i64 0)]), 2, 16) := by kernel_rfl
theorem iz3 : (Tryd.prog.info? 3).map (fun i => (i.zero, i.size)) = some (some (.int .i64 0), 1) := by kernel_rfl
theorem iz90 : (Tryd.prog.info? 90).map (fun i => (i.zero, i.size)) = some (some (.agg #[(.int .i64 0), (.int .i64 0)]), 2) := by kernel_rfl
theorem pl90 : placesOf Tryd.prog 90 = some ((.agg #[(.int .i64 0), (.int .i64 0)]), fun i => ([(0, 1), (1, 1)] : List (Nat × Nat)).toArray[i]?) := by kernel_rfl
theorem sz35 : (Tryd.prog.info? 35).map (·.size) = some 1 := by kernel_rfl
theorem sz37 : (Tryd.prog.info? 37).map (·.size) = some 1 := by kernel_rfl
theorem sz39 : (Tryd.prog.info? 39).map (·.size) = some 10 := by kernel_rfl
theorem sz86 : (Tryd.prog.info? 86).map (·.size) = some 4 := by kernel_rfl
theorem sz88 : (Tryd.prog.info? 88).map (·.size) = some 3 := by kernel_rfl
theorem sz90 : (Tryd.prog.info? 90).map (·.size) = some 2 := by kernel_rfl
theorem ut3 : Tryd.prog.underlying 3 = some (.int .i64) := by kernel_rfl
theorem ut35 : Tryd.prog.underlying 35 = some (.slice 88) := by kernel_rfl
theorem ut37 : Tryd.prog.underlying 37 = some (.slice 86) := by kernel_rfl
theorem ut5 : Tryd.prog.underlying 5 = some (.int .u8) := by kernel_rfl
theorem ut91 : Tryd.prog.underlying 91 = some (.slice 90) := by kernel_rfl
theorem ze86 : (Tryd.prog.info? 86).bind (·.zero) = some (.agg #[(.int .i64 0), (.int .i64 0), (.int .i64 0), (.int .i64 0)]) := by kernel_rfl
theorem ze90 : (Tryd.prog.info? 90).bind (·.zero) = some (.agg #[(.int .i64 0), (.int .i64 0)]) := by kernel_rfl
end Go.Lo
