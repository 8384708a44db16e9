/- What the types of this translation are: closed facts. -/
import Derived.Test.YtmmdkioohjninaaDoorProg
import Derived.Test.YtmmdkioohjninaaDoorLoP
import Derived.KernelRfl
namespace Go.Lo
open Go.Proofs
theorem ag22 : aggT Tryd.prog 22 = some false := by kernel_rfl
theorem ag34 : aggT Tryd.prog 34 = some false := by kernel_rfl
theorem ag36 : aggT Tryd.prog 36 = some false := by kernel_rfl
theorem ag47 : aggT Tryd.prog 47 = some false := by kernel_rfl
theorem ft25_0 : fieldT Tryd.prog 25 0 = some (5, 0) := by kernel_rfl
theorem ft25_1 : fieldT Tryd.prog 25 1 = some (5, 1) := by kernel_rfl
theorem ft25_2 : fieldT Tryd.prog 25 2 = some (5, 2) := by kernel_rfl
theorem ft25_3 : fieldT Tryd.prog 25 3 = some (22, 3) := by kernel_rfl
theorem ft25_4 : fieldT Tryd.prog 25 4 = some (22, 4) := by kernel_rfl
theorem ft25_5 : fieldT Tryd.prog 25 5 = some (5, 5) := by kernel_rfl
theorem ft25_6 : fieldT Tryd.prog 25 6 = some (5, 6) := by kernel_rfl
theorem ft25_7 : fieldT Tryd.prog 25 7 = some (5, 7) := by kernel_rfl
theorem ft39_0 : fieldT Tryd.prog 39 0 = some (34, 0) := by kernel_rfl
theorem ft39_2 : fieldT Tryd.prog 39 2 = some (36, 2) := by kernel_rfl
theorem ft39_5 : fieldT Tryd.prog 39 5 = some (3, 5) := by kernel_rfl
theorem ft39_6 : fieldT Tryd.prog 39 6 = some (2, 6) := by kernel_rfl
theorem ft39_7 : fieldT Tryd.prog 39 7 = some (2, 7) := by kernel_rfl
theorem ft39_8 : fieldT Tryd.prog 39 8 = some (2, 8) := by kernel_rfl
theorem ft39_9 : fieldT Tryd.prog 39 9 = some (2, 9) := by kernel_rfl
theorem in47 : (Tryd.prog.info? 47).map (fun i => (i.zero, i.size, i.bytes)) = some (some (.slice none 0 0), 1, 24) := by kernel_rfl
theorem in81 : (Tryd.prog.info? 81).map (fun i => (i.zero, i.size, i.bytes)) = some (some (.complex .f64 0 0), 1, 16) := by kernel_rfl
theorem in84 : (Tryd.prog.info? 84).map (fun i => (i.zero, i.size, i.bytes)) = some (some (.agg #[(.int .i64 0), (.int .i64 0)]), 2, 16) := by kernel_rfl
theorem in88 : (Tryd.prog.info? 88).map (fun i => (i.zero, i.size, i.bytes)) = some (some (.agg #[(.int .i64 0), (.int .i64 0), (.int .i64 0)]), 3, 24) := by kernel_rfl
theorem iz47 : (Tryd.prog.info? 47).map (fun i => (i.zero, i.size)) = some (some (.slice none 0 0), 1) := by kernel_rfl
theorem iz81 : (Tryd.prog.info? 81).map (fun i => (i.zero, i.size)) = some (some (.complex .f64 0 0), 1) := by kernel_rfl
theorem iz84 : (Tryd.prog.info? 84).map (fun i => (i.zero, i.size)) = some (some (.agg #[(.int .i64 0), (.int .i64 0)]), 2) := by kernel_rfl
theorem iz86 : (Tryd.prog.info? 86).map (fun i => (i.zero, i.size)) = some (some (.agg #[(.int .i64 0), (.int .i64 0), (.int .i64 0), (.int .i64 0)]), 4) := by kernel_rfl
theorem iz88 : (Tryd.prog.info? 88).map (fun i => (i.zero, i.size)) = some (some (.agg #[(.int .i64 0), (.int .i64 0), (.int .i64 0)]), 3) := by kernel_rfl
theorem pl84 : placesOf Tryd.prog 84 = some ((.agg #[(.int .i64 0), (.int .i64 0)]), fun i => some (i * 1, 1)) := by kernel_rfl
theorem pl86 : placesOf Tryd.prog 86 = some ((.agg #[(.int .i64 0), (.int .i64 0), (.int .i64 0), (.int .i64 0)]), fun i => ([(0, 1), (1, 1), (2, 1), (3, 1)] : List (Nat × Nat)).toArray[i]?) := by kernel_rfl
theorem pl88 : placesOf Tryd.prog 88 = some ((.agg #[(.int .i64 0), (.int .i64 0), (.int .i64 0)]), fun i => ([(0, 1), (1, 1), (2, 1)] : List (Nat × Nat)).toArray[i]?) := by kernel_rfl
theorem sz2 : (Tryd.prog.info? 2).map (·.size) = some 1 := by kernel_rfl
theorem sz22 : (Tryd.prog.info? 22).map (·.size) = some 1 := by kernel_rfl
theorem sz34 : (Tryd.prog.info? 34).map (·.size) = some 1 := by kernel_rfl
theorem sz36 : (Tryd.prog.info? 36).map (·.size) = some 1 := by kernel_rfl
theorem sz47 : (Tryd.prog.info? 47).map (·.size) = some 1 := by kernel_rfl
theorem sz84 : (Tryd.prog.info? 84).map (·.size) = some 2 := by kernel_rfl
theorem ut2 : Tryd.prog.underlying 2 = some (.int .i64) := by kernel_rfl
theorem ut22 : Tryd.prog.underlying 22 = some (.int .u16) := by kernel_rfl
theorem ut34 : Tryd.prog.underlying 34 = some (.slice 81) := by kernel_rfl
theorem ut36 : Tryd.prog.underlying 36 = some (.slice 47) := by kernel_rfl
theorem ut82 : Tryd.prog.underlying 82 = some (.float .f64) := by kernel_rfl
theorem ut83 : Tryd.prog.underlying 83 = some (.slice 84) := by kernel_rfl
theorem ut84 : Tryd.prog.underlying 84 = some (.array 2 3) := by kernel_rfl
theorem ze39 : (Tryd.prog.info? 39).bind (·.zero) = some (.agg #[(.slice none 0 0), (.slice none 0 0), (.slice none 0 0), (.slice none 0 0), (.slice none 0 0), (.int .i64 0), (.int .i64 0), (.int .i64 0), (.int .i64 0), (.int .i64 0)]) := by kernel_rfl
end Go.Lo
