/- What the types of this translation are: closed facts. -/
import Derived.Test.YtpgbplgljfjhnaaProg
import Derived.Test.YtpgbplgljfjhnaaLoX
import Derived.KernelRfl
namespace Go.Lo
open Go.Proofs
theorem ag22 : aggT Try.prog 22 = some false := by kernel_rfl
theorem ag32 : aggT Try.prog 32 = some false := by kernel_rfl
theorem ag34 : aggT Try.prog 34 = some false := by kernel_rfl
theorem ag38 : aggT Try.prog 38 = some false := by kernel_rfl
theorem ft25_0 : fieldT Try.prog 25 0 = some (5, 0) := by kernel_rfl
theorem ft25_1 : fieldT Try.prog 25 1 = some (5, 1) := by kernel_rfl
theorem ft25_2 : fieldT Try.prog 25 2 = some (5, 2) := by kernel_rfl
theorem ft25_3 : fieldT Try.prog 25 3 = some (22, 3) := by kernel_rfl
theorem ft25_4 : fieldT Try.prog 25 4 = some (22, 4) := by kernel_rfl
theorem ft25_5 : fieldT Try.prog 25 5 = some (5, 5) := by kernel_rfl
theorem ft25_6 : fieldT Try.prog 25 6 = some (5, 6) := by kernel_rfl
theorem ft25_7 : fieldT Try.prog 25 7 = some (5, 7) := by kernel_rfl
theorem ft37_0 : fieldT Try.prog 37 0 = some (32, 0) := by kernel_rfl
theorem ft37_2 : fieldT Try.prog 37 2 = some (34, 2) := by kernel_rfl
theorem ft37_5 : fieldT Try.prog 37 5 = some (3, 5) := by kernel_rfl
theorem ft37_6 : fieldT Try.prog 37 6 = some (2, 6) := by kernel_rfl
theorem ft37_7 : fieldT Try.prog 37 7 = some (2, 7) := by kernel_rfl
theorem ft37_8 : fieldT Try.prog 37 8 = some (2, 8) := by kernel_rfl
theorem ft37_9 : fieldT Try.prog 37 9 = some (2, 9) := by kernel_rfl
theorem in38 : (Try.prog.info? 38).map (fun i => (i.zero, i.size, i.bytes)) = some (some (.slice none 0 0), 1, 24) := by kernel_rfl
theorem in74 : (Try.prog.info? 74).map (fun i => (i.zero, i.size, i.bytes)) = some (some (.agg #[(.int .i64 0), (.int .i64 0), (.int .i64 0)]), 3, 24) := by kernel_rfl
theorem in77 : (Try.prog.info? 77).map (fun i => (i.zero, i.size, i.bytes)) = some (some (.complex .f64 0 0), 1, 16) := by kernel_rfl
theorem in80 : (Try.prog.info? 80).map (fun i => (i.zero, i.size, i.bytes)) = some (some (.agg #[(.int .i64 0), (.int .i64 0)]), 2, 16) := by kernel_rfl
theorem iz38 : (Try.prog.info? 38).map (fun i => (i.zero, i.size)) = some (some (.slice none 0 0), 1) := by kernel_rfl
theorem iz58 : (Try.prog.info? 58).map (fun i => (i.zero, i.size)) = some (some (.agg #[(.int .i64 0), (.int .i64 0), (.int .i64 0), (.int .i64 0)]), 4) := by kernel_rfl
theorem iz74 : (Try.prog.info? 74).map (fun i => (i.zero, i.size)) = some (some (.agg #[(.int .i64 0), (.int .i64 0), (.int .i64 0)]), 3) := by kernel_rfl
theorem iz77 : (Try.prog.info? 77).map (fun i => (i.zero, i.size)) = some (some (.complex .f64 0 0), 1) := by kernel_rfl
theorem iz80 : (Try.prog.info? 80).map (fun i => (i.zero, i.size)) = some (some (.agg #[(.int .i64 0), (.int .i64 0)]), 2) := by kernel_rfl
theorem pl58 : placesOf Try.prog 58 = some ((.agg #[(.int .i64 0), (.int .i64 0), (.int .i64 0), (.int .i64 0)]), fun i => ([(0, 1), (1, 1), (2, 1), (3, 1)] : List (Nat × Nat)).toArray[i]?) := by kernel_rfl
theorem pl74 : placesOf Try.prog 74 = some ((.agg #[(.int .i64 0), (.int .i64 0), (.int .i64 0)]), fun i => ([(0, 1), (1, 1), (2, 1)] : List (Nat × Nat)).toArray[i]?) := by kernel_rfl
theorem pl80 : placesOf Try.prog 80 = some ((.agg #[(.int .i64 0), (.int .i64 0)]), fun i => some (i * 1, 1)) := by kernel_rfl
theorem sz2 : (Try.prog.info? 2).map (·.size) = some 1 := by kernel_rfl
theorem sz22 : (Try.prog.info? 22).map (·.size) = some 1 := by kernel_rfl
theorem sz32 : (Try.prog.info? 32).map (·.size) = some 1 := by kernel_rfl
theorem sz34 : (Try.prog.info? 34).map (·.size) = some 1 := by kernel_rfl
theorem sz38 : (Try.prog.info? 38).map (·.size) = some 1 := by kernel_rfl
theorem sz80 : (Try.prog.info? 80).map (·.size) = some 2 := by kernel_rfl
theorem ut2 : Try.prog.underlying 2 = some (.int .i64) := by kernel_rfl
theorem ut22 : Try.prog.underlying 22 = some (.int .u16) := by kernel_rfl
theorem ut32 : Try.prog.underlying 32 = some (.slice 77) := by kernel_rfl
theorem ut34 : Try.prog.underlying 34 = some (.slice 38) := by kernel_rfl
theorem ut78 : Try.prog.underlying 78 = some (.float .f64) := by kernel_rfl
theorem ut79 : Try.prog.underlying 79 = some (.slice 80) := by kernel_rfl
theorem ut80 : Try.prog.underlying 80 = some (.array 2 3) := by kernel_rfl
theorem ze37 : (Try.prog.info? 37).bind (·.zero) = some (.agg #[(.slice none 0 0), (.slice none 0 0), (.slice none 0 0), (.slice none 0 0), (.slice none 0 0), (.int .i64 0), (.int .i64 0), (.int .i64 0), (.int .i64 0), (.int .i64 0)]) := by kernel_rfl
end Go.Lo
