/- What the types of this translation are: closed facts. -/
import Derived.Test.YthfmdljohlolpaaProg
import Derived.Test.YthfmdljohlolpaaLoX
import Derived.KernelRfl
namespace Go.Lo
open Go.Proofs
theorem ag2 : aggT Try.prog 2 = some false := by kernel_rfl
theorem ag55 : aggT Try.prog 55 = some false := by kernel_rfl
theorem ag59 : aggT Try.prog 59 = some true := by kernel_rfl
theorem bd14 : bodied Try.prog 14 = true := by kernel_rfl
theorem bd15 : bodied Try.prog 15 = true := by kernel_rfl
theorem bd18 : bodied Try.prog 18 = true := by kernel_rfl
theorem bd24 : bodied Try.prog 24 = true := by kernel_rfl
theorem bd29 : bodied Try.prog 29 = true := by kernel_rfl
theorem bd30 : bodied Try.prog 30 = true := by kernel_rfl
theorem bd31 : bodied Try.prog 31 = true := by kernel_rfl
theorem bd36 : bodied Try.prog 36 = true := by kernel_rfl
theorem bd37 : bodied Try.prog 37 = true := by kernel_rfl
theorem ft57_0 : fieldT Try.prog 57 0 = some (55, 0) := by kernel_rfl
theorem ft59_0 : fieldT Try.prog 59 0 = some (3, 0) := by kernel_rfl
theorem ft59_1 : fieldT Try.prog 59 1 = some (2, 1) := by kernel_rfl
theorem ft68_0 : fieldT Try.prog 68 0 = some (3, 0) := by kernel_rfl
theorem ft68_1 : fieldT Try.prog 68 1 = some (2, 1) := by kernel_rfl
theorem in3 : (Try.prog.info? 3).map (fun i => (i.zero, i.size, i.bytes)) = some (some (.int .i64 0), 1, 8) := by kernel_rfl
theorem in59 : (Try.prog.info? 59).map (fun i => (i.zero, i.size, i.bytes)) = some (some (.agg #[(.int .i64 0), (.int .i64 0)]), 2, 16) := by kernel_rfl
theorem in68 : (Try.prog.info? 68).map (fun i => (i.zero, i.size, i.bytes)) = some (some (.agg #[(.int .i64 0), (.int .i64 0)]), 2, 16) := by kernel_rfl
theorem iz3 : (Try.prog.info? 3).map (fun i => (i.zero, i.size)) = some (some (.int .i64 0), 1) := by kernel_rfl
theorem iz59 : (Try.prog.info? 59).map (fun i => (i.zero, i.size)) = some (some (.agg #[(.int .i64 0), (.int .i64 0)]), 2) := by kernel_rfl
theorem iz68 : (Try.prog.info? 68).map (fun i => (i.zero, i.size)) = some (some (.agg #[(.int .i64 0), (.int .i64 0)]), 2) := by kernel_rfl
theorem pl57 : placesOf Try.prog 57 = some ((.agg #[(.slice none 0 0)]), fun i => ([(0, 1)] : List (Nat × Nat)).toArray[i]?) := by kernel_rfl
theorem pl59 : placesOf Try.prog 59 = some ((.agg #[(.int .i64 0), (.int .i64 0)]), fun i => ([(0, 1), (1, 1)] : List (Nat × Nat)).toArray[i]?) := by kernel_rfl
theorem pl68 : placesOf Try.prog 68 = some ((.agg #[(.int .i64 0), (.int .i64 0)]), fun i => ([(0, 1), (1, 1)] : List (Nat × Nat)).toArray[i]?) := by kernel_rfl
theorem sz2 : (Try.prog.info? 2).map (·.size) = some 1 := by kernel_rfl
theorem sz55 : (Try.prog.info? 55).map (·.size) = some 1 := by kernel_rfl
theorem sz59 : (Try.prog.info? 59).map (·.size) = some 2 := by kernel_rfl
theorem sz68 : (Try.prog.info? 68).map (·.size) = some 2 := by kernel_rfl
theorem ut2 : Try.prog.underlying 2 = some (.int .i64) := by kernel_rfl
theorem ut24 : Try.prog.underlying 24 = some (.pointer 57) := by kernel_rfl
theorem ut36 : Try.prog.underlying 36 = some (.slice 68) := by kernel_rfl
theorem ut55 : Try.prog.underlying 55 = some (.slice 59) := by kernel_rfl
theorem ut70 : Try.prog.underlying 70 = some (.int .u64) := by kernel_rfl
theorem ze59 : (Try.prog.info? 59).bind (·.zero) = some (.agg #[(.int .i64 0), (.int .i64 0)]) := by kernel_rfl
end Go.Lo
