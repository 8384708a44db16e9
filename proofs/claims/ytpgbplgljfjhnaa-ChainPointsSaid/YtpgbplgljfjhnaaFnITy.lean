/- What the types of this translation are: closed facts. -/
import Derived.Test.YtpgbplgljfjhnaaProg
import Derived.Test.YtpgbplgljfjhnaaLoX
import Derived.KernelRfl
namespace Go.Lo
open Go.Proofs
theorem ag27 : aggT Try.prog 27 = some false := by kernel_rfl
theorem ag41 : aggT Try.prog 41 = some true := by kernel_rfl
theorem bd12 : bodied Try.prog 12 = true := by kernel_rfl
theorem bd13 : bodied Try.prog 13 = true := by kernel_rfl
theorem bd14 : bodied Try.prog 14 = true := by kernel_rfl
theorem bd18 : bodied Try.prog 18 = true := by kernel_rfl
theorem bd25 : bodied Try.prog 25 = true := by kernel_rfl
theorem bd26 : bodied Try.prog 26 = true := by kernel_rfl
theorem ft29_0 : fieldT Try.prog 29 0 = some (5, 0) := by kernel_rfl
theorem ft29_1 : fieldT Try.prog 29 1 = some (5, 1) := by kernel_rfl
theorem ft29_2 : fieldT Try.prog 29 2 = some (26, 2) := by kernel_rfl
theorem ft29_3 : fieldT Try.prog 29 3 = some (22, 3) := by kernel_rfl
theorem ft29_4 : fieldT Try.prog 29 4 = some (22, 4) := by kernel_rfl
theorem ft29_5 : fieldT Try.prog 29 5 = some (22, 5) := by kernel_rfl
theorem ft29_6 : fieldT Try.prog 29 6 = some (22, 6) := by kernel_rfl
theorem ft29_7 : fieldT Try.prog 29 7 = some (27, 7) := by kernel_rfl
theorem pl25 : placesOf Try.prog 25 = some ((.agg #[(.int .u8 0), (.int .u8 0), (.int .u8 0), (.int .u16 0), (.int .u16 0), (.int .u8 0), (.int .u8 0), (.int .u8 0), (.slice none 0 0)]), fun i => ([(0, 1), (1, 1), (2, 1), (3, 1), (4, 1), (5, 1), (6, 1), (7, 1), (8, 1)] : List (Nat × Nat)).toArray[i]?) := by kernel_rfl
theorem pl40 : placesOf Try.prog 40 = some ((.agg #[(.int .i64 0), (.int .i64 0), (.int .i64 0), (.int .i64 0), (.int .i64 0), (.slice none 0 0)]), fun i => ([(0, 1), (1, 1), (2, 1), (3, 1), (4, 1), (5, 1)] : List (Nat × Nat)).toArray[i]?) := by kernel_rfl
theorem pl41 : placesOf Try.prog 41 = some ((.agg #[(.int .i64 0), (.int .i64 0), (.int .i64 0), (.int .i64 0), (.int .i64 0), (.slice none 0 0)]), fun i => ([(0, 1), (1, 1), (2, 1), (3, 1), (4, 1), (5, 1)] : List (Nat × Nat)).toArray[i]?) := by kernel_rfl
theorem pl67 : placesOf Try.prog 67 = some ((.agg #[(.slice none 0 0), (.slice none 0 0), (.slice none 0 0), (.slice none 0 0), (.slice none 0 0), (.int .i64 0), (.int .i64 0), (.int .i64 0), (.int .i64 0), (.int .i64 0)]), fun i => ([(0, 10)] : List (Nat × Nat)).toArray[i]?) := by kernel_rfl
theorem sz27 : (Try.prog.info? 27).map (·.size) = some 1 := by kernel_rfl
theorem sz41 : (Try.prog.info? 41).map (·.size) = some 6 := by kernel_rfl
theorem ze40 : (Try.prog.info? 40).bind (·.zero) = some (.agg #[(.int .i64 0), (.int .i64 0), (.int .i64 0), (.int .i64 0), (.int .i64 0), (.slice none 0 0)]) := by kernel_rfl
theorem ze41 : (Try.prog.info? 41).bind (·.zero) = some (.agg #[(.int .i64 0), (.int .i64 0), (.int .i64 0), (.int .i64 0), (.int .i64 0), (.slice none 0 0)]) := by kernel_rfl
end Go.Lo
