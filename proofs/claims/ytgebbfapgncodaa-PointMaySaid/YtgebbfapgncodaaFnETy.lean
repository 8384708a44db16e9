/- What the types of this translation are: closed facts. -/
import Derived.Test.YtgebbfapgncodaaProg
import Derived.Test.YtgebbfapgncodaaLoP
import Derived.KernelRfl
namespace Go.Lo
open Go.Proofs
theorem bd13 : bodied Try.prog 13 = true := by kernel_rfl
theorem bd14 : bodied Try.prog 14 = true := by kernel_rfl
theorem bd15 : bodied Try.prog 15 = true := by kernel_rfl
theorem bd16 : bodied Try.prog 16 = true := by kernel_rfl
theorem iz51 : (Try.prog.info? 51).map (fun i => (i.zero, i.size)) = some (some (.agg #[(.int .i64 0), (.bool false), (.slice none 0 0)]), 3) := by kernel_rfl
theorem iz53 : (Try.prog.info? 53).map (fun i => (i.zero, i.size)) = some (some (.agg #[(.int .i64 0), (.bool false), (.slice none 0 0)]), 3) := by kernel_rfl
theorem pl51 : placesOf Try.prog 51 = some ((.agg #[(.int .i64 0), (.bool false), (.slice none 0 0)]), fun i => ([(0, 1), (1, 1), (2, 1)] : List (Nat × Nat)).toArray[i]?) := by kernel_rfl
theorem pl53 : placesOf Try.prog 53 = some ((.agg #[(.int .i64 0), (.bool false), (.slice none 0 0)]), fun i => ([(0, 1), (1, 1), (2, 1)] : List (Nat × Nat)).toArray[i]?) := by kernel_rfl
end Go.Lo
