/- What the types of this translation are: closed facts. -/
import Derived.Test.YtgebbfapgncodaaProg
import Derived.Test.YtgebbfapgncodaaLoP
import Derived.KernelRfl
namespace Go.Lo
open Go.Proofs
theorem ag23 : aggT Try.prog 23 = some false := by kernel_rfl
theorem ag3 : aggT Try.prog 3 = some false := by kernel_rfl
theorem ag30 : aggT Try.prog 30 = some true := by kernel_rfl
theorem ag31 : aggT Try.prog 31 = some true := by kernel_rfl
theorem ag4 : aggT Try.prog 4 = some false := by kernel_rfl
theorem bd10 : bodied Try.prog 10 = true := by kernel_rfl
theorem bd11 : bodied Try.prog 11 = true := by kernel_rfl
theorem bd12 : bodied Try.prog 12 = true := by kernel_rfl
theorem bd18 : bodied Try.prog 18 = true := by kernel_rfl
theorem bd19 : bodied Try.prog 19 = true := by kernel_rfl
theorem bd20 : bodied Try.prog 20 = true := by kernel_rfl
theorem bd21 : bodied Try.prog 21 = true := by kernel_rfl
theorem bd22 : bodied Try.prog 22 = true := by kernel_rfl
theorem bd25 : bodied Try.prog 25 = true := by kernel_rfl
theorem bd30 : bodied Try.prog 30 = true := by kernel_rfl
theorem bd31 : bodied Try.prog 31 = true := by kernel_rfl
theorem bd32 : bodied Try.prog 32 = true := by kernel_rfl
theorem bd33 : bodied Try.prog 33 = true := by kernel_rfl
theorem bd34 : bodied Try.prog 34 = true := by kernel_rfl
theorem bd35 : bodied Try.prog 35 = true := by kernel_rfl
theorem bd39 : bodied Try.prog 39 = true := by kernel_rfl
theorem bd8 : bodied Try.prog 8 = true := by kernel_rfl
theorem bd9 : bodied Try.prog 9 = true := by kernel_rfl
theorem ft30_0 : fieldT Try.prog 30 0 = some (3, 0) := by kernel_rfl
theorem ft30_1 : fieldT Try.prog 30 1 = some (4, 1) := by kernel_rfl
theorem ft31_0 : fieldT Try.prog 31 0 = some (3, 0) := by kernel_rfl
theorem ft31_1 : fieldT Try.prog 31 1 = some (4, 1) := by kernel_rfl
theorem ft66_0 : fieldT Try.prog 66 0 = some (3, 0) := by kernel_rfl
theorem ft66_1 : fieldT Try.prog 66 1 = some (4, 1) := by kernel_rfl
theorem in30 : (Try.prog.info? 30).map (fun i => (i.zero, i.size, i.bytes)) = some (some (.agg #[(.int .i64 0), (.bool false)]), 2, 16) := by kernel_rfl
theorem in31 : (Try.prog.info? 31).map (fun i => (i.zero, i.size, i.bytes)) = some (some (.agg #[(.int .i64 0), (.bool false)]), 2, 16) := by kernel_rfl
theorem in4 : (Try.prog.info? 4).map (fun i => (i.zero, i.size, i.bytes)) = some (some (.bool false), 1, 1) := by kernel_rfl
theorem in66 : (Try.prog.info? 66).map (fun i => (i.zero, i.size, i.bytes)) = some (some (.agg #[(.int .i64 0), (.bool false)]), 2, 16) := by kernel_rfl
theorem iz30 : (Try.prog.info? 30).map (fun i => (i.zero, i.size)) = some (some (.agg #[(.int .i64 0), (.bool false)]), 2) := by kernel_rfl
theorem iz31 : (Try.prog.info? 31).map (fun i => (i.zero, i.size)) = some (some (.agg #[(.int .i64 0), (.bool false)]), 2) := by kernel_rfl
theorem iz4 : (Try.prog.info? 4).map (fun i => (i.zero, i.size)) = some (some (.bool false), 1) := by kernel_rfl
theorem iz66 : (Try.prog.info? 66).map (fun i => (i.zero, i.size)) = some (some (.agg #[(.int .i64 0), (.bool false)]), 2) := by kernel_rfl
theorem mixed : Try.prog.follows .mixedOrders = true := by kernel_rfl
theorem pl30 : placesOf Try.prog 30 = some ((.agg #[(.int .i64 0), (.bool false)]), fun i => ([(0, 1), (1, 1)] : List (Nat × Nat)).toArray[i]?) := by kernel_rfl
theorem pl31 : placesOf Try.prog 31 = some ((.agg #[(.int .i64 0), (.bool false)]), fun i => ([(0, 1), (1, 1)] : List (Nat × Nat)).toArray[i]?) := by kernel_rfl
theorem pl66 : placesOf Try.prog 66 = some ((.agg #[(.int .i64 0), (.bool false)]), fun i => ([(0, 1), (1, 1)] : List (Nat × Nat)).toArray[i]?) := by kernel_rfl
theorem sz3 : (Try.prog.info? 3).map (·.size) = some 1 := by kernel_rfl
theorem sz30 : (Try.prog.info? 30).map (·.size) = some 2 := by kernel_rfl
theorem sz31 : (Try.prog.info? 31).map (·.size) = some 2 := by kernel_rfl
theorem sz4 : (Try.prog.info? 4).map (·.size) = some 1 := by kernel_rfl
theorem sz66 : (Try.prog.info? 66).map (·.size) = some 2 := by kernel_rfl
theorem ut22 : Try.prog.underlying 22 = some (.slice 66) := by kernel_rfl
theorem ut23 : Try.prog.underlying 23 = some (.slice 4) := by kernel_rfl
theorem ut25 : Try.prog.underlying 25 = some (.slice 30) := by kernel_rfl
theorem ut26 : Try.prog.underlying 26 = some (.slice 31) := by kernel_rfl
theorem ut3 : Try.prog.underlying 3 = some (.int .i64) := by kernel_rfl
theorem ut4 : Try.prog.underlying 4 = some (.bool) := by kernel_rfl
theorem ut49 : Try.prog.underlying 49 = some (.slice 3) := by kernel_rfl
theorem ut5 : Try.prog.underlying 5 = some (.int .u8) := by kernel_rfl
theorem ze30 : (Try.prog.info? 30).bind (·.zero) = some (.agg #[(.int .i64 0), (.bool false)]) := by kernel_rfl
end Go.Lo
