/- What the types of this translation are: closed facts. -/
import Derived.Test.YtpgbplgljfjhnaaProg
import Derived.Test.YtpgbplgljfjhnaaLoX
import Derived.KernelRfl
namespace Go.Lo
open Go.Proofs
theorem ag33 : aggT Try.prog 33 = some false := by kernel_rfl
theorem ag35 : aggT Try.prog 35 = some false := by kernel_rfl
theorem ag37 : aggT Try.prog 37 = some true := by kernel_rfl
theorem ag5 : aggT Try.prog 5 = some false := by kernel_rfl
theorem ag51 : aggT Try.prog 51 = some true := by kernel_rfl
theorem ag58 : aggT Try.prog 58 = some true := by kernel_rfl
theorem bd17 : bodied Try.prog 17 = true := by kernel_rfl
theorem bd29 : bodied Try.prog 29 = true := by kernel_rfl
theorem bd30 : bodied Try.prog 30 = true := by kernel_rfl
theorem bd31 : bodied Try.prog 31 = true := by kernel_rfl
theorem bd39 : bodied Try.prog 39 = true := by kernel_rfl
theorem bd40 : bodied Try.prog 40 = true := by kernel_rfl
theorem es51 : eqT2 Try.prog 51 = some (3, 3) := by kernel_rfl
theorem ft37_1 : fieldT Try.prog 37 1 = some (33, 1) := by kernel_rfl
theorem ft37_3 : fieldT Try.prog 37 3 = some (35, 3) := by kernel_rfl
theorem ft51_0 : fieldT Try.prog 51 0 = some (3, 0) := by kernel_rfl
theorem ft51_1 : fieldT Try.prog 51 1 = some (3, 1) := by kernel_rfl
theorem ft58_0 : fieldT Try.prog 58 0 = some (3, 0) := by kernel_rfl
theorem ft58_1 : fieldT Try.prog 58 1 = some (3, 1) := by kernel_rfl
theorem ft58_2 : fieldT Try.prog 58 2 = some (3, 2) := by kernel_rfl
theorem ft58_3 : fieldT Try.prog 58 3 = some (3, 3) := by kernel_rfl
theorem ft74_1 : fieldT Try.prog 74 1 = some (3, 1) := by kernel_rfl
theorem ft74_2 : fieldT Try.prog 74 2 = some (3, 2) := by kernel_rfl
theorem in3 : (Try.prog.info? 3).map (fun i => (i.zero, i.size, i.bytes)) = some (some (.int .i64 0), 1, 8) := by kernel_rfl
theorem in51 : (Try.prog.info? 51).map (fun i => (i.zero, i.size, i.bytes)) = some (some (.agg #[(.int .i64 0), (.int .i64 0)]), 2, 16) := by kernel_rfl
theorem iz3 : (Try.prog.info? 3).map (fun i => (i.zero, i.size)) = some (some (.int .i64 0), 1) := by kernel_rfl
theorem iz51 : (Try.prog.info? 51).map (fun i => (i.zero, i.size)) = some (some (.agg #[(.int .i64 0), (.int .i64 0)]), 2) := by kernel_rfl
theorem pl51 : placesOf Try.prog 51 = some ((.agg #[(.int .i64 0), (.int .i64 0)]), fun i => ([(0, 1), (1, 1)] : List (Nat × Nat)).toArray[i]?) := by kernel_rfl
theorem sz33 : (Try.prog.info? 33).map (·.size) = some 1 := by kernel_rfl
theorem sz35 : (Try.prog.info? 35).map (·.size) = some 1 := by kernel_rfl
theorem sz37 : (Try.prog.info? 37).map (·.size) = some 10 := by kernel_rfl
theorem sz5 : (Try.prog.info? 5).map (·.size) = some 1 := by kernel_rfl
theorem sz51 : (Try.prog.info? 51).map (·.size) = some 2 := by kernel_rfl
theorem sz58 : (Try.prog.info? 58).map (·.size) = some 4 := by kernel_rfl
theorem sz74 : (Try.prog.info? 74).map (·.size) = some 3 := by kernel_rfl
theorem ut26 : Try.prog.underlying 26 = some (.slice 5) := by kernel_rfl
theorem ut3 : Try.prog.underlying 3 = some (.int .i64) := by kernel_rfl
theorem ut33 : Try.prog.underlying 33 = some (.slice 74) := by kernel_rfl
theorem ut35 : Try.prog.underlying 35 = some (.slice 58) := by kernel_rfl
theorem ut5 : Try.prog.underlying 5 = some (.int .u8) := by kernel_rfl
theorem ut69 : Try.prog.underlying 69 = some (.slice 51) := by kernel_rfl
theorem ze51 : (Try.prog.info? 51).bind (·.zero) = some (.agg #[(.int .i64 0), (.int .i64 0)]) := by kernel_rfl
theorem ze58 : (Try.prog.info? 58).bind (·.zero) = some (.agg #[(.int .i64 0), (.int .i64 0), (.int .i64 0), (.int .i64 0)]) := by kernel_rfl
end Go.Lo
