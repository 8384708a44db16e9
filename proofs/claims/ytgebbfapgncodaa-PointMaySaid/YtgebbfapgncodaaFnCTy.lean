/- What the types of this translation are: closed facts. -/
import Derived.Test.YtgebbfapgncodaaProg
import Derived.Test.YtgebbfapgncodaaLoP
import Derived.KernelRfl
namespace Go.Lo
open Go.Proofs
theorem ag43 : aggT Try.prog 43 = some false := by kernel_rfl
theorem ag45 : aggT Try.prog 45 = some false := by kernel_rfl
theorem ag47 : aggT Try.prog 47 = some true := by kernel_rfl
theorem ag5 : aggT Try.prog 5 = some false := by kernel_rfl
theorem ag60 : aggT Try.prog 60 = some true := by kernel_rfl
theorem ag86 : aggT Try.prog 86 = some true := by kernel_rfl
theorem bd29 : bodied Try.prog 29 = true := by kernel_rfl
theorem bd36 : bodied Try.prog 36 = true := by kernel_rfl
theorem bd40 : bodied Try.prog 40 = true := by kernel_rfl
theorem bd41 : bodied Try.prog 41 = true := by kernel_rfl
theorem bd42 : bodied Try.prog 42 = true := by kernel_rfl
theorem bd43 : bodied Try.prog 43 = true := by kernel_rfl
theorem es86 : eqT2 Try.prog 86 = some (3, 3) := by kernel_rfl
theorem ft47_1 : fieldT Try.prog 47 1 = some (43, 1) := by kernel_rfl
theorem ft47_3 : fieldT Try.prog 47 3 = some (45, 3) := by kernel_rfl
theorem ft60_0 : fieldT Try.prog 60 0 = some (3, 0) := by kernel_rfl
theorem ft60_1 : fieldT Try.prog 60 1 = some (3, 1) := by kernel_rfl
theorem ft60_2 : fieldT Try.prog 60 2 = some (3, 2) := by kernel_rfl
theorem ft60_3 : fieldT Try.prog 60 3 = some (3, 3) := by kernel_rfl
theorem ft84_1 : fieldT Try.prog 84 1 = some (3, 1) := by kernel_rfl
theorem ft84_2 : fieldT Try.prog 84 2 = some (3, 2) := by kernel_rfl
theorem ft86_0 : fieldT Try.prog 86 0 = some (3, 0) := by kernel_rfl
theorem ft86_1 : fieldT Try.prog 86 1 = some (3, 1) := by kernel_rfl
theorem in3 : (Try.prog.info? 3).map (fun i => (i.zero, i.size, i.bytes)) = some (some (.int .i64 0), 1, 8) := by kernel_rfl
theorem in86 : (Try.prog.info? 86).map (fun i => (i.zero, i.size, i.bytes)) = some (some (.agg #[(.int .i64 0), (.int .i64 0)]), 2, 16) := by kernel_rfl
theorem iz3 : (Try.prog.info? 3).map (fun i => (i.zero, i.size)) = some (some (.int .i64 0), 1) := by kernel_rfl
theorem iz86 : (Try.prog.info? 86).map (fun i => (i.zero, i.size)) = some (some (.agg #[(.int .i64 0), (.int .i64 0)]), 2) := by kernel_rfl
theorem pl86 : placesOf Try.prog 86 = some ((.agg #[(.int .i64 0), (.int .i64 0)]), fun i => ([(0, 1), (1, 1)] : List (Nat × Nat)).toArray[i]?) := by kernel_rfl
theorem sz43 : (Try.prog.info? 43).map (·.size) = some 1 := by kernel_rfl
theorem sz45 : (Try.prog.info? 45).map (·.size) = some 1 := by kernel_rfl
theorem sz47 : (Try.prog.info? 47).map (·.size) = some 10 := by kernel_rfl
theorem sz5 : (Try.prog.info? 5).map (·.size) = some 1 := by kernel_rfl
theorem sz60 : (Try.prog.info? 60).map (·.size) = some 4 := by kernel_rfl
theorem sz84 : (Try.prog.info? 84).map (·.size) = some 3 := by kernel_rfl
theorem sz86 : (Try.prog.info? 86).map (·.size) = some 2 := by kernel_rfl
theorem ut40 : Try.prog.underlying 40 = some (.slice 5) := by kernel_rfl
theorem ut43 : Try.prog.underlying 43 = some (.slice 84) := by kernel_rfl
theorem ut45 : Try.prog.underlying 45 = some (.slice 60) := by kernel_rfl
theorem ut87 : Try.prog.underlying 87 = some (.slice 86) := by kernel_rfl
theorem ze60 : (Try.prog.info? 60).bind (·.zero) = some (.agg #[(.int .i64 0), (.int .i64 0), (.int .i64 0), (.int .i64 0)]) := by kernel_rfl
theorem ze86 : (Try.prog.info? 86).bind (·.zero) = some (.agg #[(.int .i64 0), (.int .i64 0)]) := by kernel_rfl
end Go.Lo
