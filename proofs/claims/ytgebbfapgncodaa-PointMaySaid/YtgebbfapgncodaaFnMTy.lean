/- What the types of this translation are: closed facts. -/
import Derived.Test.YtgebbfapgncodaaProg
import Derived.Test.YtgebbfapgncodaaLoP
import Derived.KernelRfl
namespace Go.Lo
open Go.Proofs
theorem ag36 : aggT Try.prog 36 = some false := by kernel_rfl
theorem ag42 : aggT Try.prog 42 = some false := by kernel_rfl
theorem ag44 : aggT Try.prog 44 = some false := by kernel_rfl
theorem ag49 : aggT Try.prog 49 = some false := by kernel_rfl
theorem ft39_0 : fieldT Try.prog 39 0 = some (5, 0) := by kernel_rfl
theorem ft39_1 : fieldT Try.prog 39 1 = some (5, 1) := by kernel_rfl
theorem ft39_2 : fieldT Try.prog 39 2 = some (5, 2) := by kernel_rfl
theorem ft39_3 : fieldT Try.prog 39 3 = some (36, 3) := by kernel_rfl
theorem ft39_4 : fieldT Try.prog 39 4 = some (36, 4) := by kernel_rfl
theorem ft39_5 : fieldT Try.prog 39 5 = some (5, 5) := by kernel_rfl
theorem ft39_6 : fieldT Try.prog 39 6 = some (5, 6) := by kernel_rfl
theorem ft39_7 : fieldT Try.prog 39 7 = some (5, 7) := by kernel_rfl
theorem ft47_0 : fieldT Try.prog 47 0 = some (42, 0) := by kernel_rfl
theorem ft47_2 : fieldT Try.prog 47 2 = some (44, 2) := by kernel_rfl
theorem ft47_5 : fieldT Try.prog 47 5 = some (3, 5) := by kernel_rfl
theorem ft47_6 : fieldT Try.prog 47 6 = some (2, 6) := by kernel_rfl
theorem ft47_7 : fieldT Try.prog 47 7 = some (2, 7) := by kernel_rfl
theorem ft47_8 : fieldT Try.prog 47 8 = some (2, 8) := by kernel_rfl
theorem ft47_9 : fieldT Try.prog 47 9 = some (2, 9) := by kernel_rfl
theorem in49 : (Try.prog.info? 49).map (fun i => (i.zero, i.size, i.bytes)) = some (some (.slice none 0 0), 1, 24) := by kernel_rfl
theorem in79 : (Try.prog.info? 79).map (fun i => (i.zero, i.size, i.bytes)) = some (some (.complex .f64 0 0), 1, 16) := by kernel_rfl
theorem in82 : (Try.prog.info? 82).map (fun i => (i.zero, i.size, i.bytes)) = some (some (.agg #[(.int .i64 0), (.int .i64 0)]), 2, 16) := by kernel_rfl
theorem in84 : (Try.prog.info? 84).map (fun i => (i.zero, i.size, i.bytes)) = some (some (.agg #[(.int .i64 0), (.int .i64 0), (.int .i64 0)]), 3, 24) := by kernel_rfl
theorem iz49 : (Try.prog.info? 49).map (fun i => (i.zero, i.size)) = some (some (.slice none 0 0), 1) := by kernel_rfl
theorem iz60 : (Try.prog.info? 60).map (fun i => (i.zero, i.size)) = some (some (.agg #[(.int .i64 0), (.int .i64 0), (.int .i64 0), (.int .i64 0)]), 4) := by kernel_rfl
theorem iz79 : (Try.prog.info? 79).map (fun i => (i.zero, i.size)) = some (some (.complex .f64 0 0), 1) := by kernel_rfl
theorem iz82 : (Try.prog.info? 82).map (fun i => (i.zero, i.size)) = some (some (.agg #[(.int .i64 0), (.int .i64 0)]), 2) := by kernel_rfl
theorem iz84 : (Try.prog.info? 84).map (fun i => (i.zero, i.size)) = some (some (.agg #[(.int .i64 0), (.int .i64 0), (.int .i64 0)]), 3) := by kernel_rfl
theorem pl60 : placesOf Try.prog 60 = some ((.agg #[(.int .i64 0), (.int .i64 0), (.int .i64 0), (.int .i64 0)]), fun i => ([(0, 1), (1, 1), (2, 1), (3, 1)] : List (Nat × Nat)).toArray[i]?) := by kernel_rfl
theorem pl82 : placesOf Try.prog 82 = some ((.agg #[(.int .i64 0), (.int .i64 0)]), fun i => some (i * 1, 1)) := by kernel_rfl
theorem pl84 : placesOf Try.prog 84 = some ((.agg #[(.int .i64 0), (.int .i64 0), (.int .i64 0)]), fun i => ([(0, 1), (1, 1), (2, 1)] : List (Nat × Nat)).toArray[i]?) := by kernel_rfl
theorem sz2 : (Try.prog.info? 2).map (·.size) = some 1 := by kernel_rfl
theorem sz36 : (Try.prog.info? 36).map (·.size) = some 1 := by kernel_rfl
theorem sz42 : (Try.prog.info? 42).map (·.size) = some 1 := by kernel_rfl
theorem sz44 : (Try.prog.info? 44).map (·.size) = some 1 := by kernel_rfl
theorem sz49 : (Try.prog.info? 49).map (·.size) = some 1 := by kernel_rfl
theorem sz82 : (Try.prog.info? 82).map (·.size) = some 2 := by kernel_rfl
theorem ut2 : Try.prog.underlying 2 = some (.int .i64) := by kernel_rfl
theorem ut36 : Try.prog.underlying 36 = some (.int .u16) := by kernel_rfl
theorem ut42 : Try.prog.underlying 42 = some (.slice 79) := by kernel_rfl
theorem ut44 : Try.prog.underlying 44 = some (.slice 49) := by kernel_rfl
theorem ut80 : Try.prog.underlying 80 = some (.float .f64) := by kernel_rfl
theorem ut81 : Try.prog.underlying 81 = some (.slice 82) := by kernel_rfl
theorem ut82 : Try.prog.underlying 82 = some (.array 2 3) := by kernel_rfl
theorem ze47 : (Try.prog.info? 47).bind (·.zero) = some (.agg #[(.slice none 0 0), (.slice none 0 0), (.slice none 0 0), (.slice none 0 0), (.slice none 0 0), (.int .i64 0), (.int .i64 0), (.int .i64 0), (.int .i64 0), (.int .i64 0)]) := by kernel_rfl
end Go.Lo
