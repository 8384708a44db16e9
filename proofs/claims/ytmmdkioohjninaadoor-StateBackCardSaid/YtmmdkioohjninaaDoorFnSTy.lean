/- What the types of this translation are: closed facts. -/
import Derived.Test.YtmmdkioohjninaaDoorProg
import Derived.Test.YtmmdkioohjninaaDoorLoP
import Derived.KernelRfl
namespace Go.Lo
open Go.Proofs
theorem ag53 : aggT Tryd.prog 53 = some true := by kernel_rfl
theorem ag68 : aggT Tryd.prog 68 = some true := by kernel_rfl
theorem ag73 : aggT Tryd.prog 73 = some true := by kernel_rfl
theorem bd15 : bodied Tryd.prog 15 = true := by kernel_rfl
theorem bd16 : bodied Tryd.prog 16 = true := by kernel_rfl
theorem bd22 : bodied Tryd.prog 22 = true := by kernel_rfl
theorem bd23 : bodied Tryd.prog 23 = true := by kernel_rfl
theorem bd24 : bodied Tryd.prog 24 = true := by kernel_rfl
theorem bd31 : bodied Tryd.prog 31 = true := by kernel_rfl
theorem bd32 : bodied Tryd.prog 32 = true := by kernel_rfl
theorem bd33 : bodied Tryd.prog 33 = true := by kernel_rfl
theorem bd34 : bodied Tryd.prog 34 = true := by kernel_rfl
theorem bd36 : bodied Tryd.prog 36 = true := by kernel_rfl
theorem bd37 : bodied Tryd.prog 37 = true := by kernel_rfl
theorem bd38 : bodied Tryd.prog 38 = true := by kernel_rfl
theorem bd39 : bodied Tryd.prog 39 = true := by kernel_rfl
theorem bd40 : bodied Tryd.prog 40 = true := by kernel_rfl
theorem bd41 : bodied Tryd.prog 41 = true := by kernel_rfl
theorem bd42 : bodied Tryd.prog 42 = true := by kernel_rfl
theorem bd47 : bodied Tryd.prog 47 = true := by kernel_rfl
theorem bd48 : bodied Tryd.prog 48 = true := by kernel_rfl
theorem bd49 : bodied Tryd.prog 49 = true := by kernel_rfl
theorem bd51 : bodied Tryd.prog 51 = true := by kernel_rfl
theorem es68 : eqT2 Tryd.prog 68 = some (3, 5) := by kernel_rfl
theorem ft53_0 : fieldT Tryd.prog 53 0 = some (3, 0) := by kernel_rfl
theorem ft73_0 : fieldT Tryd.prog 73 0 = some (3, 0) := by kernel_rfl
theorem ft73_2 : fieldT Tryd.prog 73 2 = some (47, 2) := by kernel_rfl
theorem ft94_0 : fieldT Tryd.prog 94 0 = some (39, 0) := by kernel_rfl
theorem in5 : (Tryd.prog.info? 5).map (fun i => (i.zero, i.size, i.bytes)) = some (some (.int .u8 0), 1, 1) := by kernel_rfl
theorem in68 : (Tryd.prog.info? 68).map (fun i => (i.zero, i.size, i.bytes)) = some (some (.agg #[(.int .i64 0), (.int .u8 0)]), 2, 16) := by kernel_rfl
theorem iz5 : (Tryd.prog.info? 5).map (fun i => (i.zero, i.size)) = some (some (.int .u8 0), 1) := by kernel_rfl
theorem iz68 : (Tryd.prog.info? 68).map (fun i => (i.zero, i.size)) = some (some (.agg #[(.int .i64 0), (.int .u8 0)]), 2) := by kernel_rfl
theorem pl25 : placesOf Tryd.prog 25 = some ((.agg #[(.int .u8 0), (.int .u8 0), (.int .u8 0), (.int .u16 0), (.int .u16 0), (.int .u8 0), (.int .u8 0), (.int .u8 0), (.slice none 0 0)]), fun i => ([(0, 1), (1, 1), (2, 1), (3, 1), (4, 1), (5, 1), (6, 1), (7, 1), (8, 1)] : List (Nat × Nat)).toArray[i]?) := by kernel_rfl
theorem pl53 : placesOf Tryd.prog 53 = some ((.agg #[(.int .i64 0), (.bool false), (.slice none 0 0)]), fun i => ([(0, 1), (1, 1), (2, 1)] : List (Nat × Nat)).toArray[i]?) := by kernel_rfl
theorem pl68 : placesOf Tryd.prog 68 = some ((.agg #[(.int .i64 0), (.int .u8 0)]), fun i => ([(0, 1), (1, 1)] : List (Nat × Nat)).toArray[i]?) := by kernel_rfl
theorem pl73 : placesOf Tryd.prog 73 = some ((.agg #[(.int .i64 0), (.bool false), (.slice none 0 0)]), fun i => ([(0, 1), (1, 1), (2, 1)] : List (Nat × Nat)).toArray[i]?) := by kernel_rfl
theorem pl94 : placesOf Tryd.prog 94 = some ((.agg #[(.slice none 0 0), (.slice none 0 0), (.slice none 0 0), (.slice none 0 0), (.slice none 0 0), (.int .i64 0), (.int .i64 0), (.int .i64 0), (.int .i64 0), (.int .i64 0)]), fun i => ([(0, 10)] : List (Nat × Nat)).toArray[i]?) := by kernel_rfl
theorem sz53 : (Tryd.prog.info? 53).map (·.size) = some 3 := by kernel_rfl
theorem sz68 : (Tryd.prog.info? 68).map (·.size) = some 2 := by kernel_rfl
theorem sz73 : (Tryd.prog.info? 73).map (·.size) = some 3 := by kernel_rfl
theorem sz78 : (Tryd.prog.info? 78).map (·.size) = some 4 := by kernel_rfl
theorem ut101 : Tryd.prog.underlying 101 = some (.int .u64) := by kernel_rfl
theorem ut41 : Tryd.prog.underlying 41 = some (.slice 73) := by kernel_rfl
theorem ut42 : Tryd.prog.underlying 42 = some (.slice 53) := by kernel_rfl
theorem ut64 : Tryd.prog.underlying 64 = some (.slice 68) := by kernel_rfl
theorem ut74 : Tryd.prog.underlying 74 = some (.pointer 94) := by kernel_rfl
theorem ut78 : Tryd.prog.underlying 78 = some (.array 4 5) := by kernel_rfl
theorem ut79 : Tryd.prog.underlying 79 = some (.array 4 78) := by kernel_rfl
theorem ze53 : (Tryd.prog.info? 53).bind (·.zero) = some (.agg #[(.int .i64 0), (.bool false), (.slice none 0 0)]) := by kernel_rfl
theorem ze73 : (Tryd.prog.info? 73).bind (·.zero) = some (.agg #[(.int .i64 0), (.bool false), (.slice none 0 0)]) := by kernel_rfl
end Go.Lo
