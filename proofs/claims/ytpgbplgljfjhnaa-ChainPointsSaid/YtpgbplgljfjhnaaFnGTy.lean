/- What the types of this translation are: closed facts. -/
import Derived.Test.YtpgbplgljfjhnaaProg
import Derived.Test.YtpgbplgljfjhnaaLoX
import Derived.KernelRfl
namespace Go.Lo
open Go.Proofs
theorem ag4 : aggT Try.prog 4 = some false := by kernel_rfl
theorem ag69 : aggT Try.prog 69 = some false := by kernel_rfl
theorem ag74 : aggT Try.prog 74 = some true := by kernel_rfl
theorem bd43 : bodied Try.prog 43 = true := by kernel_rfl
theorem bd44 : bodied Try.prog 44 = true := by kernel_rfl
theorem bd45 : bodied Try.prog 45 = true := by kernel_rfl
theorem bd46 : bodied Try.prog 46 = true := by kernel_rfl
theorem bd47 : bodied Try.prog 47 = true := by kernel_rfl
theorem bd48 : bodied Try.prog 48 = true := by kernel_rfl
theorem bd51 : bodied Try.prog 51 = true := by kernel_rfl
theorem bd52 : bodied Try.prog 52 = true := by kernel_rfl
theorem bd53 : bodied Try.prog 53 = true := by kernel_rfl
theorem bd54 : bodied Try.prog 54 = true := by kernel_rfl
theorem bd55 : bodied Try.prog 55 = true := by kernel_rfl
theorem bd56 : bodied Try.prog 56 = true := by kernel_rfl
theorem bd57 : bodied Try.prog 57 = true := by kernel_rfl
theorem bd58 : bodied Try.prog 58 = true := by kernel_rfl
theorem bd60 : bodied Try.prog 60 = true := by kernel_rfl
theorem ft67_0 : fieldT Try.prog 67 0 = some (37, 0) := by kernel_rfl
theorem ft74_0 : fieldT Try.prog 74 0 = some (3, 0) := by kernel_rfl
theorem iz69 : (Try.prog.info? 69).map (fun i => (i.zero, i.size)) = some (some (.slice none 0 0), 1) := by kernel_rfl
theorem sz4 : (Try.prog.info? 4).map (·.size) = some 1 := by kernel_rfl
theorem sz69 : (Try.prog.info? 69).map (·.size) = some 1 := by kernel_rfl
theorem ut102 : Try.prog.underlying 102 = some (.slice 69) := by kernel_rfl
theorem ut27 : Try.prog.underlying 27 = some (.slice 4) := by kernel_rfl
theorem ut44 : Try.prog.underlying 44 = some (.pointer 67) := by kernel_rfl
theorem ze3 : (Try.prog.info? 3).bind (·.zero) = some (.int .i64 0) := by kernel_rfl
theorem ze74 : (Try.prog.info? 74).bind (·.zero) = some (.agg #[(.int .i64 0), (.int .i64 0), (.int .i64 0)]) := by kernel_rfl
end Go.Lo
