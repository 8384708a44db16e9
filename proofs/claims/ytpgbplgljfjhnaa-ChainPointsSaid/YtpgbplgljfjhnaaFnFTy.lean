/- What the types of this translation are: closed facts. -/
import Derived.Test.YtpgbplgljfjhnaaProg
import Derived.Test.YtpgbplgljfjhnaaLoX
import Derived.KernelRfl
namespace Go.Lo
open Go.Proofs
theorem ag23 : aggT Try.prog 23 = some false := by kernel_rfl
theorem ag25 : aggT Try.prog 25 = some true := by kernel_rfl
theorem ag26 : aggT Try.prog 26 = some false := by kernel_rfl
theorem bd24 : bodied Try.prog 24 = true := by kernel_rfl
theorem bd27 : bodied Try.prog 27 = true := by kernel_rfl
theorem ft25_8 : fieldT Try.prog 25 8 = some (23, 8) := by kernel_rfl
theorem ft37_4 : fieldT Try.prog 37 4 = some (34, 4) := by kernel_rfl
theorem sz23 : (Try.prog.info? 23).map (·.size) = some 1 := by kernel_rfl
theorem sz25 : (Try.prog.info? 25).map (·.size) = some 9 := by kernel_rfl
theorem sz26 : (Try.prog.info? 26).map (·.size) = some 1 := by kernel_rfl
theorem ut23 : Try.prog.underlying 23 = some (.slice 26) := by kernel_rfl
end Go.Lo
