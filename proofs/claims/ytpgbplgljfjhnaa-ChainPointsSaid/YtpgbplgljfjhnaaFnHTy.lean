/- What the types of this translation are: closed facts. -/
import Derived.Test.YtpgbplgljfjhnaaProg
import Derived.Test.YtpgbplgljfjhnaaLoX
import Derived.KernelRfl
namespace Go.Lo
open Go.Proofs
theorem ag2 : aggT Try.prog 2 = some false := by kernel_rfl
theorem ag40 : aggT Try.prog 40 = some true := by kernel_rfl
theorem bd28 : bodied Try.prog 28 = true := by kernel_rfl
theorem bd34 : bodied Try.prog 34 = true := by kernel_rfl
theorem bd35 : bodied Try.prog 35 = true := by kernel_rfl
theorem bd36 : bodied Try.prog 36 = true := by kernel_rfl
theorem bd37 : bodied Try.prog 37 = true := by kernel_rfl
theorem bd38 : bodied Try.prog 38 = true := by kernel_rfl
theorem bd42 : bodied Try.prog 42 = true := by kernel_rfl
theorem ft40_1 : fieldT Try.prog 40 1 = some (2, 1) := by kernel_rfl
theorem ft40_3 : fieldT Try.prog 40 3 = some (3, 3) := by kernel_rfl
theorem ft40_4 : fieldT Try.prog 40 4 = some (3, 4) := by kernel_rfl
theorem ft40_5 : fieldT Try.prog 40 5 = some (38, 5) := by kernel_rfl
theorem sz40 : (Try.prog.info? 40).map (·.size) = some 6 := by kernel_rfl
end Go.Lo
