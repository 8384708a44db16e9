/- What the types of this translation are: closed facts. -/
import Derived.Test.YtpgbplgljfjhnaaProg
import Derived.Test.YtpgbplgljfjhnaaLoX
import Derived.KernelRfl
namespace Go.Lo
open Go.Proofs
theorem ag29 : aggT Try.prog 29 = some true := by kernel_rfl
theorem bd10 : bodied Try.prog 10 = true := by kernel_rfl
theorem bd11 : bodied Try.prog 11 = true := by kernel_rfl
theorem bd19 : bodied Try.prog 19 = true := by kernel_rfl
theorem bd9 : bodied Try.prog 9 = true := by kernel_rfl
theorem in4 : (Try.prog.info? 4).map (fun i => (i.zero, i.size, i.bytes)) = some (some (.bool false), 1, 1) := by kernel_rfl
theorem sz29 : (Try.prog.info? 29).map (·.size) = some 8 := by kernel_rfl
end Go.Lo
