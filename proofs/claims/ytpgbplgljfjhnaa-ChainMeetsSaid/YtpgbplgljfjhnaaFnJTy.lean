/- What the types of this translation are: closed facts. -/
import Derived.Test.YtpgbplgljfjhnaaProg
import Derived.Test.YtpgbplgljfjhnaaLoP
import Derived.KernelRfl
namespace Go.Lo
open Go.Proofs
theorem bd22 : bodied Try.prog 22 = true := by kernel_rfl
theorem bd23 : bodied Try.prog 23 = true := by kernel_rfl
theorem bd9 : bodied Try.prog 9 = true := by kernel_rfl
theorem ut4 : Try.prog.underlying 4 = some (.bool) := by kernel_rfl
end Go.Lo
