/- What the types of this translation are: closed facts. -/
import Derived.Test.YtgebbfapgncodaaProg
import Derived.Test.YtgebbfapgncodaaLoP
import Derived.KernelRfl
namespace Go.Lo
open Go.Proofs
theorem ag37 : aggT Try.prog 37 = some false := by kernel_rfl
theorem ag39 : aggT Try.prog 39 = some true := by kernel_rfl
theorem ag40 : aggT Try.prog 40 = some false := by kernel_rfl
theorem bd23 : bodied Try.prog 23 = true := by kernel_rfl
theorem bd24 : bodied Try.prog 24 = true := by kernel_rfl
theorem ft39_8 : fieldT Try.prog 39 8 = some (37, 8) := by kernel_rfl
theorem ft47_4 : fieldT Try.prog 47 4 = some (44, 4) := by kernel_rfl
theorem sz37 : (Try.prog.info? 37).map (·.size) = some 1 := by kernel_rfl
theorem sz39 : (Try.prog.info? 39).map (·.size) = some 9 := by kernel_rfl
theorem sz40 : (Try.prog.info? 40).map (·.size) = some 1 := by kernel_rfl
theorem ut37 : Try.prog.underlying 37 = some (.slice 40) := by kernel_rfl
end Go.Lo
