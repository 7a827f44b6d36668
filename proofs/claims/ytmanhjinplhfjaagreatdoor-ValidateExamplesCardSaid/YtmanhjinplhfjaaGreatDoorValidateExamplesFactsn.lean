/-
  The row's closed facts, the heavy ones in pieces.
-/
import Derived.Test.YtmanhjinplhfjaaGreatDoorProg
import Derived.JoinedOf
import Derived.KernelRfl
namespace Go.Proofs.YtmanhjinplhfjaaGreatDoor.validateExamples
theorem j24 : Tryz.prog.stopsHeard = true := by kernel_rfl
theorem j25 : Tryz.prog.mayEnter = true := by kernel_rfl
end Go.Proofs.YtmanhjinplhfjaaGreatDoor.validateExamples
