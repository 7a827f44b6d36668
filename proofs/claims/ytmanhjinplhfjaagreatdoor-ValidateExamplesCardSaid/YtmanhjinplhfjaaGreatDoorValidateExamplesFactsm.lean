/-
  The row's closed facts, the heavy ones in pieces.
-/
import Derived.Test.YtmanhjinplhfjaaGreatDoorProg
import Derived.JoinedOf
import Derived.KernelRfl
namespace Go.Proofs.YtmanhjinplhfjaaGreatDoor.validateExamples
theorem j2 : mapsRowed Tryz.prog = true := by kernel_rfl
end Go.Proofs.YtmanhjinplhfjaaGreatDoor.validateExamples
