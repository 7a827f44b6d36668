/-
  The row's closed facts, the heavy ones in pieces.
-/
import Derived.Test.YtmanhjinplhfjaaGreatDoorProg
import Derived.JoinedOf
import Derived.KernelRfl
namespace Go.Proofs.YtmanhjinplhfjaaGreatDoor.validateExamples
theorem j1p0 : (List.range' 0 395).all (rowFine Tryz.prog) = true := by kernel_rfl
end Go.Proofs.YtmanhjinplhfjaaGreatDoor.validateExamples
