/-
  The program's own looks are off.
-/
import Derived.Test.YtmanhjinplhfjaaGreatDoorRows
import Derived.KernelRfl
import GoSem.ClaimSeven
import Derived.ProofKit
import Derived.OpenShut
import Derived.Deep.DeepWitnessRowRef
namespace Go.Proofs.YtmanhjinplhfjaaGreatDoor.validateExamples
open Go.ChangeShapes Go.WideShapes Go.ChangeAt Go.RowKit

theorem looksOff : false = Tryz.pinned.checked.prog.looks [] := by kernel_rfl
end Go.Proofs.YtmanhjinplhfjaaGreatDoor.validateExamples
