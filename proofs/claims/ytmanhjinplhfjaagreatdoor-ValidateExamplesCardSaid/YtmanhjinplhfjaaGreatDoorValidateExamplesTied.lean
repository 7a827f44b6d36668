/-
  The given tie's closed facts, one by one: the rows in the memory.
-/
import Derived.Test.YtmanhjinplhfjaaGreatDoorValidateExamplesTiec
namespace Go.Proofs.YtmanhjinplhfjaaGreatDoor.validateExamples
theorem y3 (os : Os) (tape) : laidRowsB Tryz.prog (varsWorld Tryz.prog 400 (varsId Tryz.prog) os tape).memory plL = true := by kernel_rfl
end Go.Proofs.YtmanhjinplhfjaaGreatDoor.validateExamples
