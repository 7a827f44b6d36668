/-
  The given tie's closed facts, one by one: what the variables hold.
-/
import Derived.Test.YtmanhjinplhfjaaGreatDoorValidateExamplesTiea
namespace Go.Proofs.YtmanhjinplhfjaaGreatDoor.validateExamples
theorem t8 (os : Os) (tape) : (DataW.laidRun Tryz.prog (varsWorld Tryz.prog 400 (varsId Tryz.prog) os tape).memory 8 (lst.map (·.1))).map (·.1) = some lst := by kernel_rfl
end Go.Proofs.YtmanhjinplhfjaaGreatDoor.validateExamples
