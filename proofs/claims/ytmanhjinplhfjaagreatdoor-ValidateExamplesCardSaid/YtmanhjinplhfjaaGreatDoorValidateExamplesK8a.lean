/-
  The engine's runs of pure calls, computed by the kernel (level 8).
-/
import Derived.Test.YtmanhjinplhfjaaGreatDoorValidateExamplesT7
namespace Go.Proofs.YtmanhjinplhfjaaGreatDoor.validateExamples
theorem c190 : Eng.isV e190.2.2 (Eng.pureX (Eng.mxTab sp tab7) Tryz.prog pol 100000 e190.1 e190.2.1) = true := by kernel_rfl

end Go.Proofs.YtmanhjinplhfjaaGreatDoor.validateExamples
