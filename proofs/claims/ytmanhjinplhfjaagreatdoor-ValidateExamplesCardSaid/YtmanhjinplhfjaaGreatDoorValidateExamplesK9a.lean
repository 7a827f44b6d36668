/-
  The engine's runs of pure calls, computed by the kernel (level 9).
-/
import Derived.Test.YtmanhjinplhfjaaGreatDoorValidateExamplesT8
namespace Go.Proofs.YtmanhjinplhfjaaGreatDoor.validateExamples
theorem c191 : Eng.isV e191.2.2 (Eng.pureX (Eng.mxTab sp tab8) Tryz.prog pol 100000 e191.1 e191.2.1) = true := by kernel_rfl

end Go.Proofs.YtmanhjinplhfjaaGreatDoor.validateExamples
