/-
  The engine's runs of pure calls, computed by the kernel (level 10).
-/
import Derived.Test.YtmanhjinplhfjaaGreatDoorValidateExamplesT9
namespace Go.Proofs.YtmanhjinplhfjaaGreatDoor.validateExamples
theorem c192 : Eng.isV e192.2.2 (Eng.pureX (Eng.mxTab sp tab9) Tryz.prog pol 100000 e192.1 e192.2.1) = true := by kernel_rfl

end Go.Proofs.YtmanhjinplhfjaaGreatDoor.validateExamples
