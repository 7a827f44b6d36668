/-
  The engine's runs of pure calls, computed by the kernel (level 6).
-/
import Derived.Test.YtmanhjinplhfjaaGreatDoorValidateExamplesT5
namespace Go.Proofs.YtmanhjinplhfjaaGreatDoor.validateExamples
theorem c179 : Eng.isV e179.2.2 (Eng.pureX (Eng.mxTab sp tab5) Tryz.prog pol 100000 e179.1 e179.2.1) = true := by kernel_rfl
theorem c178 : Eng.isV e178.2.2 (Eng.pureX (Eng.mxTab sp tab5) Tryz.prog pol 100000 e178.1 e178.2.1) = true := by kernel_rfl
theorem c322 : Eng.isV e322.2.2 (Eng.pureX (Eng.mxTab sp tab5) Tryz.prog pol 100000 e322.1 e322.2.1) = true := by kernel_rfl

end Go.Proofs.YtmanhjinplhfjaaGreatDoor.validateExamples
