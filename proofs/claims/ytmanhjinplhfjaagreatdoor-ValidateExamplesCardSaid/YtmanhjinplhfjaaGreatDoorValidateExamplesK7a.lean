/-
  The engine's runs of pure calls, computed by the kernel (level 7).
-/
import Derived.Test.YtmanhjinplhfjaaGreatDoorValidateExamplesT6
namespace Go.Proofs.YtmanhjinplhfjaaGreatDoor.validateExamples
theorem c180 : Eng.isV e180.2.2 (Eng.pureX (Eng.mxTab sp tab6) Tryz.prog pol 100000 e180.1 e180.2.1) = true := by kernel_rfl
theorem c181 : Eng.isV e181.2.2 (Eng.pureX (Eng.mxTab sp tab6) Tryz.prog pol 100000 e181.1 e181.2.1) = true := by kernel_rfl

end Go.Proofs.YtmanhjinplhfjaaGreatDoor.validateExamples
