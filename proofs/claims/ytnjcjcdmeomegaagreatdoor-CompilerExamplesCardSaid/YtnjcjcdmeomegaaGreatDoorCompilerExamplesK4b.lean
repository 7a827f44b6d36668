/-
  The engine's runs of pure calls, computed by the kernel (level 4).
-/
import Derived.Test.YtnjcjcdmeomegaaGreatDoorCompilerExamplesT3
namespace Go.Proofs.YtnjcjcdmeomegaaGreatDoor.compilerExamples
theorem c69 : Eng.isV e69.2.2 (Eng.pureX (Eng.mxTab sp tab3) Tryz.prog pol 100000 e69.1 e69.2.1) = true := by kernel_rfl
theorem c64 : Eng.isV e64.2.2 (Eng.pureX (Eng.mxTab sp tab3) Tryz.prog pol 100000 e64.1 e64.2.1) = true := by kernel_rfl

end Go.Proofs.YtnjcjcdmeomegaaGreatDoor.compilerExamples
