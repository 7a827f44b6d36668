/-
  The engine's runs of pure calls, computed by the kernel (level 1).
-/
import Derived.Test.YtnjcjcdmeomegaaGreatDoorCompilerExamplesT0
namespace Go.Proofs.YtnjcjcdmeomegaaGreatDoor.compilerExamples
theorem c67 : Eng.isV e67.2.2 (Eng.pureX (Eng.mxTab sp tab0) Tryz.prog pol 100000 e67.1 e67.2.1) = true := by kernel_rfl
theorem c34 : Eng.isV e34.2.2 (Eng.pureX (Eng.mxTab sp tab0) Tryz.prog pol 100000 e34.1 e34.2.1) = true := by kernel_rfl
theorem c8 : Eng.isV e8.2.2 (Eng.pureX (Eng.mxTab sp tab0) Tryz.prog pol 100000 e8.1 e8.2.1) = true := by kernel_rfl

end Go.Proofs.YtnjcjcdmeomegaaGreatDoor.compilerExamples
