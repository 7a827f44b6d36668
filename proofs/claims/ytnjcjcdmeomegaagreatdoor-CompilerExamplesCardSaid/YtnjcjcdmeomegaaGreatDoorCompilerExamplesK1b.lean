/-
  The engine's runs of pure calls, computed by the kernel (level 1).
-/
import Derived.Test.YtnjcjcdmeomegaaGreatDoorCompilerExamplesT0
namespace Go.Proofs.YtnjcjcdmeomegaaGreatDoor.compilerExamples
theorem c66 : Eng.isV e66.2.2 (Eng.pureX (Eng.mxTab sp tab0) Tryz.prog pol 100000 e66.1 e66.2.1) = true := by kernel_rfl
theorem c68 : Eng.isV e68.2.2 (Eng.pureX (Eng.mxTab sp tab0) Tryz.prog pol 100000 e68.1 e68.2.1) = true := by kernel_rfl
theorem c12 : Eng.isV e12.2.2 (Eng.pureX (Eng.mxTab sp tab0) Tryz.prog pol 100000 e12.1 e12.2.1) = true := by kernel_rfl
theorem c47 : Eng.isV e47.2.2 (Eng.pureX (Eng.mxTab sp tab0) Tryz.prog pol 100000 e47.1 e47.2.1) = true := by kernel_rfl

end Go.Proofs.YtnjcjcdmeomegaaGreatDoor.compilerExamples
