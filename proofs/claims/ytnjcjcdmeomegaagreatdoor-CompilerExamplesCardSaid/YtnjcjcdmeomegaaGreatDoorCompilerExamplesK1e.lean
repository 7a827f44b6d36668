/-
  The engine's runs of pure calls, computed by the kernel (level 1).
-/
import Derived.Test.YtnjcjcdmeomegaaGreatDoorCompilerExamplesT0
namespace Go.Proofs.YtnjcjcdmeomegaaGreatDoor.compilerExamples
theorem c53 : Eng.isV e53.2.2 (Eng.pureX (Eng.mxTab sp tab0) Tryz.prog pol 100000 e53.1 e53.2.1) = true := by kernel_rfl
theorem c14 : Eng.isV e14.2.2 (Eng.pureX (Eng.mxTab sp tab0) Tryz.prog pol 100000 e14.1 e14.2.1) = true := by kernel_rfl
theorem c28 : Eng.isV e28.2.2 (Eng.pureX (Eng.mxTab sp tab0) Tryz.prog pol 100000 e28.1 e28.2.1) = true := by kernel_rfl
theorem c2 : Eng.isV e2.2.2 (Eng.pureX (Eng.mxTab sp tab0) Tryz.prog pol 100000 e2.1 e2.2.1) = true := by kernel_rfl

end Go.Proofs.YtnjcjcdmeomegaaGreatDoor.compilerExamples
