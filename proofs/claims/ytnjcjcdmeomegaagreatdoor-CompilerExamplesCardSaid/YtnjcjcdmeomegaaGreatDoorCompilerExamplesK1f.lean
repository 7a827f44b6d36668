/-
  The engine's runs of pure calls, computed by the kernel (level 1).
-/
import Derived.Test.YtnjcjcdmeomegaaGreatDoorCompilerExamplesT0
namespace Go.Proofs.YtnjcjcdmeomegaaGreatDoor.compilerExamples
theorem c32 : Eng.isV e32.2.2 (Eng.pureX (Eng.mxTab sp tab0) Tryz.prog pol 100000 e32.1 e32.2.1) = true := by kernel_rfl
theorem c30 : Eng.isV e30.2.2 (Eng.pureX (Eng.mxTab sp tab0) Tryz.prog pol 100000 e30.1 e30.2.1) = true := by kernel_rfl
theorem c26 : Eng.isV e26.2.2 (Eng.pureX (Eng.mxTab sp tab0) Tryz.prog pol 100000 e26.1 e26.2.1) = true := by kernel_rfl
theorem c4 : Eng.isV e4.2.2 (Eng.pureX (Eng.mxTab sp tab0) Tryz.prog pol 100000 e4.1 e4.2.1) = true := by kernel_rfl
theorem c46 : Eng.isV e46.2.2 (Eng.pureX (Eng.mxTab sp tab0) Tryz.prog pol 100000 e46.1 e46.2.1) = true := by kernel_rfl

end Go.Proofs.YtnjcjcdmeomegaaGreatDoor.compilerExamples
