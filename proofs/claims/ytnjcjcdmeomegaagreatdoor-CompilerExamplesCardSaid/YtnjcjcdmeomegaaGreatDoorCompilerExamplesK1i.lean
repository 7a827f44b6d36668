/-
  The engine's runs of pure calls, computed by the kernel (level 1).
-/
import Derived.Test.YtnjcjcdmeomegaaGreatDoorCompilerExamplesT0
namespace Go.Proofs.YtnjcjcdmeomegaaGreatDoor.compilerExamples
theorem c36 : Eng.isV e36.2.2 (Eng.pureX (Eng.mxTab sp tab0) Tryz.prog pol 100000 e36.1 e36.2.1) = true := by kernel_rfl
theorem c38 : Eng.isV e38.2.2 (Eng.pureX (Eng.mxTab sp tab0) Tryz.prog pol 100000 e38.1 e38.2.1) = true := by kernel_rfl
theorem c18 : Eng.isV e18.2.2 (Eng.pureX (Eng.mxTab sp tab0) Tryz.prog pol 100000 e18.1 e18.2.1) = true := by kernel_rfl
theorem c16 : Eng.isV e16.2.2 (Eng.pureX (Eng.mxTab sp tab0) Tryz.prog pol 100000 e16.1 e16.2.1) = true := by kernel_rfl
theorem c60 : Eng.isV e60.2.2 (Eng.pureX (Eng.mxTab sp tab0) Tryz.prog pol 100000 e60.1 e60.2.1) = true := by kernel_rfl

end Go.Proofs.YtnjcjcdmeomegaaGreatDoor.compilerExamples
