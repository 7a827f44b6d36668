/-
  The engine's runs of pure calls, computed by the kernel (level 1).
-/
import Derived.Test.YtnjcjcdmeomegaaGreatDoorCompilerExamplesT0
namespace Go.Proofs.YtnjcjcdmeomegaaGreatDoor.compilerExamples
theorem c55 : Eng.isV e55.2.2 (Eng.pureX (Eng.mxTab sp tab0) Tryz.prog pol 100000 e55.1 e55.2.1) = true := by kernel_rfl
theorem c22 : Eng.isV e22.2.2 (Eng.pureX (Eng.mxTab sp tab0) Tryz.prog pol 100000 e22.1 e22.2.1) = true := by kernel_rfl
theorem c20 : Eng.isV e20.2.2 (Eng.pureX (Eng.mxTab sp tab0) Tryz.prog pol 100000 e20.1 e20.2.1) = true := by kernel_rfl
theorem c42 : Eng.isV e42.2.2 (Eng.pureX (Eng.mxTab sp tab0) Tryz.prog pol 100000 e42.1 e42.2.1) = true := by kernel_rfl
theorem c61 : Eng.isV e61.2.2 (Eng.pureX (Eng.mxTab sp tab0) Tryz.prog pol 100000 e61.1 e61.2.1) = true := by kernel_rfl
theorem c49 : Eng.isV e49.2.2 (Eng.pureX (Eng.mxTab sp tab0) Tryz.prog pol 100000 e49.1 e49.2.1) = true := by kernel_rfl

end Go.Proofs.YtnjcjcdmeomegaaGreatDoor.compilerExamples
