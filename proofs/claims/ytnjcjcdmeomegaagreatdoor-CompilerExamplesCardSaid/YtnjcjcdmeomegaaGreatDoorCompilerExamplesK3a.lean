/-
  The engine's runs of pure calls, computed by the kernel (level 3).
-/
import Derived.Test.YtnjcjcdmeomegaaGreatDoorCompilerExamplesT2
namespace Go.Proofs.YtnjcjcdmeomegaaGreatDoor.compilerExamples
theorem c51 : Eng.isV e51.2.2 (Eng.pureX (Eng.mxTab sp tab2) Tryz.prog pol 100000 e51.1 e51.2.1) = true := by kernel_rfl
theorem c48 : Eng.isV e48.2.2 (Eng.pureX (Eng.mxTab sp tab2) Tryz.prog pol 100000 e48.1 e48.2.1) = true := by kernel_rfl
theorem c63 : Eng.isV e63.2.2 (Eng.pureX (Eng.mxTab sp tab2) Tryz.prog pol 100000 e63.1 e63.2.1) = true := by kernel_rfl

end Go.Proofs.YtnjcjcdmeomegaaGreatDoor.compilerExamples
