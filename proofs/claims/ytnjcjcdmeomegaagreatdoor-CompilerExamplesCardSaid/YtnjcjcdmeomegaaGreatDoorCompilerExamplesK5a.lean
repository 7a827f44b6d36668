/-
  The engine's runs of pure calls, computed by the kernel (level 5).
-/
import Derived.Test.YtnjcjcdmeomegaaGreatDoorCompilerExamplesT4
namespace Go.Proofs.YtnjcjcdmeomegaaGreatDoor.compilerExamples
theorem c58 : Eng.isV e58.2.2 (Eng.pureX (Eng.mxTab sp tab4) Tryz.prog pol 100000 e58.1 e58.2.1) = true := by kernel_rfl
theorem c65 : Eng.isV e65.2.2 (Eng.pureX (Eng.mxTab sp tab4) Tryz.prog pol 100000 e65.1 e65.2.1) = true := by kernel_rfl

end Go.Proofs.YtnjcjcdmeomegaaGreatDoor.compilerExamples
