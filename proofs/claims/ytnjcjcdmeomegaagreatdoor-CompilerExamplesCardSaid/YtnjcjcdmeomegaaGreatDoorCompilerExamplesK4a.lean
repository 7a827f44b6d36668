/-
  The engine's runs of pure calls, computed by the kernel (level 4).
-/
import Derived.Test.YtnjcjcdmeomegaaGreatDoorCompilerExamplesT3
namespace Go.Proofs.YtnjcjcdmeomegaaGreatDoor.compilerExamples
theorem c52 : Eng.isV e52.2.2 (Eng.pureX (Eng.mxTab sp tab3) Tryz.prog pol 100000 e52.1 e52.2.1) = true := by kernel_rfl

end Go.Proofs.YtnjcjcdmeomegaaGreatDoor.compilerExamples
