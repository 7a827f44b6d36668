/-
  The engine's runs of pure calls, computed by the kernel (level 4).
-/
import Derived.Test.YtjkdpgkpghcfbaaGreatDoorScriptExamplesT3
namespace Go.Proofs.YtjkdpgkpghcfbaaGreatDoor.scriptExamples
theorem c55 : Eng.isV e55.2.2 (Eng.pureX (Eng.mxTab sp tab3) Tryz.prog pol 100000 e55.1 e55.2.1) = true := by kernel_rfl
theorem c67 : Eng.isV e67.2.2 (Eng.pureX (Eng.mxTab sp tab3) Tryz.prog pol 100000 e67.1 e67.2.1) = true := by kernel_rfl

end Go.Proofs.YtjkdpgkpghcfbaaGreatDoor.scriptExamples
