/-
  The engine's runs of pure calls, computed by the kernel (level 5).
-/
import Derived.Test.YtjkdpgkpghcfbaaGreatDoorScriptExamplesT4
namespace Go.Proofs.YtjkdpgkpghcfbaaGreatDoor.scriptExamples
theorem c61 : Eng.isV e61.2.2 (Eng.pureX (Eng.mxTab sp tab4) Tryz.prog pol 100000 e61.1 e61.2.1) = true := by kernel_rfl

end Go.Proofs.YtjkdpgkpghcfbaaGreatDoor.scriptExamples
