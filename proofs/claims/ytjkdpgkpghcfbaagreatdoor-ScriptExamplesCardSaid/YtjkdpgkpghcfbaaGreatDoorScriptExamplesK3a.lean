/-
  The engine's runs of pure calls, computed by the kernel (level 3).
-/
import Derived.Test.YtjkdpgkpghcfbaaGreatDoorScriptExamplesT2
namespace Go.Proofs.YtjkdpgkpghcfbaaGreatDoor.scriptExamples
theorem c54 : Eng.isV e54.2.2 (Eng.pureX (Eng.mxTab sp tab2) Tryz.prog pol 100000 e54.1 e54.2.1) = true := by kernel_rfl

end Go.Proofs.YtjkdpgkpghcfbaaGreatDoor.scriptExamples
