/-
  The engine's runs of pure calls, computed by the kernel (level 1).
-/
import Derived.Test.YtjkdpgkpghcfbaaGreatDoorScriptExamplesT0
namespace Go.Proofs.YtjkdpgkpghcfbaaGreatDoor.scriptExamples
theorem c38 : Eng.isV e38.2.2 (Eng.pureX (Eng.mxTab sp tab0) Tryz.prog pol 100000 e38.1 e38.2.1) = true := by kernel_rfl
theorem c28 : Eng.isV e28.2.2 (Eng.pureX (Eng.mxTab sp tab0) Tryz.prog pol 100000 e28.1 e28.2.1) = true := by kernel_rfl
theorem c32 : Eng.isV e32.2.2 (Eng.pureX (Eng.mxTab sp tab0) Tryz.prog pol 100000 e32.1 e32.2.1) = true := by kernel_rfl
theorem c22 : Eng.isV e22.2.2 (Eng.pureX (Eng.mxTab sp tab0) Tryz.prog pol 100000 e22.1 e22.2.1) = true := by kernel_rfl
theorem c52 : Eng.isV e52.2.2 (Eng.pureX (Eng.mxTab sp tab0) Tryz.prog pol 100000 e52.1 e52.2.1) = true := by kernel_rfl
theorem c5 : Eng.isV e5.2.2 (Eng.pureX (Eng.mxTab sp tab0) Tryz.prog pol 100000 e5.1 e5.2.1) = true := by kernel_rfl

end Go.Proofs.YtjkdpgkpghcfbaaGreatDoor.scriptExamples
