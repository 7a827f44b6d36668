/-
  The engine's runs of pure calls, computed by the kernel (level 1).
-/
import Derived.Test.YtjkdpgkpghcfbaaGreatDoorScriptExamplesT0
namespace Go.Proofs.YtjkdpgkpghcfbaaGreatDoor.scriptExamples
theorem c64 : Eng.isV e64.2.2 (Eng.pureX (Eng.mxTab sp tab0) Tryz.prog pol 100000 e64.1 e64.2.1) = true := by kernel_rfl
theorem c66 : Eng.isV e66.2.2 (Eng.pureX (Eng.mxTab sp tab0) Tryz.prog pol 100000 e66.1 e66.2.1) = true := by kernel_rfl
theorem c40 : Eng.isV e40.2.2 (Eng.pureX (Eng.mxTab sp tab0) Tryz.prog pol 100000 e40.1 e40.2.1) = true := by kernel_rfl
theorem c12 : Eng.isV e12.2.2 (Eng.pureX (Eng.mxTab sp tab0) Tryz.prog pol 100000 e12.1 e12.2.1) = true := by kernel_rfl
theorem c0 : Eng.isV e0.2.2 (Eng.pureX (Eng.mxTab sp tab0) Tryz.prog pol 100000 e0.1 e0.2.1) = true := by kernel_rfl
theorem c69 : Eng.isV e69.2.2 (Eng.pureX (Eng.mxTab sp tab0) Tryz.prog pol 100000 e69.1 e69.2.1) = true := by kernel_rfl

end Go.Proofs.YtjkdpgkpghcfbaaGreatDoor.scriptExamples
