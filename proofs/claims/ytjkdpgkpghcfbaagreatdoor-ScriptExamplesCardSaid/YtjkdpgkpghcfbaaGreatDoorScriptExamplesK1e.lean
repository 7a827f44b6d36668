/-
  The engine's runs of pure calls, computed by the kernel (level 1).
-/
import Derived.Test.YtjkdpgkpghcfbaaGreatDoorScriptExamplesT0
namespace Go.Proofs.YtjkdpgkpghcfbaaGreatDoor.scriptExamples
theorem c58 : Eng.isV e58.2.2 (Eng.pureX (Eng.mxTab sp tab0) Tryz.prog pol 100000 e58.1 e58.2.1) = true := by kernel_rfl
theorem c30 : Eng.isV e30.2.2 (Eng.pureX (Eng.mxTab sp tab0) Tryz.prog pol 100000 e30.1 e30.2.1) = true := by kernel_rfl
theorem c34 : Eng.isV e34.2.2 (Eng.pureX (Eng.mxTab sp tab0) Tryz.prog pol 100000 e34.1 e34.2.1) = true := by kernel_rfl
theorem c14 : Eng.isV e14.2.2 (Eng.pureX (Eng.mxTab sp tab0) Tryz.prog pol 100000 e14.1 e14.2.1) = true := by kernel_rfl
theorem c63 : Eng.isV e63.2.2 (Eng.pureX (Eng.mxTab sp tab0) Tryz.prog pol 100000 e63.1 e63.2.1) = true := by kernel_rfl
theorem c1 : Eng.isV e1.2.2 (Eng.pureX (Eng.mxTab sp tab0) Tryz.prog pol 100000 e1.1 e1.2.1) = true := by kernel_rfl

end Go.Proofs.YtjkdpgkpghcfbaaGreatDoor.scriptExamples
