/-
  The engine's runs of pure calls, computed by the kernel (level 2).
-/
import Derived.Test.YtjkdpgkpghcfbaaGreatDoorScriptExamplesT1
namespace Go.Proofs.YtjkdpgkpghcfbaaGreatDoor.scriptExamples
theorem c57 : Eng.isV e57.2.2 (Eng.pureX (Eng.mxTab sp tab1) Tryz.prog pol 100000 e57.1 e57.2.1) = true := by kernel_rfl
theorem c33 : Eng.isV e33.2.2 (Eng.pureX (Eng.mxTab sp tab1) Tryz.prog pol 100000 e33.1 e33.2.1) = true := by kernel_rfl
theorem c29 : Eng.isV e29.2.2 (Eng.pureX (Eng.mxTab sp tab1) Tryz.prog pol 100000 e29.1 e29.2.1) = true := by kernel_rfl
theorem c25 : Eng.isV e25.2.2 (Eng.pureX (Eng.mxTab sp tab1) Tryz.prog pol 100000 e25.1 e25.2.1) = true := by kernel_rfl
theorem c21 : Eng.isV e21.2.2 (Eng.pureX (Eng.mxTab sp tab1) Tryz.prog pol 100000 e21.1 e21.2.1) = true := by kernel_rfl
theorem c17 : Eng.isV e17.2.2 (Eng.pureX (Eng.mxTab sp tab1) Tryz.prog pol 100000 e17.1 e17.2.1) = true := by kernel_rfl
theorem c13 : Eng.isV e13.2.2 (Eng.pureX (Eng.mxTab sp tab1) Tryz.prog pol 100000 e13.1 e13.2.1) = true := by kernel_rfl
theorem c9 : Eng.isV e9.2.2 (Eng.pureX (Eng.mxTab sp tab1) Tryz.prog pol 100000 e9.1 e9.2.1) = true := by kernel_rfl

end Go.Proofs.YtjkdpgkpghcfbaaGreatDoor.scriptExamples
