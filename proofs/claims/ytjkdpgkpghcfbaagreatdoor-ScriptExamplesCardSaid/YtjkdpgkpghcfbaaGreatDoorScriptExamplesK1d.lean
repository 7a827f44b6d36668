/-
  The engine's runs of pure calls, computed by the kernel (level 1).
-/
import Derived.Test.YtjkdpgkpghcfbaaGreatDoorScriptExamplesT0
namespace Go.Proofs.YtjkdpgkpghcfbaaGreatDoor.scriptExamples
theorem c59 : Eng.isV e59.2.2 (Eng.pureX (Eng.mxTab sp tab0) Tryz.prog pol 100000 e59.1 e59.2.1) = true := by kernel_rfl
theorem c36 : Eng.isV e36.2.2 (Eng.pureX (Eng.mxTab sp tab0) Tryz.prog pol 100000 e36.1 e36.2.1) = true := by kernel_rfl
theorem c50 : Eng.isV e50.2.2 (Eng.pureX (Eng.mxTab sp tab0) Tryz.prog pol 100000 e50.1 e50.2.1) = true := by kernel_rfl
theorem c7 : Eng.isV e7.2.2 (Eng.pureX (Eng.mxTab sp tab0) Tryz.prog pol 100000 e7.1 e7.2.1) = true := by kernel_rfl
theorem c53 : Eng.isV e53.2.2 (Eng.pureX (Eng.mxTab sp tab0) Tryz.prog pol 100000 e53.1 e53.2.1) = true := by kernel_rfl
theorem c4 : Eng.isV e4.2.2 (Eng.pureX (Eng.mxTab sp tab0) Tryz.prog pol 100000 e4.1 e4.2.1) = true := by kernel_rfl

end Go.Proofs.YtjkdpgkpghcfbaaGreatDoor.scriptExamples
