/-
  The engine's runs of pure calls, computed by the kernel (level 1).
-/
import Derived.Test.YtjkdpgkpghcfbaaGreatDoorScriptExamplesT0
namespace Go.Proofs.YtjkdpgkpghcfbaaGreatDoor.scriptExamples
theorem c65 : Eng.isV e65.2.2 (Eng.pureX (Eng.mxTab sp tab0) Tryz.prog pol 100000 e65.1 e65.2.1) = true := by kernel_rfl
theorem c20 : Eng.isV e20.2.2 (Eng.pureX (Eng.mxTab sp tab0) Tryz.prog pol 100000 e20.1 e20.2.1) = true := by kernel_rfl
theorem c6 : Eng.isV e6.2.2 (Eng.pureX (Eng.mxTab sp tab0) Tryz.prog pol 100000 e6.1 e6.2.1) = true := by kernel_rfl
theorem c10 : Eng.isV e10.2.2 (Eng.pureX (Eng.mxTab sp tab0) Tryz.prog pol 100000 e10.1 e10.2.1) = true := by kernel_rfl
theorem c2 : Eng.isV e2.2.2 (Eng.pureX (Eng.mxTab sp tab0) Tryz.prog pol 100000 e2.1 e2.2.1) = true := by kernel_rfl
theorem c3 : Eng.isV e3.2.2 (Eng.pureX (Eng.mxTab sp tab0) Tryz.prog pol 100000 e3.1 e3.2.1) = true := by kernel_rfl

end Go.Proofs.YtjkdpgkpghcfbaaGreatDoor.scriptExamples
