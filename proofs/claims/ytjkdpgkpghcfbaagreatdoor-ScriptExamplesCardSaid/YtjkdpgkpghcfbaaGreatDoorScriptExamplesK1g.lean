/-
  The engine's runs of pure calls, computed by the kernel (level 1).
-/
import Derived.Test.YtjkdpgkpghcfbaaGreatDoorScriptExamplesT0
namespace Go.Proofs.YtjkdpgkpghcfbaaGreatDoor.scriptExamples
theorem c42 : Eng.isV e42.2.2 (Eng.pureX (Eng.mxTab sp tab0) Tryz.prog pol 100000 e42.1 e42.2.1) = true := by kernel_rfl
theorem c44 : Eng.isV e44.2.2 (Eng.pureX (Eng.mxTab sp tab0) Tryz.prog pol 100000 e44.1 e44.2.1) = true := by kernel_rfl
theorem c24 : Eng.isV e24.2.2 (Eng.pureX (Eng.mxTab sp tab0) Tryz.prog pol 100000 e24.1 e24.2.1) = true := by kernel_rfl
theorem c48 : Eng.isV e48.2.2 (Eng.pureX (Eng.mxTab sp tab0) Tryz.prog pol 100000 e48.1 e48.2.1) = true := by kernel_rfl
theorem c8 : Eng.isV e8.2.2 (Eng.pureX (Eng.mxTab sp tab0) Tryz.prog pol 100000 e8.1 e8.2.1) = true := by kernel_rfl

end Go.Proofs.YtjkdpgkpghcfbaaGreatDoor.scriptExamples
