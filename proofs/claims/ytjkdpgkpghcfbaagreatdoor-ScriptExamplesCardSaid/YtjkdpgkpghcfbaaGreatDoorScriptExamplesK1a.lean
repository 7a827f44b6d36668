/-
  The engine's runs of pure calls, computed by the kernel (level 1).
-/
import Derived.Test.YtjkdpgkpghcfbaaGreatDoorScriptExamplesT0
namespace Go.Proofs.YtjkdpgkpghcfbaaGreatDoor.scriptExamples
theorem c56 : Eng.isV e56.2.2 (Eng.pureX (Eng.mxTab sp tab0) Tryz.prog pol 100000 e56.1 e56.2.1) = true := by kernel_rfl
theorem c26 : Eng.isV e26.2.2 (Eng.pureX (Eng.mxTab sp tab0) Tryz.prog pol 100000 e26.1 e26.2.1) = true := by kernel_rfl
theorem c46 : Eng.isV e46.2.2 (Eng.pureX (Eng.mxTab sp tab0) Tryz.prog pol 100000 e46.1 e46.2.1) = true := by kernel_rfl
theorem c18 : Eng.isV e18.2.2 (Eng.pureX (Eng.mxTab sp tab0) Tryz.prog pol 100000 e18.1 e18.2.1) = true := by kernel_rfl
theorem c16 : Eng.isV e16.2.2 (Eng.pureX (Eng.mxTab sp tab0) Tryz.prog pol 100000 e16.1 e16.2.1) = true := by kernel_rfl

end Go.Proofs.YtjkdpgkpghcfbaaGreatDoor.scriptExamples
