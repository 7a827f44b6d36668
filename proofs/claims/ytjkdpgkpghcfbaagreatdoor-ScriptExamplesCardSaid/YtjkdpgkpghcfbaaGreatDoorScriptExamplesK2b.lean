/-
  The engine's runs of pure calls, computed by the kernel (level 2).
-/
import Derived.Test.YtjkdpgkpghcfbaaGreatDoorScriptExamplesT1
namespace Go.Proofs.YtjkdpgkpghcfbaaGreatDoor.scriptExamples
theorem c60 : Eng.isV e60.2.2 (Eng.pureX (Eng.mxTab sp tab1) Tryz.prog pol 100000 e60.1 e60.2.1) = true := by kernel_rfl
theorem c62 : Eng.isV e62.2.2 (Eng.pureX (Eng.mxTab sp tab1) Tryz.prog pol 100000 e62.1 e62.2.1) = true := by kernel_rfl
theorem c51 : Eng.isV e51.2.2 (Eng.pureX (Eng.mxTab sp tab1) Tryz.prog pol 100000 e51.1 e51.2.1) = true := by kernel_rfl
theorem c49 : Eng.isV e49.2.2 (Eng.pureX (Eng.mxTab sp tab1) Tryz.prog pol 100000 e49.1 e49.2.1) = true := by kernel_rfl
theorem c47 : Eng.isV e47.2.2 (Eng.pureX (Eng.mxTab sp tab1) Tryz.prog pol 100000 e47.1 e47.2.1) = true := by kernel_rfl
theorem c45 : Eng.isV e45.2.2 (Eng.pureX (Eng.mxTab sp tab1) Tryz.prog pol 100000 e45.1 e45.2.1) = true := by kernel_rfl
theorem c43 : Eng.isV e43.2.2 (Eng.pureX (Eng.mxTab sp tab1) Tryz.prog pol 100000 e43.1 e43.2.1) = true := by kernel_rfl
theorem c41 : Eng.isV e41.2.2 (Eng.pureX (Eng.mxTab sp tab1) Tryz.prog pol 100000 e41.1 e41.2.1) = true := by kernel_rfl
theorem c39 : Eng.isV e39.2.2 (Eng.pureX (Eng.mxTab sp tab1) Tryz.prog pol 100000 e39.1 e39.2.1) = true := by kernel_rfl
theorem c37 : Eng.isV e37.2.2 (Eng.pureX (Eng.mxTab sp tab1) Tryz.prog pol 100000 e37.1 e37.2.1) = true := by kernel_rfl
theorem c35 : Eng.isV e35.2.2 (Eng.pureX (Eng.mxTab sp tab1) Tryz.prog pol 100000 e35.1 e35.2.1) = true := by kernel_rfl
theorem c31 : Eng.isV e31.2.2 (Eng.pureX (Eng.mxTab sp tab1) Tryz.prog pol 100000 e31.1 e31.2.1) = true := by kernel_rfl
theorem c27 : Eng.isV e27.2.2 (Eng.pureX (Eng.mxTab sp tab1) Tryz.prog pol 100000 e27.1 e27.2.1) = true := by kernel_rfl
theorem c23 : Eng.isV e23.2.2 (Eng.pureX (Eng.mxTab sp tab1) Tryz.prog pol 100000 e23.1 e23.2.1) = true := by kernel_rfl
theorem c19 : Eng.isV e19.2.2 (Eng.pureX (Eng.mxTab sp tab1) Tryz.prog pol 100000 e19.1 e19.2.1) = true := by kernel_rfl
theorem c15 : Eng.isV e15.2.2 (Eng.pureX (Eng.mxTab sp tab1) Tryz.prog pol 100000 e15.1 e15.2.1) = true := by kernel_rfl
theorem c11 : Eng.isV e11.2.2 (Eng.pureX (Eng.mxTab sp tab1) Tryz.prog pol 100000 e11.1 e11.2.1) = true := by kernel_rfl
theorem c68 : Eng.isV e68.2.2 (Eng.pureX (Eng.mxTab sp tab1) Tryz.prog pol 100000 e68.1 e68.2.1) = true := by kernel_rfl

end Go.Proofs.YtjkdpgkpghcfbaaGreatDoor.scriptExamples
