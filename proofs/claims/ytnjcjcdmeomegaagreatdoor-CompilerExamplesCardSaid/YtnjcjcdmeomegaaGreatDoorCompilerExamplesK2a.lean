/-
  The engine's runs of pure calls, computed by the kernel (level 2).
-/
import Derived.Test.YtnjcjcdmeomegaaGreatDoorCompilerExamplesT1
namespace Go.Proofs.YtnjcjcdmeomegaaGreatDoor.compilerExamples
theorem c54 : Eng.isV e54.2.2 (Eng.pureX (Eng.mxTab sp tab1) Tryz.prog pol 100000 e54.1 e54.2.1) = true := by kernel_rfl
theorem c57 : Eng.isV e57.2.2 (Eng.pureX (Eng.mxTab sp tab1) Tryz.prog pol 100000 e57.1 e57.2.1) = true := by kernel_rfl
theorem c59 : Eng.isV e59.2.2 (Eng.pureX (Eng.mxTab sp tab1) Tryz.prog pol 100000 e59.1 e59.2.1) = true := by kernel_rfl
theorem c45 : Eng.isV e45.2.2 (Eng.pureX (Eng.mxTab sp tab1) Tryz.prog pol 100000 e45.1 e45.2.1) = true := by kernel_rfl
theorem c43 : Eng.isV e43.2.2 (Eng.pureX (Eng.mxTab sp tab1) Tryz.prog pol 100000 e43.1 e43.2.1) = true := by kernel_rfl
theorem c41 : Eng.isV e41.2.2 (Eng.pureX (Eng.mxTab sp tab1) Tryz.prog pol 100000 e41.1 e41.2.1) = true := by kernel_rfl
theorem c39 : Eng.isV e39.2.2 (Eng.pureX (Eng.mxTab sp tab1) Tryz.prog pol 100000 e39.1 e39.2.1) = true := by kernel_rfl
theorem c37 : Eng.isV e37.2.2 (Eng.pureX (Eng.mxTab sp tab1) Tryz.prog pol 100000 e37.1 e37.2.1) = true := by kernel_rfl
theorem c35 : Eng.isV e35.2.2 (Eng.pureX (Eng.mxTab sp tab1) Tryz.prog pol 100000 e35.1 e35.2.1) = true := by kernel_rfl
theorem c33 : Eng.isV e33.2.2 (Eng.pureX (Eng.mxTab sp tab1) Tryz.prog pol 100000 e33.1 e33.2.1) = true := by kernel_rfl
theorem c31 : Eng.isV e31.2.2 (Eng.pureX (Eng.mxTab sp tab1) Tryz.prog pol 100000 e31.1 e31.2.1) = true := by kernel_rfl
theorem c29 : Eng.isV e29.2.2 (Eng.pureX (Eng.mxTab sp tab1) Tryz.prog pol 100000 e29.1 e29.2.1) = true := by kernel_rfl
theorem c27 : Eng.isV e27.2.2 (Eng.pureX (Eng.mxTab sp tab1) Tryz.prog pol 100000 e27.1 e27.2.1) = true := by kernel_rfl
theorem c25 : Eng.isV e25.2.2 (Eng.pureX (Eng.mxTab sp tab1) Tryz.prog pol 100000 e25.1 e25.2.1) = true := by kernel_rfl
theorem c23 : Eng.isV e23.2.2 (Eng.pureX (Eng.mxTab sp tab1) Tryz.prog pol 100000 e23.1 e23.2.1) = true := by kernel_rfl
theorem c21 : Eng.isV e21.2.2 (Eng.pureX (Eng.mxTab sp tab1) Tryz.prog pol 100000 e21.1 e21.2.1) = true := by kernel_rfl
theorem c19 : Eng.isV e19.2.2 (Eng.pureX (Eng.mxTab sp tab1) Tryz.prog pol 100000 e19.1 e19.2.1) = true := by kernel_rfl
theorem c17 : Eng.isV e17.2.2 (Eng.pureX (Eng.mxTab sp tab1) Tryz.prog pol 100000 e17.1 e17.2.1) = true := by kernel_rfl
theorem c15 : Eng.isV e15.2.2 (Eng.pureX (Eng.mxTab sp tab1) Tryz.prog pol 100000 e15.1 e15.2.1) = true := by kernel_rfl
theorem c13 : Eng.isV e13.2.2 (Eng.pureX (Eng.mxTab sp tab1) Tryz.prog pol 100000 e13.1 e13.2.1) = true := by kernel_rfl
theorem c11 : Eng.isV e11.2.2 (Eng.pureX (Eng.mxTab sp tab1) Tryz.prog pol 100000 e11.1 e11.2.1) = true := by kernel_rfl
theorem c9 : Eng.isV e9.2.2 (Eng.pureX (Eng.mxTab sp tab1) Tryz.prog pol 100000 e9.1 e9.2.1) = true := by kernel_rfl
theorem c7 : Eng.isV e7.2.2 (Eng.pureX (Eng.mxTab sp tab1) Tryz.prog pol 100000 e7.1 e7.2.1) = true := by kernel_rfl
theorem c5 : Eng.isV e5.2.2 (Eng.pureX (Eng.mxTab sp tab1) Tryz.prog pol 100000 e5.1 e5.2.1) = true := by kernel_rfl
theorem c3 : Eng.isV e3.2.2 (Eng.pureX (Eng.mxTab sp tab1) Tryz.prog pol 100000 e3.1 e3.2.1) = true := by kernel_rfl

end Go.Proofs.YtnjcjcdmeomegaaGreatDoor.compilerExamples
