/-
  The engine's runs of pure calls, computed by the kernel (level 3).
-/
import Derived.Test.YtmanhjinplhfjaaGreatDoorValidateExamplesT2
namespace Go.Proofs.YtmanhjinplhfjaaGreatDoor.validateExamples
theorem c42 : Eng.isV e42.2.2 (Eng.pureX (Eng.mxTab sp tab2) Tryz.prog pol 100000 e42.1 e42.2.1) = true := by kernel_rfl
theorem c319 : Eng.isV e319.2.2 (Eng.pureX (Eng.mxTab sp tab2) Tryz.prog pol 100000 e319.1 e319.2.1) = true := by kernel_rfl
theorem c91 : Eng.isV e91.2.2 (Eng.pureX (Eng.mxTab sp tab2) Tryz.prog pol 100000 e91.1 e91.2.1) = true := by kernel_rfl
theorem c94 : Eng.isV e94.2.2 (Eng.pureX (Eng.mxTab sp tab2) Tryz.prog pol 100000 e94.1 e94.2.1) = true := by kernel_rfl
theorem c242 : Eng.isV e242.2.2 (Eng.pureX (Eng.mxTab sp tab2) Tryz.prog pol 100000 e242.1 e242.2.1) = true := by kernel_rfl
theorem c270 : Eng.isV e270.2.2 (Eng.pureX (Eng.mxTab sp tab2) Tryz.prog pol 100000 e270.1 e270.2.1) = true := by kernel_rfl
theorem c245 : Eng.isV e245.2.2 (Eng.pureX (Eng.mxTab sp tab2) Tryz.prog pol 100000 e245.1 e245.2.1) = true := by kernel_rfl
theorem c296 : Eng.isV e296.2.2 (Eng.pureX (Eng.mxTab sp tab2) Tryz.prog pol 100000 e296.1 e296.2.1) = true := by kernel_rfl
theorem c167 : Eng.isV e167.2.2 (Eng.pureX (Eng.mxTab sp tab2) Tryz.prog pol 100000 e167.1 e167.2.1) = true := by kernel_rfl
theorem c165 : Eng.isV e165.2.2 (Eng.pureX (Eng.mxTab sp tab2) Tryz.prog pol 100000 e165.1 e165.2.1) = true := by kernel_rfl
theorem c139 : Eng.isV e139.2.2 (Eng.pureX (Eng.mxTab sp tab2) Tryz.prog pol 100000 e139.1 e139.2.1) = true := by kernel_rfl
theorem c71 : Eng.isV e71.2.2 (Eng.pureX (Eng.mxTab sp tab2) Tryz.prog pol 100000 e71.1 e71.2.1) = true := by kernel_rfl
theorem c69 : Eng.isV e69.2.2 (Eng.pureX (Eng.mxTab sp tab2) Tryz.prog pol 100000 e69.1 e69.2.1) = true := by kernel_rfl
theorem c150 : Eng.isV e150.2.2 (Eng.pureX (Eng.mxTab sp tab2) Tryz.prog pol 100000 e150.1 e150.2.1) = true := by kernel_rfl
theorem c164 : Eng.isV e164.2.2 (Eng.pureX (Eng.mxTab sp tab2) Tryz.prog pol 100000 e164.1 e164.2.1) = true := by kernel_rfl
theorem c109 : Eng.isV e109.2.2 (Eng.pureX (Eng.mxTab sp tab2) Tryz.prog pol 100000 e109.1 e109.2.1) = true := by kernel_rfl
theorem c155 : Eng.isV e155.2.2 (Eng.pureX (Eng.mxTab sp tab2) Tryz.prog pol 100000 e155.1 e155.2.1) = true := by kernel_rfl
theorem c113 : Eng.isV e113.2.2 (Eng.pureX (Eng.mxTab sp tab2) Tryz.prog pol 100000 e113.1 e113.2.1) = true := by kernel_rfl
theorem c328 : Eng.isV e328.2.2 (Eng.pureX (Eng.mxTab sp tab2) Tryz.prog pol 100000 e328.1 e328.2.1) = true := by kernel_rfl

end Go.Proofs.YtmanhjinplhfjaaGreatDoor.validateExamples
