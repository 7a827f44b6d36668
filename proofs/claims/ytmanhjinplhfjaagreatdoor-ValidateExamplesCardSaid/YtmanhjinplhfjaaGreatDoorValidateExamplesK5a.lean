/-
  The engine's runs of pure calls, computed by the kernel (level 5).
-/
import Derived.Test.YtmanhjinplhfjaaGreatDoorValidateExamplesT4
namespace Go.Proofs.YtmanhjinplhfjaaGreatDoor.validateExamples
theorem c321 : Eng.isV e321.2.2 (Eng.pureX (Eng.mxTab sp tab4) Tryz.prog pol 100000 e321.1 e321.2.1) = true := by kernel_rfl
theorem c168 : Eng.isV e168.2.2 (Eng.pureX (Eng.mxTab sp tab4) Tryz.prog pol 100000 e168.1 e168.2.1) = true := by kernel_rfl
theorem c169 : Eng.isV e169.2.2 (Eng.pureX (Eng.mxTab sp tab4) Tryz.prog pol 100000 e169.1 e169.2.1) = true := by kernel_rfl
theorem c170 : Eng.isV e170.2.2 (Eng.pureX (Eng.mxTab sp tab4) Tryz.prog pol 100000 e170.1 e170.2.1) = true := by kernel_rfl
theorem c171 : Eng.isV e171.2.2 (Eng.pureX (Eng.mxTab sp tab4) Tryz.prog pol 100000 e171.1 e171.2.1) = true := by kernel_rfl
theorem c172 : Eng.isV e172.2.2 (Eng.pureX (Eng.mxTab sp tab4) Tryz.prog pol 100000 e172.1 e172.2.1) = true := by kernel_rfl
theorem c173 : Eng.isV e173.2.2 (Eng.pureX (Eng.mxTab sp tab4) Tryz.prog pol 100000 e173.1 e173.2.1) = true := by kernel_rfl
theorem c174 : Eng.isV e174.2.2 (Eng.pureX (Eng.mxTab sp tab4) Tryz.prog pol 100000 e174.1 e174.2.1) = true := by kernel_rfl
theorem c175 : Eng.isV e175.2.2 (Eng.pureX (Eng.mxTab sp tab4) Tryz.prog pol 100000 e175.1 e175.2.1) = true := by kernel_rfl
theorem c176 : Eng.isV e176.2.2 (Eng.pureX (Eng.mxTab sp tab4) Tryz.prog pol 100000 e176.1 e176.2.1) = true := by kernel_rfl
theorem c177 : Eng.isV e177.2.2 (Eng.pureX (Eng.mxTab sp tab4) Tryz.prog pol 100000 e177.1 e177.2.1) = true := by kernel_rfl

end Go.Proofs.YtmanhjinplhfjaaGreatDoor.validateExamples
