/-
  The engine's runs of pure calls, computed by the kernel (level 1).
-/
import Derived.Test.YtmanhjinplhfjaaGreatDoorValidateExamplesT0b
namespace Go.Proofs.YtmanhjinplhfjaaGreatDoor.validateExamples
theorem x81w0o0p0 : Eng.leads (@Eng.run _ (Eng.mxTab sp tab0) pol (Eng.planOf pol) Tryz.prog 100000) Tryz.f429.ntmps b81w0 5 T81w0o0p0 S81w0o0p0 T81w0o0p1 S81w0o0p1 = true := by kernel_rfl
theorem x75w0o0p1 : Eng.ends (@Eng.run _ (Eng.mxTab sp tab0) pol (Eng.planOf pol) Tryz.prog 100000) Tryz.f429.ntmps (.loop b75w0) T75w0o0p1 S75w0o0p1 r75w0o0 = true := by kernel_rfl
theorem x83w0o0p1 : Eng.ends (@Eng.run _ (Eng.mxTab sp tab0) pol (Eng.planOf pol) Tryz.prog 100000) Tryz.f429.ntmps (.loop b83w0) T83w0o0p1 S83w0o0p1 r83w0o0 = true := by kernel_rfl
theorem c89 : Eng.isV e89.2.2 (Eng.pureX (Eng.mxTab sp tab0) Tryz.prog pol 100000 e89.1 e89.2.1) = true := by kernel_rfl
theorem x1w0o0p1 : Eng.leads (@Eng.run _ (Eng.mxTab sp tab0) pol (Eng.planOf pol) Tryz.prog 100000) Tryz.f114.ntmps b1w0 151 T1w0o0p1 S1w0o0p1 T1w0o0p2 S1w0o0p2 = true := by kernel_rfl
theorem c246 : Eng.isV e246.2.2 (Eng.pureX (Eng.mxTab sp tab0) Tryz.prog pol 100000 e246.1 e246.2.1) = true := by kernel_rfl
theorem c189 : Eng.isV e189.2.2 (Eng.pureX (Eng.mxTab sp tab0) Tryz.prog pol 100000 e189.1 e189.2.1) = true := by kernel_rfl
theorem c294 : Eng.isV e294.2.2 (Eng.pureX (Eng.mxTab sp tab0) Tryz.prog pol 100000 e294.1 e294.2.1) = true := by kernel_rfl
theorem c81 : Eng.isV e81.2.2 (Eng.resP Tryz.prog Tryz.f429 (Eng.runP (@Eng.run _ (Eng.mxTab sp tab0) pol (Eng.planOf pol) Tryz.prog 100000) (Eng.lookL l81) Tryz.f429.ntmps 100000 b81 p81 (Eng.argsT e81.2.1 0) ⟨.lf, 0⟩)) = true := by kernel_rfl
theorem c45 : Eng.isV e45.2.2 (Eng.pureX (Eng.mxTab sp tab0) Tryz.prog pol 100000 e45.1 e45.2.1) = true := by kernel_rfl
theorem c290 : Eng.isV e290.2.2 (Eng.pureX (Eng.mxTab sp tab0) Tryz.prog pol 100000 e290.1 e290.2.1) = true := by kernel_rfl
theorem c289 : Eng.isV e289.2.2 (Eng.pureX (Eng.mxTab sp tab0) Tryz.prog pol 100000 e289.1 e289.2.1) = true := by kernel_rfl
theorem c36 : Eng.isV e36.2.2 (Eng.pureX (Eng.mxTab sp tab0) Tryz.prog pol 100000 e36.1 e36.2.1) = true := by kernel_rfl
theorem c24 : Eng.isV e24.2.2 (Eng.pureX (Eng.mxTab sp tab0) Tryz.prog pol 100000 e24.1 e24.2.1) = true := by kernel_rfl
theorem c48 : Eng.isV e48.2.2 (Eng.pureX (Eng.mxTab sp tab0) Tryz.prog pol 100000 e48.1 e48.2.1) = true := by kernel_rfl
theorem c18 : Eng.isV e18.2.2 (Eng.pureX (Eng.mxTab sp tab0) Tryz.prog pol 100000 e18.1 e18.2.1) = true := by kernel_rfl
theorem c306 : Eng.isV e306.2.2 (Eng.pureX (Eng.mxTab sp tab0) Tryz.prog pol 100000 e306.1 e306.2.1) = true := by kernel_rfl
theorem c15 : Eng.isV e15.2.2 (Eng.pureX (Eng.mxTab sp tab0) Tryz.prog pol 100000 e15.1 e15.2.1) = true := by kernel_rfl
theorem c7 : Eng.isV e7.2.2 (Eng.pureX (Eng.mxTab sp tab0) Tryz.prog pol 100000 e7.1 e7.2.1) = true := by kernel_rfl
theorem c243 : Eng.isV e243.2.2 (Eng.pureX (Eng.mxTab sp tab0) Tryz.prog pol 100000 e243.1 e243.2.1) = true := by kernel_rfl
theorem c273 : Eng.isV e273.2.2 (Eng.pureX (Eng.mxTab sp tab0) Tryz.prog pol 100000 e273.1 e273.2.1) = true := by kernel_rfl
theorem c259 : Eng.isV e259.2.2 (Eng.pureX (Eng.mxTab sp tab0) Tryz.prog pol 100000 e259.1 e259.2.1) = true := by kernel_rfl
theorem c183 : Eng.isV e183.2.2 (Eng.pureX (Eng.mxTab sp tab0) Tryz.prog pol 100000 e183.1 e183.2.1) = true := by kernel_rfl
theorem c184 : Eng.isV e184.2.2 (Eng.pureX (Eng.mxTab sp tab0) Tryz.prog pol 100000 e184.1 e184.2.1) = true := by kernel_rfl
theorem c261 : Eng.isV e261.2.2 (Eng.pureX (Eng.mxTab sp tab0) Tryz.prog pol 100000 e261.1 e261.2.1) = true := by kernel_rfl

end Go.Proofs.YtmanhjinplhfjaaGreatDoor.validateExamples
