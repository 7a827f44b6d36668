/-
  The engine's runs of pure calls, computed by the kernel (level 1).
-/
import Derived.Test.YtmanhjinplhfjaaGreatDoorValidateExamplesT0b
namespace Go.Proofs.YtmanhjinplhfjaaGreatDoor.validateExamples
theorem x76w0o0p0 : Eng.leads (@Eng.run _ (Eng.mxTab sp tab0) pol (Eng.planOf pol) Tryz.prog 100000) Tryz.f429.ntmps b76w0 5 T76w0o0p0 S76w0o0p0 T76w0o0p1 S76w0o0p1 = true := by kernel_rfl
theorem x78w0o0p0 : Eng.leads (@Eng.run _ (Eng.mxTab sp tab0) pol (Eng.planOf pol) Tryz.prog 100000) Tryz.f429.ntmps b78w0 5 T78w0o0p0 S78w0o0p0 T78w0o0p1 S78w0o0p1 = true := by kernel_rfl
theorem x85w0o0p1 : Eng.ends (@Eng.run _ (Eng.mxTab sp tab0) pol (Eng.planOf pol) Tryz.prog 100000) Tryz.f429.ntmps (.loop b85w0) T85w0o0p1 S85w0o0p1 r85w0o0 = true := by kernel_rfl
theorem c226 : Eng.isV e226.2.2 (Eng.pureX (Eng.mxTab sp tab0) Tryz.prog pol 100000 e226.1 e226.2.1) = true := by kernel_rfl
theorem x1w0o0p0 : Eng.leads (@Eng.run _ (Eng.mxTab sp tab0) pol (Eng.planOf pol) Tryz.prog 100000) Tryz.f114.ntmps b1w0 147 T1w0o0p0 S1w0o0p0 T1w0o0p1 S1w0o0p1 = true := by kernel_rfl
theorem c224 : Eng.isV e224.2.2 (Eng.pureX (Eng.mxTab sp tab0) Tryz.prog pol 100000 e224.1 e224.2.1) = true := by kernel_rfl
theorem c238 : Eng.isV e238.2.2 (Eng.pureX (Eng.mxTab sp tab0) Tryz.prog pol 100000 e238.1 e238.2.1) = true := by kernel_rfl
theorem c58 : Eng.isV e58.2.2 (Eng.pureX (Eng.mxTab sp tab0) Tryz.prog pol 100000 e58.1 e58.2.1) = true := by kernel_rfl
theorem c77 : Eng.isV e77.2.2 (Eng.resP Tryz.prog Tryz.f429 (Eng.runP (@Eng.run _ (Eng.mxTab sp tab0) pol (Eng.planOf pol) Tryz.prog 100000) (Eng.lookL l77) Tryz.f429.ntmps 100000 b77 p77 (Eng.argsT e77.2.1 0) ⟨.lf, 0⟩)) = true := by kernel_rfl
theorem c248 : Eng.isV e248.2.2 (Eng.pureX (Eng.mxTab sp tab0) Tryz.prog pol 100000 e248.1 e248.2.1) = true := by kernel_rfl
theorem c43 : Eng.isV e43.2.2 (Eng.pureX (Eng.mxTab sp tab0) Tryz.prog pol 100000 e43.1 e43.2.1) = true := by kernel_rfl
theorem c54 : Eng.isV e54.2.2 (Eng.pureX (Eng.mxTab sp tab0) Tryz.prog pol 100000 e54.1 e54.2.1) = true := by kernel_rfl
theorem c315 : Eng.isV e315.2.2 (Eng.pureX (Eng.mxTab sp tab0) Tryz.prog pol 100000 e315.1 e315.2.1) = true := by kernel_rfl
theorem c38 : Eng.isV e38.2.2 (Eng.pureX (Eng.mxTab sp tab0) Tryz.prog pol 100000 e38.1 e38.2.1) = true := by kernel_rfl
theorem c311 : Eng.isV e311.2.2 (Eng.pureX (Eng.mxTab sp tab0) Tryz.prog pol 100000 e311.1 e311.2.1) = true := by kernel_rfl
theorem c308 : Eng.isV e308.2.2 (Eng.pureX (Eng.mxTab sp tab0) Tryz.prog pol 100000 e308.1 e308.2.1) = true := by kernel_rfl
theorem c52 : Eng.isV e52.2.2 (Eng.pureX (Eng.mxTab sp tab0) Tryz.prog pol 100000 e52.1 e52.2.1) = true := by kernel_rfl
theorem c5 : Eng.isV e5.2.2 (Eng.pureX (Eng.mxTab sp tab0) Tryz.prog pol 100000 e5.1 e5.2.1) = true := by kernel_rfl
theorem c264 : Eng.isV e264.2.2 (Eng.pureX (Eng.mxTab sp tab0) Tryz.prog pol 100000 e264.1 e264.2.1) = true := by kernel_rfl
theorem c274 : Eng.isV e274.2.2 (Eng.pureX (Eng.mxTab sp tab0) Tryz.prog pol 100000 e274.1 e274.2.1) = true := by kernel_rfl
theorem c300 : Eng.isV e300.2.2 (Eng.pureX (Eng.mxTab sp tab0) Tryz.prog pol 100000 e300.1 e300.2.1) = true := by kernel_rfl
theorem c268 : Eng.isV e268.2.2 (Eng.pureX (Eng.mxTab sp tab0) Tryz.prog pol 100000 e268.1 e268.2.1) = true := by kernel_rfl
theorem c97 : Eng.isV e97.2.2 (Eng.pureX (Eng.mxTab sp tab0) Tryz.prog pol 100000 e97.1 e97.2.1) = true := by kernel_rfl
theorem c185 : Eng.isV e185.2.2 (Eng.pureX (Eng.mxTab sp tab0) Tryz.prog pol 100000 e185.1 e185.2.1) = true := by kernel_rfl
theorem c250 : Eng.isV e250.2.2 (Eng.pureX (Eng.mxTab sp tab0) Tryz.prog pol 100000 e250.1 e250.2.1) = true := by kernel_rfl
theorem c160 : Eng.isV e160.2.2 (Eng.pureX (Eng.mxTab sp tab0) Tryz.prog pol 100000 e160.1 e160.2.1) = true := by kernel_rfl

end Go.Proofs.YtmanhjinplhfjaaGreatDoor.validateExamples
