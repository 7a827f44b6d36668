/-
  The engine's runs of pure calls, computed by the kernel (level 1).
-/
import Derived.Test.YtmanhjinplhfjaaGreatDoorValidateExamplesT0b
namespace Go.Proofs.YtmanhjinplhfjaaGreatDoor.validateExamples
theorem x75w0o0p0 : Eng.leads (@Eng.run _ (Eng.mxTab sp tab0) pol (Eng.planOf pol) Tryz.prog 100000) Tryz.f429.ntmps b75w0 5 T75w0o0p0 S75w0o0p0 T75w0o0p1 S75w0o0p1 = true := by kernel_rfl
theorem x83w0o0p0 : Eng.leads (@Eng.run _ (Eng.mxTab sp tab0) pol (Eng.planOf pol) Tryz.prog 100000) Tryz.f429.ntmps b83w0 5 T83w0o0p0 S83w0o0p0 T83w0o0p1 S83w0o0p1 = true := by kernel_rfl
theorem x86w0o0p0 : Eng.leads (@Eng.run _ (Eng.mxTab sp tab0) pol (Eng.planOf pol) Tryz.prog 100000) Tryz.f429.ntmps b86w0 4 T86w0o0p0 S86w0o0p0 T86w0o0p1 S86w0o0p1 = true := by kernel_rfl
theorem c47 : Eng.isV e47.2.2 (Eng.pureX (Eng.mxTab sp tab0) Tryz.prog pol 100000 e47.1 e47.2.1) = true := by kernel_rfl
theorem c218 : Eng.isV e218.2.2 (Eng.pureX (Eng.mxTab sp tab0) Tryz.prog pol 100000 e218.1 e218.2.1) = true := by kernel_rfl
theorem c222 : Eng.isV e222.2.2 (Eng.pureX (Eng.mxTab sp tab0) Tryz.prog pol 100000 e222.1 e222.2.1) = true := by kernel_rfl
theorem c198 : Eng.isV e198.2.2 (Eng.pureX (Eng.mxTab sp tab0) Tryz.prog pol 100000 e198.1 e198.2.1) = true := by kernel_rfl
theorem c323 : Eng.isV e323.2.2 (Eng.pureX (Eng.mxTab sp tab0) Tryz.prog pol 100000 e323.1 e323.2.1) = true := by kernel_rfl
theorem c80 : Eng.isV e80.2.2 (Eng.resP Tryz.prog Tryz.f429 (Eng.runP (@Eng.run _ (Eng.mxTab sp tab0) pol (Eng.planOf pol) Tryz.prog 100000) (Eng.lookL l80) Tryz.f429.ntmps 100000 b80 p80 (Eng.argsT e80.2.1 0) ⟨.lf, 0⟩)) = true := by kernel_rfl
theorem c202 : Eng.isV e202.2.2 (Eng.pureX (Eng.mxTab sp tab0) Tryz.prog pol 100000 e202.1 e202.2.1) = true := by kernel_rfl
theorem c32 : Eng.isV e32.2.2 (Eng.pureX (Eng.mxTab sp tab0) Tryz.prog pol 100000 e32.1 e32.2.1) = true := by kernel_rfl
theorem c28 : Eng.isV e28.2.2 (Eng.pureX (Eng.mxTab sp tab0) Tryz.prog pol 100000 e28.1 e28.2.1) = true := by kernel_rfl
theorem c314 : Eng.isV e314.2.2 (Eng.pureX (Eng.mxTab sp tab0) Tryz.prog pol 100000 e314.1 e314.2.1) = true := by kernel_rfl
theorem c283 : Eng.isV e283.2.2 (Eng.pureX (Eng.mxTab sp tab0) Tryz.prog pol 100000 e283.1 e283.2.1) = true := by kernel_rfl
theorem c282 : Eng.isV e282.2.2 (Eng.pureX (Eng.mxTab sp tab0) Tryz.prog pol 100000 e282.1 e282.2.1) = true := by kernel_rfl
theorem c280 : Eng.isV e280.2.2 (Eng.pureX (Eng.mxTab sp tab0) Tryz.prog pol 100000 e280.1 e280.2.1) = true := by kernel_rfl
theorem c6 : Eng.isV e6.2.2 (Eng.pureX (Eng.mxTab sp tab0) Tryz.prog pol 100000 e6.1 e6.2.1) = true := by kernel_rfl
theorem c263 : Eng.isV e263.2.2 (Eng.pureX (Eng.mxTab sp tab0) Tryz.prog pol 100000 e263.1 e263.2.1) = true := by kernel_rfl
theorem c240 : Eng.isV e240.2.2 (Eng.pureX (Eng.mxTab sp tab0) Tryz.prog pol 100000 e240.1 e240.2.1) = true := by kernel_rfl
theorem c13 : Eng.isV e13.2.2 (Eng.pureX (Eng.mxTab sp tab0) Tryz.prog pol 100000 e13.1 e13.2.1) = true := by kernel_rfl
theorem c252 : Eng.isV e252.2.2 (Eng.pureX (Eng.mxTab sp tab0) Tryz.prog pol 100000 e252.1 e252.2.1) = true := by kernel_rfl
theorem c258 : Eng.isV e258.2.2 (Eng.pureX (Eng.mxTab sp tab0) Tryz.prog pol 100000 e258.1 e258.2.1) = true := by kernel_rfl
theorem c99 : Eng.isV e99.2.2 (Eng.pureX (Eng.mxTab sp tab0) Tryz.prog pol 100000 e99.1 e99.2.1) = true := by kernel_rfl
theorem c98 : Eng.isV e98.2.2 (Eng.pureX (Eng.mxTab sp tab0) Tryz.prog pol 100000 e98.1 e98.2.1) = true := by kernel_rfl
theorem c255 : Eng.isV e255.2.2 (Eng.pureX (Eng.mxTab sp tab0) Tryz.prog pol 100000 e255.1 e255.2.1) = true := by kernel_rfl
theorem c125 : Eng.isV e125.2.2 (Eng.pureX (Eng.mxTab sp tab0) Tryz.prog pol 100000 e125.1 e125.2.1) = true := by kernel_rfl

end Go.Proofs.YtmanhjinplhfjaaGreatDoor.validateExamples
