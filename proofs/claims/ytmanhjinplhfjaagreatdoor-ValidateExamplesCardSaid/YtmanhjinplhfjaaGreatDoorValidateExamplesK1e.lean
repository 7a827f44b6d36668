/-
  The engine's runs of pure calls, computed by the kernel (level 1).
-/
import Derived.Test.YtmanhjinplhfjaaGreatDoorValidateExamplesT0b
namespace Go.Proofs.YtmanhjinplhfjaaGreatDoor.validateExamples
theorem x85w0o0p0 : Eng.leads (@Eng.run _ (Eng.mxTab sp tab0) pol (Eng.planOf pol) Tryz.prog 100000) Tryz.f429.ntmps b85w0 5 T85w0o0p0 S85w0o0p0 T85w0o0p1 S85w0o0p1 = true := by kernel_rfl
theorem x76w0o0p1 : Eng.ends (@Eng.run _ (Eng.mxTab sp tab0) pol (Eng.planOf pol) Tryz.prog 100000) Tryz.f429.ntmps (.loop b76w0) T76w0o0p1 S76w0o0p1 r76w0o0 = true := by kernel_rfl
theorem x81w0o0p1 : Eng.ends (@Eng.run _ (Eng.mxTab sp tab0) pol (Eng.planOf pol) Tryz.prog 100000) Tryz.f429.ntmps (.loop b81w0) T81w0o0p1 S81w0o0p1 r81w0o0 = true := by kernel_rfl
theorem c79 : Eng.isV e79.2.2 (Eng.pureX (Eng.mxTab sp tab0) Tryz.prog pol 100000 e79.1 e79.2.1) = true := by kernel_rfl
theorem x1w0o0p2 : Eng.leads (@Eng.run _ (Eng.mxTab sp tab0) pol (Eng.planOf pol) Tryz.prog 100000) Tryz.f114.ntmps b1w0 118 T1w0o0p2 S1w0o0p2 T1w0o0p3 S1w0o0p3 = true := by kernel_rfl
theorem c72 : Eng.isV e72.2.2 (Eng.resP Tryz.prog Tryz.f60 (Eng.runP (@Eng.run _ (Eng.mxTab sp tab0) pol (Eng.planOf pol) Tryz.prog 100000) (Eng.lookL l72) Tryz.f60.ntmps 100000 b72 p72 (Eng.argsT e72.2.1 0) ⟨.lf, 0⟩)) = true := by kernel_rfl
theorem c234 : Eng.isV e234.2.2 (Eng.pureX (Eng.mxTab sp tab0) Tryz.prog pol 100000 e234.1 e234.2.1) = true := by kernel_rfl
theorem c293 : Eng.isV e293.2.2 (Eng.pureX (Eng.mxTab sp tab0) Tryz.prog pol 100000 e293.1 e293.2.1) = true := by kernel_rfl
theorem c78 : Eng.isV e78.2.2 (Eng.resP Tryz.prog Tryz.f429 (Eng.runP (@Eng.run _ (Eng.mxTab sp tab0) pol (Eng.planOf pol) Tryz.prog 100000) (Eng.lookL l78) Tryz.f429.ntmps 100000 b78 p78 (Eng.argsT e78.2.1 0) ⟨.lf, 0⟩)) = true := by kernel_rfl
theorem c292 : Eng.isV e292.2.2 (Eng.pureX (Eng.mxTab sp tab0) Tryz.prog pol 100000 e292.1 e292.2.1) = true := by kernel_rfl
theorem c60 : Eng.isV e60.2.2 (Eng.pureX (Eng.mxTab sp tab0) Tryz.prog pol 100000 e60.1 e60.2.1) = true := by kernel_rfl
theorem c288 : Eng.isV e288.2.2 (Eng.pureX (Eng.mxTab sp tab0) Tryz.prog pol 100000 e288.1 e288.2.1) = true := by kernel_rfl
theorem c286 : Eng.isV e286.2.2 (Eng.pureX (Eng.mxTab sp tab0) Tryz.prog pol 100000 e286.1 e286.2.1) = true := by kernel_rfl
theorem c64 : Eng.isV e64.2.2 (Eng.pureX (Eng.mxTab sp tab0) Tryz.prog pol 100000 e64.1 e64.2.1) = true := by kernel_rfl
theorem c310 : Eng.isV e310.2.2 (Eng.pureX (Eng.mxTab sp tab0) Tryz.prog pol 100000 e310.1 e310.2.1) = true := by kernel_rfl
theorem c22 : Eng.isV e22.2.2 (Eng.pureX (Eng.mxTab sp tab0) Tryz.prog pol 100000 e22.1 e22.2.1) = true := by kernel_rfl
theorem c277 : Eng.isV e277.2.2 (Eng.pureX (Eng.mxTab sp tab0) Tryz.prog pol 100000 e277.1 e277.2.1) = true := by kernel_rfl
theorem c16 : Eng.isV e16.2.2 (Eng.pureX (Eng.mxTab sp tab0) Tryz.prog pol 100000 e16.1 e16.2.1) = true := by kernel_rfl
theorem c275 : Eng.isV e275.2.2 (Eng.pureX (Eng.mxTab sp tab0) Tryz.prog pol 100000 e275.1 e275.2.1) = true := by kernel_rfl
theorem c8 : Eng.isV e8.2.2 (Eng.pureX (Eng.mxTab sp tab0) Tryz.prog pol 100000 e8.1 e8.2.1) = true := by kernel_rfl
theorem c301 : Eng.isV e301.2.2 (Eng.pureX (Eng.mxTab sp tab0) Tryz.prog pol 100000 e301.1 e301.2.1) = true := by kernel_rfl
theorem c272 : Eng.isV e272.2.2 (Eng.pureX (Eng.mxTab sp tab0) Tryz.prog pol 100000 e272.1 e272.2.1) = true := by kernel_rfl
theorem c182 : Eng.isV e182.2.2 (Eng.pureX (Eng.mxTab sp tab0) Tryz.prog pol 100000 e182.1 e182.2.1) = true := by kernel_rfl
theorem c254 : Eng.isV e254.2.2 (Eng.pureX (Eng.mxTab sp tab0) Tryz.prog pol 100000 e254.1 e254.2.1) = true := by kernel_rfl
theorem c257 : Eng.isV e257.2.2 (Eng.pureX (Eng.mxTab sp tab0) Tryz.prog pol 100000 e257.1 e257.2.1) = true := by kernel_rfl
theorem c1 : Eng.isV e1.2.2 (Eng.resP Tryz.prog Tryz.f114 (Eng.runP (@Eng.run _ (Eng.mxTab sp tab0) pol (Eng.planOf pol) Tryz.prog 100000) (Eng.lookL l1) Tryz.f114.ntmps 100000 b1 p1 (Eng.argsT e1.2.1 0) ⟨.lf, 0⟩)) = true := by kernel_rfl

end Go.Proofs.YtmanhjinplhfjaaGreatDoor.validateExamples
