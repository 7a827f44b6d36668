/-
  The engine's runs of pure calls, computed by the kernel (level 4).
-/
import Derived.Test.YtmanhjinplhfjaaGreatDoorValidateExamplesT3
namespace Go.Proofs.YtmanhjinplhfjaaGreatDoor.validateExamples
theorem c298 : Eng.isV e298.2.2 (Eng.pureX (Eng.mxTab sp tab3) Tryz.prog pol 100000 e298.1 e298.2.1) = true := by kernel_rfl
theorem x73w1o2p0 : Eng.leads (@Eng.run _ (Eng.mxTab sp tab3) pol (Eng.planOf pol) Tryz.prog 100000) Tryz.f26.ntmps b73w1 2 T73w1o2p0 S73w1o2p0 T73w1o2p1 S73w1o2p1 = true := by kernel_rfl
theorem x73w1o0p0 : Eng.ends (@Eng.run _ (Eng.mxTab sp tab3) pol (Eng.planOf pol) Tryz.prog 100000) Tryz.f26.ntmps (.loop b73w1) T73w1o0p0 S73w1o0p0 r73w1o0 = true := by kernel_rfl
theorem x73w0o1p0 : Eng.ends (@Eng.run _ (Eng.mxTab sp tab3) pol (Eng.planOf pol) Tryz.prog 100000) Tryz.f26.ntmps (.loop b73w0) T73w0o1p0 S73w0o1p0 r73w0o1 = true := by kernel_rfl
theorem x73w1o1p0 : Eng.ends (@Eng.run _ (Eng.mxTab sp tab3) pol (Eng.planOf pol) Tryz.prog 100000) Tryz.f26.ntmps (.loop b73w1) T73w1o1p0 S73w1o1p0 r73w1o1 = true := by kernel_rfl
theorem x73w2o0p0 : Eng.ends (@Eng.run _ (Eng.mxTab sp tab3) pol (Eng.planOf pol) Tryz.prog 100000) Tryz.f26.ntmps (.loop b73w2) T73w2o0p0 S73w2o0p0 r73w2o0 = true := by kernel_rfl
theorem c327 : Eng.isV e327.2.2 (Eng.pureX (Eng.mxTab sp tab3) Tryz.prog pol 100000 e327.1 e327.2.1) = true := by kernel_rfl

end Go.Proofs.YtmanhjinplhfjaaGreatDoor.validateExamples
