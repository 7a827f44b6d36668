/-
  The engine's runs of pure calls, computed by the kernel (level 4).
-/
import Derived.Test.YtmanhjinplhfjaaGreatDoorValidateExamplesT3
namespace Go.Proofs.YtmanhjinplhfjaaGreatDoor.validateExamples
theorem c297 : Eng.isV e297.2.2 (Eng.pureX (Eng.mxTab sp tab3) Tryz.prog pol 100000 e297.1 e297.2.1) = true := by kernel_rfl
theorem x73w1o2p1 : Eng.ends (@Eng.run _ (Eng.mxTab sp tab3) pol (Eng.planOf pol) Tryz.prog 100000) Tryz.f26.ntmps (.loop b73w1) T73w1o2p1 S73w1o2p1 r73w1o2 = true := by kernel_rfl
theorem c73 : Eng.isV e73.2.2 (Eng.resP Tryz.prog Tryz.f26 (Eng.runP (@Eng.run _ (Eng.mxTab sp tab3) pol (Eng.planOf pol) Tryz.prog 100000) (Eng.lookL l73) Tryz.f26.ntmps 100000 b73 p73 (Eng.argsT e73.2.1 0) ⟨.lf, 0⟩)) = true := by kernel_rfl
theorem x73w0o0p0 : Eng.ends (@Eng.run _ (Eng.mxTab sp tab3) pol (Eng.planOf pol) Tryz.prog 100000) Tryz.f26.ntmps (.loop b73w0) T73w0o0p0 S73w0o0p0 r73w0o0 = true := by kernel_rfl
theorem x73w2o1p0 : Eng.ends (@Eng.run _ (Eng.mxTab sp tab3) pol (Eng.planOf pol) Tryz.prog 100000) Tryz.f26.ntmps (.loop b73w2) T73w2o1p0 S73w2o1p0 r73w2o1 = true := by kernel_rfl
theorem x73w1o3p0 : Eng.ends (@Eng.run _ (Eng.mxTab sp tab3) pol (Eng.planOf pol) Tryz.prog 100000) Tryz.f26.ntmps (.loop b73w1) T73w1o3p0 S73w1o3p0 r73w1o3 = true := by kernel_rfl
theorem c166 : Eng.isV e166.2.2 (Eng.pureX (Eng.mxTab sp tab3) Tryz.prog pol 100000 e166.1 e166.2.1) = true := by kernel_rfl

end Go.Proofs.YtmanhjinplhfjaaGreatDoor.validateExamples
