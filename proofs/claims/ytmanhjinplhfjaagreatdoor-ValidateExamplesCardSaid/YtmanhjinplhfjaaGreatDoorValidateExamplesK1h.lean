/-
  The engine's runs of pure calls, computed by the kernel (level 1).
-/
import Derived.Test.YtmanhjinplhfjaaGreatDoorValidateExamplesT0b
namespace Go.Proofs.YtmanhjinplhfjaaGreatDoor.validateExamples
theorem x77w0o0p0 : Eng.leads (@Eng.run _ (Eng.mxTab sp tab0) pol (Eng.planOf pol) Tryz.prog 100000) Tryz.f429.ntmps b77w0 5 T77w0o0p0 S77w0o0p0 T77w0o0p1 S77w0o0p1 = true := by kernel_rfl
theorem x82w0o0p0 : Eng.leads (@Eng.run _ (Eng.mxTab sp tab0) pol (Eng.planOf pol) Tryz.prog 100000) Tryz.f429.ntmps b82w0 5 T82w0o0p0 S82w0o0p0 T82w0o0p1 S82w0o0p1 = true := by kernel_rfl
theorem x72w0o0p1 : Eng.ends (@Eng.run _ (Eng.mxTab sp tab0) pol (Eng.planOf pol) Tryz.prog 100000) Tryz.f60.ntmps (.loop b72w0) T72w0o0p1 S72w0o0p1 r72w0o0 = true := by kernel_rfl
theorem c74 : Eng.isV e74.2.2 (Eng.pureX (Eng.mxTab sp tab0) Tryz.prog pol 100000 e74.1 e74.2.1) = true := by kernel_rfl
theorem c216 : Eng.isV e216.2.2 (Eng.pureX (Eng.mxTab sp tab0) Tryz.prog pol 100000 e216.1 e216.2.1) = true := by kernel_rfl
theorem c220 : Eng.isV e220.2.2 (Eng.pureX (Eng.mxTab sp tab0) Tryz.prog pol 100000 e220.1 e220.2.1) = true := by kernel_rfl
theorem c200 : Eng.isV e200.2.2 (Eng.pureX (Eng.mxTab sp tab0) Tryz.prog pol 100000 e200.1 e200.2.1) = true := by kernel_rfl
theorem c76 : Eng.isV e76.2.2 (Eng.resP Tryz.prog Tryz.f429 (Eng.runP (@Eng.run _ (Eng.mxTab sp tab0) pol (Eng.planOf pol) Tryz.prog 100000) (Eng.lookL l76) Tryz.f429.ntmps 100000 b76 p76 (Eng.argsT e76.2.1 0) ⟨.lf, 0⟩)) = true := by kernel_rfl
theorem c84 : Eng.isV e84.2.2 (Eng.resP Tryz.prog Tryz.f429 (Eng.runP (@Eng.run _ (Eng.mxTab sp tab0) pol (Eng.planOf pol) Tryz.prog 100000) (Eng.lookL l84) Tryz.f429.ntmps 100000 b84 p84 (Eng.argsT e84.2.1 0) ⟨.lf, 0⟩)) = true := by kernel_rfl
theorem c196 : Eng.isV e196.2.2 (Eng.pureX (Eng.mxTab sp tab0) Tryz.prog pol 100000 e196.1 e196.2.1) = true := by kernel_rfl
theorem c30 : Eng.isV e30.2.2 (Eng.pureX (Eng.mxTab sp tab0) Tryz.prog pol 100000 e30.1 e30.2.1) = true := by kernel_rfl
theorem c287 : Eng.isV e287.2.2 (Eng.pureX (Eng.mxTab sp tab0) Tryz.prog pol 100000 e287.1 e287.2.1) = true := by kernel_rfl
theorem c26 : Eng.isV e26.2.2 (Eng.pureX (Eng.mxTab sp tab0) Tryz.prog pol 100000 e26.1 e26.2.1) = true := by kernel_rfl
theorem c66 : Eng.isV e66.2.2 (Eng.pureX (Eng.mxTab sp tab0) Tryz.prog pol 100000 e66.1 e66.2.1) = true := by kernel_rfl
theorem c309 : Eng.isV e309.2.2 (Eng.pureX (Eng.mxTab sp tab0) Tryz.prog pol 100000 e309.1 e309.2.1) = true := by kernel_rfl
theorem c279 : Eng.isV e279.2.2 (Eng.pureX (Eng.mxTab sp tab0) Tryz.prog pol 100000 e279.1 e279.2.1) = true := by kernel_rfl
theorem c305 : Eng.isV e305.2.2 (Eng.pureX (Eng.mxTab sp tab0) Tryz.prog pol 100000 e305.1 e305.2.1) = true := by kernel_rfl
theorem c17 : Eng.isV e17.2.2 (Eng.pureX (Eng.mxTab sp tab0) Tryz.prog pol 100000 e17.1 e17.2.1) = true := by kernel_rfl
theorem c14 : Eng.isV e14.2.2 (Eng.pureX (Eng.mxTab sp tab0) Tryz.prog pol 100000 e14.1 e14.2.1) = true := by kernel_rfl
theorem c12 : Eng.isV e12.2.2 (Eng.pureX (Eng.mxTab sp tab0) Tryz.prog pol 100000 e12.1 e12.2.1) = true := by kernel_rfl
theorem c267 : Eng.isV e267.2.2 (Eng.pureX (Eng.mxTab sp tab0) Tryz.prog pol 100000 e267.1 e267.2.1) = true := by kernel_rfl
theorem c244 : Eng.isV e244.2.2 (Eng.pureX (Eng.mxTab sp tab0) Tryz.prog pol 100000 e244.1 e244.2.1) = true := by kernel_rfl
theorem c101 : Eng.isV e101.2.2 (Eng.pureX (Eng.mxTab sp tab0) Tryz.prog pol 100000 e101.1 e101.2.1) = true := by kernel_rfl
theorem c102 : Eng.isV e102.2.2 (Eng.pureX (Eng.mxTab sp tab0) Tryz.prog pol 100000 e102.1 e102.2.1) = true := by kernel_rfl
theorem c188 : Eng.isV e188.2.2 (Eng.pureX (Eng.mxTab sp tab0) Tryz.prog pol 100000 e188.1 e188.2.1) = true := by kernel_rfl
theorem c126 : Eng.isV e126.2.2 (Eng.pureX (Eng.mxTab sp tab0) Tryz.prog pol 100000 e126.1 e126.2.1) = true := by kernel_rfl

end Go.Proofs.YtmanhjinplhfjaaGreatDoor.validateExamples
