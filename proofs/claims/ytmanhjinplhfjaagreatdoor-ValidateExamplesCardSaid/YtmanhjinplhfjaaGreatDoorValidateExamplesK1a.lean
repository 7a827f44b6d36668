/-
  The engine's runs of pure calls, computed by the kernel (level 1).
-/
import Derived.Test.YtmanhjinplhfjaaGreatDoorValidateExamplesT0b
namespace Go.Proofs.YtmanhjinplhfjaaGreatDoor.validateExamples
theorem x72w0o0p0 : Eng.leads (@Eng.run _ (Eng.mxTab sp tab0) pol (Eng.planOf pol) Tryz.prog 100000) Tryz.f60.ntmps b72w0 3 T72w0o0p0 S72w0o0p0 T72w0o0p1 S72w0o0p1 = true := by kernel_rfl
theorem x86w0o0p1 : Eng.ends (@Eng.run _ (Eng.mxTab sp tab0) pol (Eng.planOf pol) Tryz.prog 100000) Tryz.f429.ntmps (.loop b86w0) T86w0o0p1 S86w0o0p1 r86w0o0 = true := by kernel_rfl
theorem x84w0o0p1 : Eng.ends (@Eng.run _ (Eng.mxTab sp tab0) pol (Eng.planOf pol) Tryz.prog 100000) Tryz.f429.ntmps (.loop b84w0) T84w0o0p1 S84w0o0p1 r84w0o0 = true := by kernel_rfl
theorem c93 : Eng.isV e93.2.2 (Eng.pureX (Eng.mxTab sp tab0) Tryz.prog pol 100000 e93.1 e93.2.1) = true := by kernel_rfl
theorem c92 : Eng.isV e92.2.2 (Eng.pureX (Eng.mxTab sp tab0) Tryz.prog pol 100000 e92.1 e92.2.1) = true := by kernel_rfl
theorem c208 : Eng.isV e208.2.2 (Eng.pureX (Eng.mxTab sp tab0) Tryz.prog pol 100000 e208.1 e208.2.1) = true := by kernel_rfl
theorem c210 : Eng.isV e210.2.2 (Eng.pureX (Eng.mxTab sp tab0) Tryz.prog pol 100000 e210.1 e210.2.1) = true := by kernel_rfl
theorem c75 : Eng.isV e75.2.2 (Eng.resP Tryz.prog Tryz.f429 (Eng.runP (@Eng.run _ (Eng.mxTab sp tab0) pol (Eng.planOf pol) Tryz.prog 100000) (Eng.lookL l75) Tryz.f429.ntmps 100000 b75 p75 (Eng.argsT e75.2.1 0) ⟨.lf, 0⟩)) = true := by kernel_rfl
theorem c82 : Eng.isV e82.2.2 (Eng.resP Tryz.prog Tryz.f429 (Eng.runP (@Eng.run _ (Eng.mxTab sp tab0) pol (Eng.planOf pol) Tryz.prog 100000) (Eng.lookL l82) Tryz.f429.ntmps 100000 b82 p82 (Eng.argsT e82.2.1 0) ⟨.lf, 0⟩)) = true := by kernel_rfl
theorem c206 : Eng.isV e206.2.2 (Eng.pureX (Eng.mxTab sp tab0) Tryz.prog pol 100000 e206.1 e206.2.1) = true := by kernel_rfl
theorem c291 : Eng.isV e291.2.2 (Eng.pureX (Eng.mxTab sp tab0) Tryz.prog pol 100000 e291.1 e291.2.1) = true := by kernel_rfl
theorem c316 : Eng.isV e316.2.2 (Eng.pureX (Eng.mxTab sp tab0) Tryz.prog pol 100000 e316.1 e316.2.1) = true := by kernel_rfl
theorem c34 : Eng.isV e34.2.2 (Eng.pureX (Eng.mxTab sp tab0) Tryz.prog pol 100000 e34.1 e34.2.1) = true := by kernel_rfl
theorem c20 : Eng.isV e20.2.2 (Eng.pureX (Eng.mxTab sp tab0) Tryz.prog pol 100000 e20.1 e20.2.1) = true := by kernel_rfl
theorem c40 : Eng.isV e40.2.2 (Eng.pureX (Eng.mxTab sp tab0) Tryz.prog pol 100000 e40.1 e40.2.1) = true := by kernel_rfl
theorem c307 : Eng.isV e307.2.2 (Eng.pureX (Eng.mxTab sp tab0) Tryz.prog pol 100000 e307.1 e307.2.1) = true := by kernel_rfl
theorem c10 : Eng.isV e10.2.2 (Eng.pureX (Eng.mxTab sp tab0) Tryz.prog pol 100000 e10.1 e10.2.1) = true := by kernel_rfl
theorem c2 : Eng.isV e2.2.2 (Eng.pureX (Eng.mxTab sp tab0) Tryz.prog pol 100000 e2.1 e2.2.1) = true := by kernel_rfl
theorem c266 : Eng.isV e266.2.2 (Eng.pureX (Eng.mxTab sp tab0) Tryz.prog pol 100000 e266.1 e266.2.1) = true := by kernel_rfl
theorem c302 : Eng.isV e302.2.2 (Eng.pureX (Eng.mxTab sp tab0) Tryz.prog pol 100000 e302.1 e302.2.1) = true := by kernel_rfl
theorem c256 : Eng.isV e256.2.2 (Eng.pureX (Eng.mxTab sp tab0) Tryz.prog pol 100000 e256.1 e256.2.1) = true := by kernel_rfl
theorem c262 : Eng.isV e262.2.2 (Eng.pureX (Eng.mxTab sp tab0) Tryz.prog pol 100000 e262.1 e262.2.1) = true := by kernel_rfl
theorem c100 : Eng.isV e100.2.2 (Eng.pureX (Eng.mxTab sp tab0) Tryz.prog pol 100000 e100.1 e100.2.1) = true := by kernel_rfl
theorem c253 : Eng.isV e253.2.2 (Eng.pureX (Eng.mxTab sp tab0) Tryz.prog pol 100000 e253.1 e253.2.1) = true := by kernel_rfl
theorem c251 : Eng.isV e251.2.2 (Eng.pureX (Eng.mxTab sp tab0) Tryz.prog pol 100000 e251.1 e251.2.1) = true := by kernel_rfl
theorem c114 : Eng.isV e114.2.2 (Eng.pureX (Eng.mxTab sp tab0) Tryz.prog pol 100000 e114.1 e114.2.1) = true := by kernel_rfl

end Go.Proofs.YtmanhjinplhfjaaGreatDoor.validateExamples
