/-
  The engine's runs of pure calls, computed by the kernel (level 1).
-/
import Derived.Test.YtmanhjinplhfjaaGreatDoorValidateExamplesT0b
namespace Go.Proofs.YtmanhjinplhfjaaGreatDoor.validateExamples
theorem x84w0o0p0 : Eng.leads (@Eng.run _ (Eng.mxTab sp tab0) pol (Eng.planOf pol) Tryz.prog 100000) Tryz.f429.ntmps b84w0 5 T84w0o0p0 S84w0o0p0 T84w0o0p1 S84w0o0p1 = true := by kernel_rfl
theorem x82w0o0p1 : Eng.ends (@Eng.run _ (Eng.mxTab sp tab0) pol (Eng.planOf pol) Tryz.prog 100000) Tryz.f429.ntmps (.loop b82w0) T82w0o0p1 S82w0o0p1 r82w0o0 = true := by kernel_rfl
theorem x80w0o0p1 : Eng.ends (@Eng.run _ (Eng.mxTab sp tab0) pol (Eng.planOf pol) Tryz.prog 100000) Tryz.f429.ntmps (.loop b80w0) T80w0o0p1 S80w0o0p1 r80w0o0 = true := by kernel_rfl
theorem c193 : Eng.isV e193.2.2 (Eng.pureX (Eng.mxTab sp tab0) Tryz.prog pol 100000 e193.1 e193.2.1) = true := by kernel_rfl
theorem c232 : Eng.isV e232.2.2 (Eng.pureX (Eng.mxTab sp tab0) Tryz.prog pol 100000 e232.1 e232.2.1) = true := by kernel_rfl
theorem c214 : Eng.isV e214.2.2 (Eng.pureX (Eng.mxTab sp tab0) Tryz.prog pol 100000 e214.1 e214.2.1) = true := by kernel_rfl
theorem c228 : Eng.isV e228.2.2 (Eng.pureX (Eng.mxTab sp tab0) Tryz.prog pol 100000 e228.1 e228.2.1) = true := by kernel_rfl
theorem c86 : Eng.isV e86.2.2 (Eng.resP Tryz.prog Tryz.f429 (Eng.runP (@Eng.run _ (Eng.mxTab sp tab0) pol (Eng.planOf pol) Tryz.prog 100000) (Eng.lookL l86) Tryz.f429.ntmps 100000 b86 p86 (Eng.argsT e86.2.1 0) ⟨.lf, 0⟩)) = true := by kernel_rfl
theorem c83 : Eng.isV e83.2.2 (Eng.resP Tryz.prog Tryz.f429 (Eng.runP (@Eng.run _ (Eng.mxTab sp tab0) pol (Eng.planOf pol) Tryz.prog 100000) (Eng.lookL l83) Tryz.f429.ntmps 100000 b83 p83 (Eng.argsT e83.2.1 0) ⟨.lf, 0⟩)) = true := by kernel_rfl
theorem c204 : Eng.isV e204.2.2 (Eng.pureX (Eng.mxTab sp tab0) Tryz.prog pol 100000 e204.1 e204.2.1) = true := by kernel_rfl
theorem c62 : Eng.isV e62.2.2 (Eng.pureX (Eng.mxTab sp tab0) Tryz.prog pol 100000 e62.1 e62.2.1) = true := by kernel_rfl
theorem c56 : Eng.isV e56.2.2 (Eng.pureX (Eng.mxTab sp tab0) Tryz.prog pol 100000 e56.1 e56.2.1) = true := by kernel_rfl
theorem c313 : Eng.isV e313.2.2 (Eng.pureX (Eng.mxTab sp tab0) Tryz.prog pol 100000 e313.1 e313.2.1) = true := by kernel_rfl
theorem c312 : Eng.isV e312.2.2 (Eng.pureX (Eng.mxTab sp tab0) Tryz.prog pol 100000 e312.1 e312.2.1) = true := by kernel_rfl
theorem c281 : Eng.isV e281.2.2 (Eng.pureX (Eng.mxTab sp tab0) Tryz.prog pol 100000 e281.1 e281.2.1) = true := by kernel_rfl
theorem c50 : Eng.isV e50.2.2 (Eng.pureX (Eng.mxTab sp tab0) Tryz.prog pol 100000 e50.1 e50.2.1) = true := by kernel_rfl
theorem c278 : Eng.isV e278.2.2 (Eng.pureX (Eng.mxTab sp tab0) Tryz.prog pol 100000 e278.1 e278.2.1) = true := by kernel_rfl
theorem c247 : Eng.isV e247.2.2 (Eng.pureX (Eng.mxTab sp tab0) Tryz.prog pol 100000 e247.1 e247.2.1) = true := by kernel_rfl
theorem c303 : Eng.isV e303.2.2 (Eng.pureX (Eng.mxTab sp tab0) Tryz.prog pol 100000 e303.1 e303.2.1) = true := by kernel_rfl
theorem c3 : Eng.isV e3.2.2 (Eng.pureX (Eng.mxTab sp tab0) Tryz.prog pol 100000 e3.1 e3.2.1) = true := by kernel_rfl
theorem c265 : Eng.isV e265.2.2 (Eng.pureX (Eng.mxTab sp tab0) Tryz.prog pol 100000 e265.1 e265.2.1) = true := by kernel_rfl
theorem c271 : Eng.isV e271.2.2 (Eng.pureX (Eng.mxTab sp tab0) Tryz.prog pol 100000 e271.1 e271.2.1) = true := by kernel_rfl
theorem c96 : Eng.isV e96.2.2 (Eng.pureX (Eng.mxTab sp tab0) Tryz.prog pol 100000 e96.1 e96.2.1) = true := by kernel_rfl
theorem c187 : Eng.isV e187.2.2 (Eng.pureX (Eng.mxTab sp tab0) Tryz.prog pol 100000 e187.1 e187.2.1) = true := by kernel_rfl
theorem c186 : Eng.isV e186.2.2 (Eng.pureX (Eng.mxTab sp tab0) Tryz.prog pol 100000 e186.1 e186.2.1) = true := by kernel_rfl
theorem c110 : Eng.isV e110.2.2 (Eng.pureX (Eng.mxTab sp tab0) Tryz.prog pol 100000 e110.1 e110.2.1) = true := by kernel_rfl

end Go.Proofs.YtmanhjinplhfjaaGreatDoor.validateExamples
