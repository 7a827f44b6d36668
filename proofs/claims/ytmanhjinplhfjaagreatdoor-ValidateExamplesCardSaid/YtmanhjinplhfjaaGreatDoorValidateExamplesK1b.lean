/-
  The engine's runs of pure calls, computed by the kernel (level 1).
-/
import Derived.Test.YtmanhjinplhfjaaGreatDoorValidateExamplesT0b
namespace Go.Proofs.YtmanhjinplhfjaaGreatDoor.validateExamples
theorem x80w0o0p0 : Eng.leads (@Eng.run _ (Eng.mxTab sp tab0) pol (Eng.planOf pol) Tryz.prog 100000) Tryz.f429.ntmps b80w0 5 T80w0o0p0 S80w0o0p0 T80w0o0p1 S80w0o0p1 = true := by kernel_rfl
theorem x77w0o0p1 : Eng.ends (@Eng.run _ (Eng.mxTab sp tab0) pol (Eng.planOf pol) Tryz.prog 100000) Tryz.f429.ntmps (.loop b77w0) T77w0o0p1 S77w0o0p1 r77w0o0 = true := by kernel_rfl
theorem x78w0o0p1 : Eng.ends (@Eng.run _ (Eng.mxTab sp tab0) pol (Eng.planOf pol) Tryz.prog 100000) Tryz.f429.ntmps (.loop b78w0) T78w0o0p1 S78w0o0p1 r78w0o0 = true := by kernel_rfl
theorem c0 : Eng.isV e0.2.2 (Eng.pureX (Eng.mxTab sp tab0) Tryz.prog pol 100000 e0.1 e0.2.1) = true := by kernel_rfl
theorem c230 : Eng.isV e230.2.2 (Eng.pureX (Eng.mxTab sp tab0) Tryz.prog pol 100000 e230.1 e230.2.1) = true := by kernel_rfl
theorem c212 : Eng.isV e212.2.2 (Eng.pureX (Eng.mxTab sp tab0) Tryz.prog pol 100000 e212.1 e212.2.1) = true := by kernel_rfl
theorem c236 : Eng.isV e236.2.2 (Eng.pureX (Eng.mxTab sp tab0) Tryz.prog pol 100000 e236.1 e236.2.1) = true := by kernel_rfl
theorem c194 : Eng.isV e194.2.2 (Eng.pureX (Eng.mxTab sp tab0) Tryz.prog pol 100000 e194.1 e194.2.1) = true := by kernel_rfl
theorem c85 : Eng.isV e85.2.2 (Eng.resP Tryz.prog Tryz.f429 (Eng.runP (@Eng.run _ (Eng.mxTab sp tab0) pol (Eng.planOf pol) Tryz.prog 100000) (Eng.lookL l85) Tryz.f429.ntmps 100000 b85 p85 (Eng.argsT e85.2.1 0) ⟨.lf, 0⟩)) = true := by kernel_rfl
theorem c325 : Eng.isV e325.2.2 (Eng.pureX (Eng.mxTab sp tab0) Tryz.prog pol 100000 e325.1 e325.2.1) = true := by kernel_rfl
theorem x1w0o0p3 : Eng.ends (@Eng.run _ (Eng.mxTab sp tab0) pol (Eng.planOf pol) Tryz.prog 100000) Tryz.f114.ntmps (.loop b1w0) T1w0o0p3 S1w0o0p3 r1w0o0 = true := by kernel_rfl
theorem c317 : Eng.isV e317.2.2 (Eng.pureX (Eng.mxTab sp tab0) Tryz.prog pol 100000 e317.1 e317.2.1) = true := by kernel_rfl
theorem c285 : Eng.isV e285.2.2 (Eng.pureX (Eng.mxTab sp tab0) Tryz.prog pol 100000 e285.1 e285.2.1) = true := by kernel_rfl
theorem c284 : Eng.isV e284.2.2 (Eng.pureX (Eng.mxTab sp tab0) Tryz.prog pol 100000 e284.1 e284.2.1) = true := by kernel_rfl
theorem c11 : Eng.isV e11.2.2 (Eng.pureX (Eng.mxTab sp tab0) Tryz.prog pol 100000 e11.1 e11.2.1) = true := by kernel_rfl
theorem c4 : Eng.isV e4.2.2 (Eng.pureX (Eng.mxTab sp tab0) Tryz.prog pol 100000 e4.1 e4.2.1) = true := by kernel_rfl
theorem c304 : Eng.isV e304.2.2 (Eng.pureX (Eng.mxTab sp tab0) Tryz.prog pol 100000 e304.1 e304.2.1) = true := by kernel_rfl
theorem c276 : Eng.isV e276.2.2 (Eng.pureX (Eng.mxTab sp tab0) Tryz.prog pol 100000 e276.1 e276.2.1) = true := by kernel_rfl
theorem c241 : Eng.isV e241.2.2 (Eng.pureX (Eng.mxTab sp tab0) Tryz.prog pol 100000 e241.1 e241.2.1) = true := by kernel_rfl
theorem c9 : Eng.isV e9.2.2 (Eng.pureX (Eng.mxTab sp tab0) Tryz.prog pol 100000 e9.1 e9.2.1) = true := by kernel_rfl
theorem c260 : Eng.isV e260.2.2 (Eng.pureX (Eng.mxTab sp tab0) Tryz.prog pol 100000 e260.1 e260.2.1) = true := by kernel_rfl
theorem c299 : Eng.isV e299.2.2 (Eng.pureX (Eng.mxTab sp tab0) Tryz.prog pol 100000 e299.1 e299.2.1) = true := by kernel_rfl
theorem c103 : Eng.isV e103.2.2 (Eng.pureX (Eng.mxTab sp tab0) Tryz.prog pol 100000 e103.1 e103.2.1) = true := by kernel_rfl
theorem c95 : Eng.isV e95.2.2 (Eng.pureX (Eng.mxTab sp tab0) Tryz.prog pol 100000 e95.1 e95.2.1) = true := by kernel_rfl
theorem c249 : Eng.isV e249.2.2 (Eng.pureX (Eng.mxTab sp tab0) Tryz.prog pol 100000 e249.1 e249.2.1) = true := by kernel_rfl
theorem c161 : Eng.isV e161.2.2 (Eng.pureX (Eng.mxTab sp tab0) Tryz.prog pol 100000 e161.1 e161.2.1) = true := by kernel_rfl

end Go.Proofs.YtmanhjinplhfjaaGreatDoor.validateExamples
