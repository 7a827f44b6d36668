/-
  The engine's runs of pure calls, computed by the kernel (level 1).
-/
import Derived.Test.YtnjcjcdmeomegaaGreatDoorCompilerExamplesT0
namespace Go.Proofs.YtnjcjcdmeomegaaGreatDoor.compilerExamples
theorem x62w0o0p0 : Eng.leads (@Eng.run _ (Eng.mxTab sp tab0) pol (Eng.planOf pol) Tryz.prog 100000) Tryz.f197.ntmps b62w0 31 T62w0o0p0 S62w0o0p0 T62w0o0p1 S62w0o0p1 = true := by kernel_rfl
theorem c44 : Eng.isV e44.2.2 (Eng.pureX (Eng.mxTab sp tab0) Tryz.prog pol 100000 e44.1 e44.2.1) = true := by kernel_rfl
theorem c6 : Eng.isV e6.2.2 (Eng.pureX (Eng.mxTab sp tab0) Tryz.prog pol 100000 e6.1 e6.2.1) = true := by kernel_rfl

end Go.Proofs.YtnjcjcdmeomegaaGreatDoor.compilerExamples
