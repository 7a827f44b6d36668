/-
  The engine's runs of pure calls, computed by the kernel (level 1).
-/
import Derived.Test.YtnjcjcdmeomegaaGreatDoorCompilerExamplesT0
namespace Go.Proofs.YtnjcjcdmeomegaaGreatDoor.compilerExamples
theorem x62w0o0p1 : Eng.ends (@Eng.run _ (Eng.mxTab sp tab0) pol (Eng.planOf pol) Tryz.prog 100000) Tryz.f197.ntmps (.loop b62w0) T62w0o0p1 S62w0o0p1 r62w0o0 = true := by kernel_rfl
theorem c40 : Eng.isV e40.2.2 (Eng.pureX (Eng.mxTab sp tab0) Tryz.prog pol 100000 e40.1 e40.2.1) = true := by kernel_rfl
theorem c10 : Eng.isV e10.2.2 (Eng.pureX (Eng.mxTab sp tab0) Tryz.prog pol 100000 e10.1 e10.2.1) = true := by kernel_rfl

end Go.Proofs.YtnjcjcdmeomegaaGreatDoor.compilerExamples
