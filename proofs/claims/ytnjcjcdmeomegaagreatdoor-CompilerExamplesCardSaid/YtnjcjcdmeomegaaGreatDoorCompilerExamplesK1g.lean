/-
  The engine's runs of pure calls, computed by the kernel (level 1).
-/
import Derived.Test.YtnjcjcdmeomegaaGreatDoorCompilerExamplesT0
namespace Go.Proofs.YtnjcjcdmeomegaaGreatDoor.compilerExamples
theorem c56 : Eng.isV e56.2.2 (Eng.pureX (Eng.mxTab sp tab0) Tryz.prog pol 100000 e56.1 e56.2.1) = true := by kernel_rfl
theorem c24 : Eng.isV e24.2.2 (Eng.pureX (Eng.mxTab sp tab0) Tryz.prog pol 100000 e24.1 e24.2.1) = true := by kernel_rfl
theorem c1 : Eng.isV e1.2.2 (Eng.pureX (Eng.mxTab sp tab0) Tryz.prog pol 100000 e1.1 e1.2.1) = true := by kernel_rfl
theorem c0 : Eng.isV e0.2.2 (Eng.pureX (Eng.mxTab sp tab0) Tryz.prog pol 100000 e0.1 e0.2.1) = true := by kernel_rfl
theorem c62 : Eng.isV e62.2.2 (Eng.resP Tryz.prog Tryz.f197 (Eng.runP (@Eng.run _ (Eng.mxTab sp tab0) pol (Eng.planOf pol) Tryz.prog 100000) (Eng.lookL l62) Tryz.f197.ntmps 100000 b62 p62 (Eng.argsT e62.2.1 0) ⟨.lf, 0⟩)) = true := by kernel_rfl
theorem c50 : Eng.isV e50.2.2 (Eng.pureX (Eng.mxTab sp tab0) Tryz.prog pol 100000 e50.1 e50.2.1) = true := by kernel_rfl

end Go.Proofs.YtnjcjcdmeomegaaGreatDoor.compilerExamples
