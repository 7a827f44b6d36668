/-
  What pure calls of the law return: the engine's runs of them, computed by the kernel (level 2).
-/
import Derived.Test.YtoagenagnhfdlaaGreatSaturateExamplesT1
namespace Go.Proofs.YtoagenagnhfdlaaGreat.saturateExamples

/-- fulling/discharge.ProveAll (3156 operations) -/
noncomputable def e27 : Eng.KE := (21, [.fs [.str ⟨#[122]⟩, .int .i64 0, .int .i64 4, .int .i64 0, .int .i64 0, .fs [.int .i64 1, .int .i64 0, .int .i64 0, .int .i64 0, .fs [] 0, .int .i64 0, .int .i64 1, .int .i64 0, .int .i64 0, .fs [] 0] 2, .int .i64 1, .int .i64 0, .int .i64 0, .int .i64 0, .fs [] 0, .fs [] 0, .int .i64 1, .int .i64 0] 1], .tup [.fs [.int .i64 1, .fs [.fs [.int .i64 1] 1, .int .u64 1] 1, .fs [] 0, .str ⟨#[]⟩] 1, .int .i64 0, .int .i64 0])
theorem c27 : Eng.isV e27.2.2 (Eng.pureX (Eng.mxTab tn tab1) Tryz.prog pol 100000 e27.1 e27.2.1) = true := by kernel_rfl
theorem k27 : Eng.Known Tryz.prog e27 := Eng.known_of mixed (Eng.mxTab_ok tiny known1) noNum c27

end Go.Proofs.YtoagenagnhfdlaaGreat.saturateExamples
