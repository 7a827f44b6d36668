/-
  What pure calls of the law return: the engine's runs of them, computed by the kernel (level 3).
-/
import Derived.Test.YtoagenagnhfdlaaGreatSaturateExamplesT2
namespace Go.Proofs.YtoagenagnhfdlaaGreat.saturateExamples

/-- fulling/saturate.Run (23981 operations) -/
noncomputable def e28 : Eng.KE := (7, [.agg [.fs [] 0, .fs [.str ⟨#[102]⟩, .int .i64 1, .fs [.int .i64 26, .int .i64 0, .fs [] 0, .int .i64 2, .int .i64 0, .fs [] 0, .int .i64 1, .int .i64 0, .fs [] 0, .int .i64 4, .int .i64 0, .fs [.int .i64 1, .int .i64 2] 2] 4, .int .i64 3, .int .i64 0] 1], .int .i64 0, .fs [.str ⟨#[122]⟩, .int .i64 0, .int .i64 4, .int .i64 0, .int .i64 0, .fs [.int .i64 1, .int .i64 0, .int .i64 0, .int .i64 0, .fs [] 0, .int .i64 0, .int .i64 1, .int .i64 0, .int .i64 0, .fs [] 0] 2, .int .i64 1, .int .i64 0, .int .i64 0, .int .i64 0, .fs [] 0, .fs [] 0, .int .i64 1, .int .i64 0] 1, .agg [.int .i64 5, .int .i64 20, .int .i64 9]], .tup [.agg [.fs [.int .i64 26, .int .i64 0, .fs [] 0, .int .i64 2, .int .i64 0, .fs [] 0, .int .i64 1, .int .i64 0, .fs [] 0, .int .i64 4, .int .i64 0, .fs [.int .i64 1, .int .i64 2] 2] 4, .fs [.int .i64 3, .int .i64 1, .int .i64 1, .fs [.int .i64 1] 1, .fs [] 0] 1, .fs [] 0, .int .i64 3, .int .i64 0, .int .i64 2, .int .i64 1], .int .i64 0])
theorem c28 : Eng.isV e28.2.2 (Eng.pureX (Eng.mxTab tn tab2) Tryz.prog pol 100000 e28.1 e28.2.1) = true := by kernel_rfl
theorem k28 : Eng.Known Tryz.prog e28 := Eng.known_of mixed (Eng.mxTab_ok tiny known2) noNum c28

end Go.Proofs.YtoagenagnhfdlaaGreat.saturateExamples
