/-
  What pure calls of the law return: the engine's runs of them, computed by the kernel (level 1).
-/
import Derived.Test.YtoagenagnhfdlaaGreatSaturateExamplesBase
namespace Go.Proofs.YtoagenagnhfdlaaGreat.saturateExamples

/-- fulling/rules.Axiom (8999 operations) -/
noncomputable def e22 : Eng.KE := (110, [.str ⟨#[114, 101, 116, 45, 110, 101, 101, 100]⟩], .tup [.agg [.str ⟨#[114, 101, 116, 45, 110, 101, 101, 100]⟩, .int .i64 0, .int .i64 24, .int .i64 0, .int .i64 0, .fs [.int .i64 0, .int .i64 27, .int .i64 0, .int .i64 1, .fs [.int .i64 1, .int .i64 0, .int .i64 0, .int .i64 0, .fs [] 0, .int .i64 2, .int .i64 0, .int .i64 0, .int .i64 0, .fs [] 0] 2] 1, .int .i64 0, .int .i64 24, .int .i64 0, .int .i64 0, .fs [.int .i64 1, .int .i64 0, .int .i64 0, .int .i64 0, .fs [] 0] 1, .fs [] 0, .int .i64 2, .int .i64 1], .bool true])
theorem c22 : Eng.isV e22.2.2 (Eng.pureX (Eng.mxTab tn tab0) Tryz.prog pol 100000 e22.1 e22.2.1) = true := by kernel_rfl
theorem k22 : Eng.Known Tryz.prog e22 := Eng.known_of mixed (Eng.mxTab_ok tiny known0) noNum c22

/-- fulling/rules.Axiom (8600 operations) -/
noncomputable def e23 : Eng.KE := (110, [.str ⟨#[114, 101, 116, 45, 111, 117, 116]⟩], .tup [.agg [.str ⟨#[114, 101, 116, 45, 111, 117, 116]⟩, .int .i64 0, .int .i64 24, .int .i64 0, .int .i64 0, .fs [.int .i64 0, .int .i64 29, .int .i64 0, .int .i64 0, .fs [.int .i64 1, .int .i64 0, .int .i64 0, .int .i64 0, .fs [] 0, .int .i64 2, .int .i64 0, .int .i64 0, .int .i64 0, .fs [] 0] 2] 1, .int .i64 0, .int .i64 24, .int .i64 0, .int .i64 0, .fs [.int .i64 1, .int .i64 0, .int .i64 0, .int .i64 0, .fs [] 0] 1, .fs [] 0, .int .i64 2, .int .i64 0], .bool true])
theorem c23 : Eng.isV e23.2.2 (Eng.pureX (Eng.mxTab tn tab0) Tryz.prog pol 100000 e23.1 e23.2.1) = true := by kernel_rfl
theorem k23 : Eng.Known Tryz.prog e23 := Eng.known_of mixed (Eng.mxTab_ok tiny known0) noNum c23

/-- fulling/rules.Axiom (9891 operations) -/
noncomputable def e24 : Eng.KE := (110, [.str ⟨#[114, 101, 116, 45, 115, 116, 111, 114, 101]⟩], .tup [.agg [.str ⟨#[114, 101, 116, 45, 115, 116, 111, 114, 101]⟩, .int .i64 0, .int .i64 24, .int .i64 0, .int .i64 0, .fs [.int .i64 0, .int .i64 28, .int .i64 0, .int .i64 1, .fs [.int .i64 1, .int .i64 0, .int .i64 0, .int .i64 0, .fs [] 0, .int .i64 2, .int .i64 0, .int .i64 0, .int .i64 0, .fs [] 0, .int .i64 3, .int .i64 0, .int .i64 0, .int .i64 0, .fs [] 0] 3] 1, .int .i64 0, .int .i64 24, .int .i64 0, .int .i64 0, .fs [.int .i64 1, .int .i64 0, .int .i64 0, .int .i64 0, .fs [] 0] 1, .fs [] 0, .int .i64 3, .int .i64 1], .bool true])
theorem c24 : Eng.isV e24.2.2 (Eng.pureX (Eng.mxTab tn tab0) Tryz.prog pol 100000 e24.1 e24.2.1) = true := by kernel_rfl
theorem k24 : Eng.Known Tryz.prog e24 := Eng.known_of mixed (Eng.mxTab_ok tiny known0) noNum c24

/-- fulling/polynomial.Normalize (815 operations) -/
noncomputable def e25 : Eng.KE := (178, [.agg [.int .i64 0, .int .i64 4, .int .i64 0, .int .i64 0, .fs [.int .i64 1, .int .i64 0, .int .i64 0, .int .i64 0, .fs [] 0, .int .i64 0, .int .i64 1, .int .i64 0, .int .i64 0, .fs [] 0] 2], .int .i64 1], .tup [.fs [.fs [.int .i64 1] 1, .int .u64 1] 1, .bool true])
theorem c25 : Eng.isV e25.2.2 (Eng.pureX (Eng.mxTab tn tab0) Tryz.prog pol 100000 e25.1 e25.2.1) = true := by kernel_rfl
theorem k25 : Eng.Known Tryz.prog e25 := Eng.known_of mixed (Eng.mxTab_ok tiny known0) noNum c25

/-- fulling/polynomial.Normalize (240 operations) -/
noncomputable def e26 : Eng.KE := (178, [.agg [.int .i64 1, .int .i64 0, .int .i64 0, .int .i64 0, .fs [] 0], .int .i64 1], .tup [.fs [.fs [.int .i64 1] 1, .int .u64 1] 1, .bool true])
theorem c26 : Eng.isV e26.2.2 (Eng.pureX (Eng.mxTab tn tab0) Tryz.prog pol 100000 e26.1 e26.2.1) = true := by kernel_rfl
theorem k26 : Eng.Known Tryz.prog e26 := Eng.known_of mixed (Eng.mxTab_ok tiny known0) noNum c26

/-- fulling/saturate.Run (3025 operations) -/
noncomputable def e29 : Eng.KE := (7, [.agg [.fs [] 0, .fs [.str ⟨#[102]⟩, .int .i64 1, .fs [.int .i64 26, .int .i64 0, .fs [] 0, .int .i64 2, .int .i64 0, .fs [] 0, .int .i64 1, .int .i64 0, .fs [] 0, .int .i64 4, .int .i64 0, .fs [.int .i64 1, .int .i64 2] 2] 4, .int .i64 3, .int .i64 0] 1], .int .i64 1, .fs [.str ⟨#[122]⟩, .int .i64 0, .int .i64 4, .int .i64 0, .int .i64 0, .fs [.int .i64 1, .int .i64 0, .int .i64 0, .int .i64 0, .fs [] 0, .int .i64 0, .int .i64 1, .int .i64 0, .int .i64 0, .fs [] 0] 2, .int .i64 1, .int .i64 0, .int .i64 0, .int .i64 0, .fs [] 0, .fs [] 0, .int .i64 1, .int .i64 0] 1, .agg [.int .i64 5, .int .i64 20, .int .i64 9]], .tup [.agg [.fs [] 0, .fs [] 0, .fs [] 0, .int .i64 0, .int .i64 0, .int .i64 0, .int .i64 0], .int .i64 1])
theorem c29 : Eng.isV e29.2.2 (Eng.pureX (Eng.mxTab tn tab0) Tryz.prog pol 100000 e29.1 e29.2.1) = true := by kernel_rfl
theorem k29 : Eng.Known Tryz.prog e29 := Eng.known_of mixed (Eng.mxTab_ok tiny known0) noNum c29

end Go.Proofs.YtoagenagnhfdlaaGreat.saturateExamples
