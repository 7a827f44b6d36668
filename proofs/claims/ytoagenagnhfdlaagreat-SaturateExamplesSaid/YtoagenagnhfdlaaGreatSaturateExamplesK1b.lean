/-
  What pure calls of the law return: the engine's runs of them, computed by the kernel (level 1).
-/
import Derived.Test.YtoagenagnhfdlaaGreatSaturateExamplesBase
namespace Go.Proofs.YtoagenagnhfdlaaGreat.saturateExamples

/-- fulling/rules.Axiom (12926 operations) -/
noncomputable def e9 : Eng.KE := (110, [.str ⟨#[114, 101, 109, 45, 100, 105, 118]⟩], .tup [.agg [.str ⟨#[114, 101, 109, 45, 100, 105, 118]⟩, .int .i64 0, .int .i64 8, .int .i64 0, .int .i64 0, .fs [.int .i64 1, .int .i64 0, .int .i64 0, .int .i64 0, .fs [] 0, .int .i64 2, .int .i64 0, .int .i64 0, .int .i64 0, .fs [] 0] 2, .int .i64 0, .int .i64 5, .int .i64 0, .int .i64 0, .fs [.int .i64 1, .int .i64 0, .int .i64 0, .int .i64 0, .fs [] 0, .int .i64 0, .int .i64 6, .int .i64 0, .int .i64 0, .fs [.int .i64 0, .int .i64 7, .int .i64 0, .int .i64 0, .fs [.int .i64 1, .int .i64 0, .int .i64 0, .int .i64 0, .fs [] 0, .int .i64 2, .int .i64 0, .int .i64 0, .int .i64 0, .fs [] 0] 2, .int .i64 2, .int .i64 0, .int .i64 0, .int .i64 0, .fs [] 0] 2] 2, .fs [.int .i64 1, .int .i64 2, .int .i64 0, .int .i64 0] 1, .int .i64 2, .int .i64 0], .bool true])
theorem c9 : Eng.isV e9.2.2 (Eng.pureX (Eng.mxTab tn tab0) Tryz.prog pol 100000 e9.1 e9.2.1) = true := by kernel_rfl
theorem k9 : Eng.Known Tryz.prog e9 := Eng.known_of mixed (Eng.mxTab_ok tiny known0) noNum c9

/-- fulling/rules.Axiom (7907 operations) -/
noncomputable def e10 : Eng.KE := (110, [.str ⟨#[110, 101, 101, 100, 45, 116, 114, 117, 101]⟩], .tup [.agg [.str ⟨#[110, 101, 101, 100, 45, 116, 114, 117, 101]⟩, .int .i64 0, .int .i64 27, .int .i64 0, .int .i64 1, .fs [.int .i64 1, .int .i64 0, .int .i64 0, .int .i64 0, .fs [] 0, .int .i64 2, .int .i64 0, .int .i64 0, .int .i64 0, .fs [] 0] 2, .int .i64 1, .int .i64 0, .int .i64 0, .int .i64 0, .fs [] 0, .fs [.int .i64 1, .int .i64 2, .int .i64 0, .int .i64 0] 1, .int .i64 2, .int .i64 1], .bool true])
theorem c10 : Eng.isV e10.2.2 (Eng.pureX (Eng.mxTab tn tab0) Tryz.prog pol 100000 e10.1 e10.2.1) = true := by kernel_rfl
theorem k10 : Eng.Known Tryz.prog e10 := Eng.known_of mixed (Eng.mxTab_ok tiny known0) noNum c10

/-- fulling/rules.Axiom (11247 operations) -/
noncomputable def e11 : Eng.KE := (110, [.str ⟨#[110, 101, 101, 100, 45, 116, 119, 105, 99, 101]⟩], .tup [.agg [.str ⟨#[110, 101, 101, 100, 45, 116, 119, 105, 99, 101]⟩, .int .i64 0, .int .i64 27, .int .i64 0, .int .i64 1, .fs [.int .i64 0, .int .i64 27, .int .i64 0, .int .i64 1, .fs [.int .i64 1, .int .i64 0, .int .i64 0, .int .i64 0, .fs [] 0, .int .i64 2, .int .i64 0, .int .i64 0, .int .i64 0, .fs [] 0] 2, .int .i64 2, .int .i64 0, .int .i64 0, .int .i64 0, .fs [] 0] 2, .int .i64 0, .int .i64 27, .int .i64 0, .int .i64 1, .fs [.int .i64 1, .int .i64 0, .int .i64 0, .int .i64 0, .fs [] 0, .int .i64 2, .int .i64 0, .int .i64 0, .int .i64 0, .fs [] 0] 2, .fs [] 0, .int .i64 2, .int .i64 1], .bool true])
theorem c11 : Eng.isV e11.2.2 (Eng.pureX (Eng.mxTab tn tab0) Tryz.prog pol 100000 e11.1 e11.2.1) = true := by kernel_rfl
theorem k11 : Eng.Known Tryz.prog e11 := Eng.known_of mixed (Eng.mxTab_ok tiny known0) noNum c11

/-- fulling/rules.Axiom (11436 operations) -/
noncomputable def e12 : Eng.KE := (110, [.str ⟨#[108, 111, 97, 100, 45, 115, 116, 111, 114, 101]⟩], .tup [.agg [.str ⟨#[108, 111, 97, 100, 45, 115, 116, 111, 114, 101]⟩, .int .i64 0, .int .i64 23, .int .i64 0, .int .i64 1, .fs [.int .i64 0, .int .i64 28, .int .i64 0, .int .i64 1, .fs [.int .i64 1, .int .i64 0, .int .i64 0, .int .i64 0, .fs [] 0, .int .i64 2, .int .i64 0, .int .i64 0, .int .i64 0, .fs [] 0, .int .i64 3, .int .i64 0, .int .i64 0, .int .i64 0, .fs [] 0] 3, .int .i64 2, .int .i64 0, .int .i64 0, .int .i64 0, .fs [] 0] 2, .int .i64 3, .int .i64 0, .int .i64 0, .int .i64 0, .fs [] 0, .fs [.int .i64 5, .int .i64 2, .int .i64 1, .int .i64 0] 1, .int .i64 3, .int .i64 1], .bool true])
theorem c12 : Eng.isV e12.2.2 (Eng.pureX (Eng.mxTab tn tab0) Tryz.prog pol 100000 e12.1 e12.2.1) = true := by kernel_rfl
theorem k12 : Eng.Known Tryz.prog e12 := Eng.known_of mixed (Eng.mxTab_ok tiny known0) noNum c12

/-- fulling/rules.Axiom (13902 operations) -/
noncomputable def e13 : Eng.KE := (110, [.str ⟨#[108, 111, 97, 100, 45, 97, 112, 97, 114, 116]⟩], .tup [.agg [.str ⟨#[108, 111, 97, 100, 45, 97, 112, 97, 114, 116]⟩, .int .i64 0, .int .i64 23, .int .i64 0, .int .i64 1, .fs [.int .i64 0, .int .i64 28, .int .i64 0, .int .i64 1, .fs [.int .i64 1, .int .i64 0, .int .i64 0, .int .i64 0, .fs [] 0, .int .i64 2, .int .i64 0, .int .i64 0, .int .i64 0, .fs [] 0, .int .i64 3, .int .i64 0, .int .i64 0, .int .i64 0, .fs [] 0] 3, .int .i64 4, .int .i64 0, .int .i64 0, .int .i64 0, .fs [] 0] 2, .int .i64 0, .int .i64 23, .int .i64 0, .int .i64 1, .fs [.int .i64 1, .int .i64 0, .int .i64 0, .int .i64 0, .fs [] 0, .int .i64 4, .int .i64 0, .int .i64 0, .int .i64 0, .fs [] 0] 2, .fs [.int .i64 4, .int .i64 2, .int .i64 4, .int .i64 0] 1, .int .i64 4, .int .i64 1], .bool true])
theorem c13 : Eng.isV e13.2.2 (Eng.pureX (Eng.mxTab tn tab0) Tryz.prog pol 100000 e13.1 e13.2.1) = true := by kernel_rfl
theorem k13 : Eng.Known Tryz.prog e13 := Eng.known_of mixed (Eng.mxTab_ok tiny known0) noNum c13

end Go.Proofs.YtoagenagnhfdlaaGreat.saturateExamples
