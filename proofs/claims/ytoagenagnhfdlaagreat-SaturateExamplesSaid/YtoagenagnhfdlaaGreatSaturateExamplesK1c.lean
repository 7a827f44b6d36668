/-
  What pure calls of the law return: the engine's runs of them, computed by the kernel (level 1).
-/
import Derived.Test.YtoagenagnhfdlaaGreatSaturateExamplesBase
namespace Go.Proofs.YtoagenagnhfdlaaGreat.saturateExamples

/-- fulling/rules.Axiom (13799 operations) -/
noncomputable def e14 : Eng.KE := (110, [.str ⟨#[108, 111, 97, 100, 45, 111, 116, 104, 101, 114]⟩], .tup [.agg [.str ⟨#[108, 111, 97, 100, 45, 111, 116, 104, 101, 114]⟩, .int .i64 0, .int .i64 23, .int .i64 0, .int .i64 1, .fs [.int .i64 0, .int .i64 28, .int .i64 0, .int .i64 2, .fs [.int .i64 1, .int .i64 0, .int .i64 0, .int .i64 0, .fs [] 0, .int .i64 2, .int .i64 0, .int .i64 0, .int .i64 0, .fs [] 0, .int .i64 3, .int .i64 0, .int .i64 0, .int .i64 0, .fs [] 0] 3, .int .i64 4, .int .i64 0, .int .i64 0, .int .i64 0, .fs [] 0] 2, .int .i64 0, .int .i64 23, .int .i64 0, .int .i64 1, .fs [.int .i64 1, .int .i64 0, .int .i64 0, .int .i64 0, .fs [] 0, .int .i64 4, .int .i64 0, .int .i64 0, .int .i64 0, .fs [] 0] 2, .fs [.int .i64 6, .int .i64 1, .int .i64 2, .int .i64 0] 1, .int .i64 4, .int .i64 2], .bool true])
theorem c14 : Eng.isV e14.2.2 (Eng.pureX (Eng.mxTab tn tab0) Tryz.prog pol 100000 e14.1 e14.2.1) = true := by kernel_rfl
theorem k14 : Eng.Known Tryz.prog e14 := Eng.known_of mixed (Eng.mxTab_ok tiny known0) noNum c14

/-- fulling/rules.Axiom (11150 operations) -/
noncomputable def e15 : Eng.KE := (110, [.str ⟨#[108, 111, 97, 100, 45, 110, 101, 101, 100]⟩], .tup [.agg [.str ⟨#[108, 111, 97, 100, 45, 110, 101, 101, 100]⟩, .int .i64 0, .int .i64 23, .int .i64 0, .int .i64 1, .fs [.int .i64 0, .int .i64 27, .int .i64 0, .int .i64 2, .fs [.int .i64 1, .int .i64 0, .int .i64 0, .int .i64 0, .fs [] 0, .int .i64 2, .int .i64 0, .int .i64 0, .int .i64 0, .fs [] 0] 2, .int .i64 3, .int .i64 0, .int .i64 0, .int .i64 0, .fs [] 0] 2, .int .i64 0, .int .i64 23, .int .i64 0, .int .i64 1, .fs [.int .i64 1, .int .i64 0, .int .i64 0, .int .i64 0, .fs [] 0, .int .i64 3, .int .i64 0, .int .i64 0, .int .i64 0, .fs [] 0] 2, .fs [] 0, .int .i64 3, .int .i64 2], .bool true])
theorem c15 : Eng.isV e15.2.2 (Eng.pureX (Eng.mxTab tn tab0) Tryz.prog pol 100000 e15.1 e15.2.1) = true := by kernel_rfl
theorem k15 : Eng.Known Tryz.prog e15 := Eng.known_of mixed (Eng.mxTab_ok tiny known0) noNum c15

/-- fulling/rules.Axiom (10740 operations) -/
noncomputable def e16 : Eng.KE := (110, [.str ⟨#[108, 111, 97, 100, 45, 111, 117, 116]⟩], .tup [.agg [.str ⟨#[108, 111, 97, 100, 45, 111, 117, 116]⟩, .int .i64 0, .int .i64 23, .int .i64 0, .int .i64 1, .fs [.int .i64 0, .int .i64 29, .int .i64 0, .int .i64 0, .fs [.int .i64 1, .int .i64 0, .int .i64 0, .int .i64 0, .fs [] 0, .int .i64 2, .int .i64 0, .int .i64 0, .int .i64 0, .fs [] 0] 2, .int .i64 3, .int .i64 0, .int .i64 0, .int .i64 0, .fs [] 0] 2, .int .i64 0, .int .i64 23, .int .i64 0, .int .i64 1, .fs [.int .i64 1, .int .i64 0, .int .i64 0, .int .i64 0, .fs [] 0, .int .i64 3, .int .i64 0, .int .i64 0, .int .i64 0, .fs [] 0] 2, .fs [] 0, .int .i64 3, .int .i64 1], .bool true])
theorem c16 : Eng.isV e16.2.2 (Eng.pureX (Eng.mxTab tn tab0) Tryz.prog pol 100000 e16.1 e16.2.1) = true := by kernel_rfl
theorem k16 : Eng.Known Tryz.prog e16 := Eng.known_of mixed (Eng.mxTab_ok tiny known0) noNum c16

/-- fulling/rules.Axiom (13748 operations) -/
noncomputable def e17 : Eng.KE := (110, [.str ⟨#[115, 116, 111, 114, 101, 45, 115, 116, 111, 114, 101]⟩], .tup [.agg [.str ⟨#[115, 116, 111, 114, 101, 45, 115, 116, 111, 114, 101]⟩, .int .i64 0, .int .i64 28, .int .i64 0, .int .i64 1, .fs [.int .i64 0, .int .i64 28, .int .i64 0, .int .i64 1, .fs [.int .i64 1, .int .i64 0, .int .i64 0, .int .i64 0, .fs [] 0, .int .i64 2, .int .i64 0, .int .i64 0, .int .i64 0, .fs [] 0, .int .i64 3, .int .i64 0, .int .i64 0, .int .i64 0, .fs [] 0] 3, .int .i64 2, .int .i64 0, .int .i64 0, .int .i64 0, .fs [] 0, .int .i64 4, .int .i64 0, .int .i64 0, .int .i64 0, .fs [] 0] 3, .int .i64 0, .int .i64 28, .int .i64 0, .int .i64 1, .fs [.int .i64 1, .int .i64 0, .int .i64 0, .int .i64 0, .fs [] 0, .int .i64 2, .int .i64 0, .int .i64 0, .int .i64 0, .fs [] 0, .int .i64 4, .int .i64 0, .int .i64 0, .int .i64 0, .fs [] 0] 3, .fs [] 0, .int .i64 4, .int .i64 1], .bool true])
theorem c17 : Eng.isV e17.2.2 (Eng.pureX (Eng.mxTab tn tab0) Tryz.prog pol 100000 e17.1 e17.2.1) = true := by kernel_rfl
theorem k17 : Eng.Known Tryz.prog e17 := Eng.known_of mixed (Eng.mxTab_ok tiny known0) noNum c17

end Go.Proofs.YtoagenagnhfdlaaGreat.saturateExamples
