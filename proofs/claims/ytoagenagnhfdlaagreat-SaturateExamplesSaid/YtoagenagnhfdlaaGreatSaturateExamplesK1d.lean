/-
  What pure calls of the law return: the engine's runs of them, computed by the kernel (level 1).
-/
import Derived.Test.YtoagenagnhfdlaaGreatSaturateExamplesBase
namespace Go.Proofs.YtoagenagnhfdlaaGreat.saturateExamples

/-- fulling/rules.Axiom (18842 operations) -/
noncomputable def e18 : Eng.KE := (110, [.str ⟨#[115, 116, 111, 114, 101, 45, 115, 119, 97, 112]⟩], .tup [.agg [.str ⟨#[115, 116, 111, 114, 101, 45, 115, 119, 97, 112]⟩, .int .i64 0, .int .i64 28, .int .i64 0, .int .i64 1, .fs [.int .i64 0, .int .i64 28, .int .i64 0, .int .i64 1, .fs [.int .i64 1, .int .i64 0, .int .i64 0, .int .i64 0, .fs [] 0, .int .i64 2, .int .i64 0, .int .i64 0, .int .i64 0, .fs [] 0, .int .i64 3, .int .i64 0, .int .i64 0, .int .i64 0, .fs [] 0] 3, .int .i64 4, .int .i64 0, .int .i64 0, .int .i64 0, .fs [] 0, .int .i64 5, .int .i64 0, .int .i64 0, .int .i64 0, .fs [] 0] 3, .int .i64 0, .int .i64 28, .int .i64 0, .int .i64 1, .fs [.int .i64 0, .int .i64 28, .int .i64 0, .int .i64 1, .fs [.int .i64 1, .int .i64 0, .int .i64 0, .int .i64 0, .fs [] 0, .int .i64 4, .int .i64 0, .int .i64 0, .int .i64 0, .fs [] 0, .int .i64 5, .int .i64 0, .int .i64 0, .int .i64 0, .fs [] 0] 3, .int .i64 2, .int .i64 0, .int .i64 0, .int .i64 0, .fs [] 0, .int .i64 3, .int .i64 0, .int .i64 0, .int .i64 0, .fs [] 0] 3, .fs [.int .i64 4, .int .i64 2, .int .i64 4, .int .i64 0] 1, .int .i64 5, .int .i64 1], .bool true])
theorem c18 : Eng.isV e18.2.2 (Eng.pureX (Eng.mxTab tn tab0) Tryz.prog pol 100000 e18.1 e18.2.1) = true := by kernel_rfl
theorem k18 : Eng.Known Tryz.prog e18 := Eng.known_of mixed (Eng.mxTab_ok tiny known0) noNum c18

/-- fulling/rules.Axiom (9601 operations) -/
noncomputable def e19 : Eng.KE := (110, [.str ⟨#[115, 116, 111, 114, 101, 45, 108, 111, 97, 100]⟩], .tup [.agg [.str ⟨#[115, 116, 111, 114, 101, 45, 108, 111, 97, 100]⟩, .int .i64 0, .int .i64 28, .int .i64 0, .int .i64 1, .fs [.int .i64 1, .int .i64 0, .int .i64 0, .int .i64 0, .fs [] 0, .int .i64 2, .int .i64 0, .int .i64 0, .int .i64 0, .fs [] 0, .int .i64 0, .int .i64 23, .int .i64 0, .int .i64 1, .fs [.int .i64 1, .int .i64 0, .int .i64 0, .int .i64 0, .fs [] 0, .int .i64 2, .int .i64 0, .int .i64 0, .int .i64 0, .fs [] 0] 2] 3, .int .i64 1, .int .i64 0, .int .i64 0, .int .i64 0, .fs [] 0, .fs [] 0, .int .i64 2, .int .i64 1], .bool true])
theorem c19 : Eng.isV e19.2.2 (Eng.pureX (Eng.mxTab tn tab0) Tryz.prog pol 100000 e19.1 e19.2.1) = true := by kernel_rfl
theorem k19 : Eng.Known Tryz.prog e19 := Eng.known_of mixed (Eng.mxTab_ok tiny known0) noNum c19

/-- fulling/rules.Axiom (15410 operations) -/
noncomputable def e20 : Eng.KE := (110, [.str ⟨#[115, 116, 111, 114, 101, 45, 110, 101, 101, 100]⟩], .tup [.agg [.str ⟨#[115, 116, 111, 114, 101, 45, 110, 101, 101, 100]⟩, .int .i64 0, .int .i64 27, .int .i64 0, .int .i64 1, .fs [.int .i64 0, .int .i64 28, .int .i64 0, .int .i64 2, .fs [.int .i64 1, .int .i64 0, .int .i64 0, .int .i64 0, .fs [] 0, .int .i64 2, .int .i64 0, .int .i64 0, .int .i64 0, .fs [] 0, .int .i64 3, .int .i64 0, .int .i64 0, .int .i64 0, .fs [] 0] 3, .int .i64 4, .int .i64 0, .int .i64 0, .int .i64 0, .fs [] 0] 2, .int .i64 0, .int .i64 28, .int .i64 0, .int .i64 2, .fs [.int .i64 0, .int .i64 27, .int .i64 0, .int .i64 1, .fs [.int .i64 1, .int .i64 0, .int .i64 0, .int .i64 0, .fs [] 0, .int .i64 4, .int .i64 0, .int .i64 0, .int .i64 0, .fs [] 0] 2, .int .i64 2, .int .i64 0, .int .i64 0, .int .i64 0, .fs [] 0, .int .i64 3, .int .i64 0, .int .i64 0, .int .i64 0, .fs [] 0] 3, .fs [] 0, .int .i64 4, .int .i64 2], .bool true])
theorem c20 : Eng.isV e20.2.2 (Eng.pureX (Eng.mxTab tn tab0) Tryz.prog pol 100000 e20.1 e20.2.1) = true := by kernel_rfl
theorem k20 : Eng.Known Tryz.prog e20 := Eng.known_of mixed (Eng.mxTab_ok tiny known0) noNum c20

/-- fulling/rules.Axiom (14686 operations) -/
noncomputable def e21 : Eng.KE := (110, [.str ⟨#[115, 116, 111, 114, 101, 45, 111, 117, 116]⟩], .tup [.agg [.str ⟨#[115, 116, 111, 114, 101, 45, 111, 117, 116]⟩, .int .i64 0, .int .i64 29, .int .i64 0, .int .i64 0, .fs [.int .i64 0, .int .i64 28, .int .i64 0, .int .i64 1, .fs [.int .i64 1, .int .i64 0, .int .i64 0, .int .i64 0, .fs [] 0, .int .i64 2, .int .i64 0, .int .i64 0, .int .i64 0, .fs [] 0, .int .i64 3, .int .i64 0, .int .i64 0, .int .i64 0, .fs [] 0] 3, .int .i64 4, .int .i64 0, .int .i64 0, .int .i64 0, .fs [] 0] 2, .int .i64 0, .int .i64 28, .int .i64 0, .int .i64 1, .fs [.int .i64 0, .int .i64 29, .int .i64 0, .int .i64 0, .fs [.int .i64 1, .int .i64 0, .int .i64 0, .int .i64 0, .fs [] 0, .int .i64 4, .int .i64 0, .int .i64 0, .int .i64 0, .fs [] 0] 2, .int .i64 2, .int .i64 0, .int .i64 0, .int .i64 0, .fs [] 0, .int .i64 3, .int .i64 0, .int .i64 0, .int .i64 0, .fs [] 0] 3, .fs [] 0, .int .i64 4, .int .i64 1], .bool true])
theorem c21 : Eng.isV e21.2.2 (Eng.pureX (Eng.mxTab tn tab0) Tryz.prog pol 100000 e21.1 e21.2.1) = true := by kernel_rfl
theorem k21 : Eng.Known Tryz.prog e21 := Eng.known_of mixed (Eng.mxTab_ok tiny known0) noNum c21

end Go.Proofs.YtoagenagnhfdlaaGreat.saturateExamples
