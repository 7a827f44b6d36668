/-
  What pure calls of the law return: the engine's runs of them, computed by the kernel (level 1).
-/
import Derived.Test.YtoagenagnhfdlaaGreatSaturateExamplesBase
namespace Go.Proofs.YtoagenagnhfdlaaGreat.saturateExamples

/-- fulling/fullingref3.Parse (8154 operations) -/
noncomputable def e0 : Eng.KE := (4, [.str ⟨#[102, 117, 110, 99, 32, 102, 40, 120, 41, 32, 123, 32, 114, 101, 116, 117, 114, 110, 32, 120, 32, 43, 32, 48, 59, 32, 125]⟩], .tup [.agg [.fs [] 0, .fs [.str ⟨#[102]⟩, .fs [.str ⟨#[120]⟩] 1, .fs [] 0, .fs [] 0, .int .i64 4, .int .i64 0, .str ⟨#[]⟩, .int .i64 4, .fs [.int .i64 2, .int .i64 0, .str ⟨#[120]⟩, .int .i64 0, .fs [] 0, .int .i64 1, .int .i64 0, .str ⟨#[]⟩, .int .i64 0, .fs [] 0] 2] 1], .agg [.int .i64 0, .int .i64 0]])
theorem c0 : Eng.isV e0.2.2 (Eng.pureX (Eng.mxTab tn tab0) Tryz.prog pol 100000 e0.1 e0.2.1) = true := by kernel_rfl
theorem k0 : Eng.Known Tryz.prog e0 := Eng.known_of mixed (Eng.mxTab_ok tiny known0) noNum c0

/-- fulling/fullingref7.Lower (1875 operations) -/
noncomputable def e1 : Eng.KE := (5, [.agg [.fs [] 0, .fs [.str ⟨#[102]⟩, .fs [.str ⟨#[120]⟩] 1, .fs [] 0, .fs [] 0, .int .i64 4, .int .i64 0, .str ⟨#[]⟩, .int .i64 4, .fs [.int .i64 2, .int .i64 0, .str ⟨#[120]⟩, .int .i64 0, .fs [] 0, .int .i64 1, .int .i64 0, .str ⟨#[]⟩, .int .i64 0, .fs [] 0] 2] 1]], .tup [.agg [.fs [] 0, .fs [.str ⟨#[102]⟩, .int .i64 1, .fs [.int .i64 26, .int .i64 0, .fs [] 0, .int .i64 2, .int .i64 0, .fs [] 0, .int .i64 1, .int .i64 0, .fs [] 0, .int .i64 4, .int .i64 0, .fs [.int .i64 1, .int .i64 2] 2] 4, .int .i64 3, .int .i64 0] 1], .int .i64 0])
theorem c1 : Eng.isV e1.2.2 (Eng.pureX (Eng.mxTab tn tab0) Tryz.prog pol 100000 e1.1 e1.2.1) = true := by kernel_rfl
theorem k1 : Eng.Known Tryz.prog e1 := Eng.known_of mixed (Eng.mxTab_ok tiny known0) noNum c1

/-- fulling/fullingref15.Parse (4277 operations) -/
noncomputable def e2 : Eng.KE := (6, [.str ⟨#[114, 117, 108, 101, 32, 122, 58, 32, 40, 97, 100, 100, 32, 63, 97, 32, 48, 41, 32, 61, 62, 32, 63, 97, 59]⟩], .tup [.fs [.str ⟨#[122]⟩, .int .i64 0, .int .i64 4, .int .i64 0, .int .i64 0, .fs [.int .i64 1, .int .i64 0, .int .i64 0, .int .i64 0, .fs [] 0, .int .i64 0, .int .i64 1, .int .i64 0, .int .i64 0, .fs [] 0] 2, .int .i64 1, .int .i64 0, .int .i64 0, .int .i64 0, .fs [] 0, .fs [] 0, .int .i64 1, .int .i64 0] 1, .agg [.int .i64 0, .int .i64 0]])
theorem c2 : Eng.isV e2.2.2 (Eng.pureX (Eng.mxTab tn tab0) Tryz.prog pol 100000 e2.1 e2.2.1) = true := by kernel_rfl
theorem k2 : Eng.Known Tryz.prog e2 := Eng.known_of mixed (Eng.mxTab_ok tiny known0) noNum c2

/-- fulling/rules.Axiom (5504 operations) -/
noncomputable def e3 : Eng.KE := (110, [.str ⟨#[100, 105, 118, 45, 111, 110, 101]⟩], .tup [.agg [.str ⟨#[100, 105, 118, 45, 111, 110, 101]⟩, .int .i64 0, .int .i64 7, .int .i64 0, .int .i64 0, .fs [.int .i64 1, .int .i64 0, .int .i64 0, .int .i64 0, .fs [] 0, .int .i64 0, .int .i64 1, .int .i64 1, .int .i64 0, .fs [] 0] 2, .int .i64 1, .int .i64 0, .int .i64 0, .int .i64 0, .fs [] 0, .fs [] 0, .int .i64 1, .int .i64 0], .bool true])
theorem c3 : Eng.isV e3.2.2 (Eng.pureX (Eng.mxTab tn tab0) Tryz.prog pol 100000 e3.1 e3.2.1) = true := by kernel_rfl
theorem k3 : Eng.Known Tryz.prog e3 := Eng.known_of mixed (Eng.mxTab_ok tiny known0) noNum c3

/-- fulling/rules.Axiom (7148 operations) -/
noncomputable def e4 : Eng.KE := (110, [.str ⟨#[100, 105, 118, 45, 115, 101, 108, 102]⟩], .tup [.agg [.str ⟨#[100, 105, 118, 45, 115, 101, 108, 102]⟩, .int .i64 0, .int .i64 7, .int .i64 0, .int .i64 0, .fs [.int .i64 1, .int .i64 0, .int .i64 0, .int .i64 0, .fs [] 0, .int .i64 1, .int .i64 0, .int .i64 0, .int .i64 0, .fs [] 0] 2, .int .i64 0, .int .i64 1, .int .i64 1, .int .i64 0, .fs [] 0, .fs [.int .i64 1, .int .i64 1, .int .i64 0, .int .i64 0] 1, .int .i64 1, .int .i64 0], .bool true])
theorem c4 : Eng.isV e4.2.2 (Eng.pureX (Eng.mxTab tn tab0) Tryz.prog pol 100000 e4.1 e4.2.1) = true := by kernel_rfl
theorem k4 : Eng.Known Tryz.prog e4 := Eng.known_of mixed (Eng.mxTab_ok tiny known0) noNum c4

/-- fulling/rules.Axiom (7087 operations) -/
noncomputable def e5 : Eng.KE := (110, [.str ⟨#[100, 105, 118, 45, 109, 105, 110, 117, 115]⟩], .tup [.agg [.str ⟨#[100, 105, 118, 45, 109, 105, 110, 117, 115]⟩, .int .i64 0, .int .i64 7, .int .i64 0, .int .i64 0, .fs [.int .i64 1, .int .i64 0, .int .i64 0, .int .i64 0, .fs [] 0, .int .i64 0, .int .i64 1, .int .i64 (-1), .int .i64 0, .fs [] 0] 2, .int .i64 0, .int .i64 20, .int .i64 0, .int .i64 0, .fs [.int .i64 1, .int .i64 0, .int .i64 0, .int .i64 0, .fs [] 0] 1, .fs [] 0, .int .i64 1, .int .i64 0], .bool true])
theorem c5 : Eng.isV e5.2.2 (Eng.pureX (Eng.mxTab tn tab0) Tryz.prog pol 100000 e5.1 e5.2.1) = true := by kernel_rfl
theorem k5 : Eng.Known Tryz.prog e5 := Eng.known_of mixed (Eng.mxTab_ok tiny known0) noNum c5

/-- fulling/rules.Axiom (5587 operations) -/
noncomputable def e6 : Eng.KE := (110, [.str ⟨#[100, 105, 118, 45, 122, 101, 114, 111]⟩], .tup [.agg [.str ⟨#[100, 105, 118, 45, 122, 101, 114, 111]⟩, .int .i64 0, .int .i64 7, .int .i64 0, .int .i64 0, .fs [.int .i64 0, .int .i64 1, .int .i64 0, .int .i64 0, .fs [] 0, .int .i64 1, .int .i64 0, .int .i64 0, .int .i64 0, .fs [] 0] 2, .int .i64 0, .int .i64 1, .int .i64 0, .int .i64 0, .fs [] 0, .fs [] 0, .int .i64 1, .int .i64 0], .bool true])
theorem c6 : Eng.isV e6.2.2 (Eng.pureX (Eng.mxTab tn tab0) Tryz.prog pol 100000 e6.1 e6.2.1) = true := by kernel_rfl
theorem k6 : Eng.Known Tryz.prog e6 := Eng.known_of mixed (Eng.mxTab_ok tiny known0) noNum c6

/-- fulling/rules.Axiom (5515 operations) -/
noncomputable def e7 : Eng.KE := (110, [.str ⟨#[114, 101, 109, 45, 111, 110, 101]⟩], .tup [.agg [.str ⟨#[114, 101, 109, 45, 111, 110, 101]⟩, .int .i64 0, .int .i64 8, .int .i64 0, .int .i64 0, .fs [.int .i64 1, .int .i64 0, .int .i64 0, .int .i64 0, .fs [] 0, .int .i64 0, .int .i64 1, .int .i64 1, .int .i64 0, .fs [] 0] 2, .int .i64 0, .int .i64 1, .int .i64 0, .int .i64 0, .fs [] 0, .fs [] 0, .int .i64 1, .int .i64 0], .bool true])
theorem c7 : Eng.isV e7.2.2 (Eng.pureX (Eng.mxTab tn tab0) Tryz.prog pol 100000 e7.1 e7.2.1) = true := by kernel_rfl
theorem k7 : Eng.Known Tryz.prog e7 := Eng.known_of mixed (Eng.mxTab_ok tiny known0) noNum c7

/-- fulling/rules.Axiom (5664 operations) -/
noncomputable def e8 : Eng.KE := (110, [.str ⟨#[114, 101, 109, 45, 115, 101, 108, 102]⟩], .tup [.agg [.str ⟨#[114, 101, 109, 45, 115, 101, 108, 102]⟩, .int .i64 0, .int .i64 8, .int .i64 0, .int .i64 0, .fs [.int .i64 1, .int .i64 0, .int .i64 0, .int .i64 0, .fs [] 0, .int .i64 1, .int .i64 0, .int .i64 0, .int .i64 0, .fs [] 0] 2, .int .i64 0, .int .i64 1, .int .i64 0, .int .i64 0, .fs [] 0, .fs [] 0, .int .i64 1, .int .i64 0], .bool true])
theorem c8 : Eng.isV e8.2.2 (Eng.pureX (Eng.mxTab tn tab0) Tryz.prog pol 100000 e8.1 e8.2.1) = true := by kernel_rfl
theorem k8 : Eng.Known Tryz.prog e8 := Eng.known_of mixed (Eng.mxTab_ok tiny known0) noNum c8

end Go.Proofs.YtoagenagnhfdlaaGreat.saturateExamples
