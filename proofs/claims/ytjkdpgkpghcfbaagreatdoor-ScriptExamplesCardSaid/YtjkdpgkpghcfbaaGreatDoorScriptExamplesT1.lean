/-
  What is known up to level 1, and what level 2 speaks of.
-/
import Derived.Test.YtjkdpgkpghcfbaaGreatDoorScriptExamplesK1a
import Derived.Test.YtjkdpgkpghcfbaaGreatDoorScriptExamplesK1b
import Derived.Test.YtjkdpgkpghcfbaaGreatDoorScriptExamplesK1c
import Derived.Test.YtjkdpgkpghcfbaaGreatDoorScriptExamplesK1d
import Derived.Test.YtjkdpgkpghcfbaaGreatDoorScriptExamplesK1e
import Derived.Test.YtjkdpgkpghcfbaaGreatDoorScriptExamplesK1f
import Derived.Test.YtjkdpgkpghcfbaaGreatDoorScriptExamplesK1g
namespace Go.Proofs.YtjkdpgkpghcfbaaGreatDoor.scriptExamples
theorem k0 : Eng.Known Tryz.prog e0 := Eng.known_of mixed (Eng.mxTab_ok spOk known0) noNum c0
theorem k1 : Eng.Known Tryz.prog e1 := Eng.known_of mixed (Eng.mxTab_ok spOk known0) noNum c1
theorem k2 : Eng.Known Tryz.prog e2 := Eng.known_of mixed (Eng.mxTab_ok spOk known0) noNum c2
theorem k3 : Eng.Known Tryz.prog e3 := Eng.known_of mixed (Eng.mxTab_ok spOk known0) noNum c3
theorem k4 : Eng.Known Tryz.prog e4 := Eng.known_of mixed (Eng.mxTab_ok spOk known0) noNum c4
theorem k5 : Eng.Known Tryz.prog e5 := Eng.known_of mixed (Eng.mxTab_ok spOk known0) noNum c5
theorem k6 : Eng.Known Tryz.prog e6 := Eng.known_of mixed (Eng.mxTab_ok spOk known0) noNum c6
theorem k7 : Eng.Known Tryz.prog e7 := Eng.known_of mixed (Eng.mxTab_ok spOk known0) noNum c7
theorem k8 : Eng.Known Tryz.prog e8 := Eng.known_of mixed (Eng.mxTab_ok spOk known0) noNum c8
theorem k10 : Eng.Known Tryz.prog e10 := Eng.known_of mixed (Eng.mxTab_ok spOk known0) noNum c10
theorem k12 : Eng.Known Tryz.prog e12 := Eng.known_of mixed (Eng.mxTab_ok spOk known0) noNum c12
theorem k14 : Eng.Known Tryz.prog e14 := Eng.known_of mixed (Eng.mxTab_ok spOk known0) noNum c14
theorem k16 : Eng.Known Tryz.prog e16 := Eng.known_of mixed (Eng.mxTab_ok spOk known0) noNum c16
theorem k18 : Eng.Known Tryz.prog e18 := Eng.known_of mixed (Eng.mxTab_ok spOk known0) noNum c18
theorem k20 : Eng.Known Tryz.prog e20 := Eng.known_of mixed (Eng.mxTab_ok spOk known0) noNum c20
theorem k22 : Eng.Known Tryz.prog e22 := Eng.known_of mixed (Eng.mxTab_ok spOk known0) noNum c22
theorem k24 : Eng.Known Tryz.prog e24 := Eng.known_of mixed (Eng.mxTab_ok spOk known0) noNum c24
theorem k26 : Eng.Known Tryz.prog e26 := Eng.known_of mixed (Eng.mxTab_ok spOk known0) noNum c26
theorem k28 : Eng.Known Tryz.prog e28 := Eng.known_of mixed (Eng.mxTab_ok spOk known0) noNum c28
theorem k30 : Eng.Known Tryz.prog e30 := Eng.known_of mixed (Eng.mxTab_ok spOk known0) noNum c30
theorem k32 : Eng.Known Tryz.prog e32 := Eng.known_of mixed (Eng.mxTab_ok spOk known0) noNum c32
theorem k34 : Eng.Known Tryz.prog e34 := Eng.known_of mixed (Eng.mxTab_ok spOk known0) noNum c34
theorem k36 : Eng.Known Tryz.prog e36 := Eng.known_of mixed (Eng.mxTab_ok spOk known0) noNum c36
theorem k38 : Eng.Known Tryz.prog e38 := Eng.known_of mixed (Eng.mxTab_ok spOk known0) noNum c38
theorem k40 : Eng.Known Tryz.prog e40 := Eng.known_of mixed (Eng.mxTab_ok spOk known0) noNum c40
theorem k42 : Eng.Known Tryz.prog e42 := Eng.known_of mixed (Eng.mxTab_ok spOk known0) noNum c42
theorem k44 : Eng.Known Tryz.prog e44 := Eng.known_of mixed (Eng.mxTab_ok spOk known0) noNum c44
theorem k46 : Eng.Known Tryz.prog e46 := Eng.known_of mixed (Eng.mxTab_ok spOk known0) noNum c46
theorem k48 : Eng.Known Tryz.prog e48 := Eng.known_of mixed (Eng.mxTab_ok spOk known0) noNum c48
theorem k50 : Eng.Known Tryz.prog e50 := Eng.known_of mixed (Eng.mxTab_ok spOk known0) noNum c50
theorem k52 : Eng.Known Tryz.prog e52 := Eng.known_of mixed (Eng.mxTab_ok spOk known0) noNum c52
theorem k53 : Eng.Known Tryz.prog e53 := Eng.known_of mixed (Eng.mxTab_ok spOk known0) noNum c53
theorem k56 : Eng.Known Tryz.prog e56 := Eng.known_of mixed (Eng.mxTab_ok spOk known0) noNum c56
theorem k58 : Eng.Known Tryz.prog e58 := Eng.known_of mixed (Eng.mxTab_ok spOk known0) noNum c58
theorem k59 : Eng.Known Tryz.prog e59 := Eng.known_of mixed (Eng.mxTab_ok spOk known0) noNum c59
theorem k63 : Eng.Known Tryz.prog e63 := Eng.known_of mixed (Eng.mxTab_ok spOk known0) noNum c63
theorem k64 : Eng.Known Tryz.prog e64 := Eng.known_of mixed (Eng.mxTab_ok spOk known0) noNum c64
theorem k65 : Eng.Known Tryz.prog e65 := Eng.known_of mixed (Eng.mxTab_ok spOk known0) noNum c65
theorem k66 : Eng.Known Tryz.prog e66 := Eng.known_of mixed (Eng.mxTab_ok spOk known0) noNum c66
theorem k69 : Eng.Known Tryz.prog e69 := Eng.known_of mixed (Eng.mxTab_ok spOk known0) noNum c69
noncomputable def tab1 : List Eng.KE := e69 :: e66 :: e65 :: e64 :: e63 :: e59 :: e58 :: e56 :: e53 :: e52 :: e50 :: e48 :: e46 :: e44 :: e42 :: e40 :: e38 :: e36 :: e34 :: e32 :: e30 :: e28 :: e26 :: e24 :: e22 :: e20 :: e18 :: e16 :: e14 :: e12 :: e10 :: e8 :: e7 :: e6 :: e5 :: e4 :: e3 :: e2 :: e1 :: e0 :: tab0
theorem known1 : ∀ e ∈ tab1, Eng.Known Tryz.prog e := Eng.known_cons k69 (Eng.known_cons k66 (Eng.known_cons k65 (Eng.known_cons k64 (Eng.known_cons k63 (Eng.known_cons k59 (Eng.known_cons k58 (Eng.known_cons k56 (Eng.known_cons k53 (Eng.known_cons k52 (Eng.known_cons k50 (Eng.known_cons k48 (Eng.known_cons k46 (Eng.known_cons k44 (Eng.known_cons k42 (Eng.known_cons k40 (Eng.known_cons k38 (Eng.known_cons k36 (Eng.known_cons k34 (Eng.known_cons k32 (Eng.known_cons k30 (Eng.known_cons k28 (Eng.known_cons k26 (Eng.known_cons k24 (Eng.known_cons k22 (Eng.known_cons k20 (Eng.known_cons k18 (Eng.known_cons k16 (Eng.known_cons k14 (Eng.known_cons k12 (Eng.known_cons k10 (Eng.known_cons k8 (Eng.known_cons k7 (Eng.known_cons k6 (Eng.known_cons k5 (Eng.known_cons k4 (Eng.known_cons k3 (Eng.known_cons k2 (Eng.known_cons k1 (Eng.known_cons k0 (known0))))))))))))))))))))))))))))))))))))))))
/-- fulling/rules.Axiom (59 operations) -/
noncomputable def e9 : Eng.KE := (103, [.str ⟨#[100, 105, 118, 45, 111, 110, 101]⟩], .tup [.agg q5, .bool true])
/-- fulling/rules.Axiom (70 operations) -/
noncomputable def e11 : Eng.KE := (103, [.str ⟨#[100, 105, 118, 45, 115, 101, 108, 102]⟩], .tup [.agg q6, .bool true])
/-- fulling/rules.Axiom (81 operations) -/
noncomputable def e13 : Eng.KE := (103, [.str ⟨#[100, 105, 118, 45, 109, 105, 110, 117, 115]⟩], .tup [.agg q7, .bool true])
/-- fulling/rules.Axiom (92 operations) -/
noncomputable def e15 : Eng.KE := (103, [.str ⟨#[100, 105, 118, 45, 122, 101, 114, 111]⟩], .tup [.agg q8, .bool true])
/-- fulling/rules.Axiom (103 operations) -/
noncomputable def e17 : Eng.KE := (103, [.str ⟨#[114, 101, 109, 45, 111, 110, 101]⟩], .tup [.agg q9, .bool true])
/-- fulling/rules.Axiom (114 operations) -/
noncomputable def e19 : Eng.KE := (103, [.str ⟨#[114, 101, 109, 45, 115, 101, 108, 102]⟩], .tup [.agg q10, .bool true])
/-- fulling/rules.Axiom (125 operations) -/
noncomputable def e21 : Eng.KE := (103, [.str ⟨#[114, 101, 109, 45, 100, 105, 118]⟩], .tup [.agg q12, .bool true])
/-- fulling/rules.Axiom (136 operations) -/
noncomputable def e23 : Eng.KE := (103, [.str ⟨#[110, 101, 101, 100, 45, 116, 114, 117, 101]⟩], .tup [.agg q13, .bool true])
/-- fulling/rules.Axiom (147 operations) -/
noncomputable def e25 : Eng.KE := (103, [.str ⟨#[110, 101, 101, 100, 45, 116, 119, 105, 99, 101]⟩], .tup [.agg q14, .bool true])
/-- fulling/rules.Axiom (158 operations) -/
noncomputable def e27 : Eng.KE := (103, [.str ⟨#[108, 111, 97, 100, 45, 115, 116, 111, 114, 101]⟩], .tup [.agg q16, .bool true])
/-- fulling/rules.Axiom (169 operations) -/
noncomputable def e29 : Eng.KE := (103, [.str ⟨#[108, 111, 97, 100, 45, 97, 112, 97, 114, 116]⟩], .tup [.agg q19, .bool true])
/-- fulling/rules.Axiom (180 operations) -/
noncomputable def e31 : Eng.KE := (103, [.str ⟨#[108, 111, 97, 100, 45, 111, 116, 104, 101, 114]⟩], .tup [.agg q21, .bool true])
/-- fulling/rules.Axiom (191 operations) -/
noncomputable def e33 : Eng.KE := (103, [.str ⟨#[108, 111, 97, 100, 45, 110, 101, 101, 100]⟩], .tup [.agg q23, .bool true])
/-- fulling/rules.Axiom (202 operations) -/
noncomputable def e35 : Eng.KE := (103, [.str ⟨#[108, 111, 97, 100, 45, 111, 117, 116]⟩], .tup [.agg q24, .bool true])
/-- fulling/rules.Axiom (213 operations) -/
noncomputable def e37 : Eng.KE := (103, [.str ⟨#[115, 116, 111, 114, 101, 45, 115, 116, 111, 114, 101]⟩], .tup [.agg q25, .bool true])
/-- fulling/rules.Axiom (224 operations) -/
noncomputable def e39 : Eng.KE := (103, [.str ⟨#[115, 116, 111, 114, 101, 45, 115, 119, 97, 112]⟩], .tup [.agg q26, .bool true])
/-- fulling/rules.Axiom (235 operations) -/
noncomputable def e41 : Eng.KE := (103, [.str ⟨#[115, 116, 111, 114, 101, 45, 108, 111, 97, 100]⟩], .tup [.agg q27, .bool true])
/-- fulling/rules.Axiom (246 operations) -/
noncomputable def e43 : Eng.KE := (103, [.str ⟨#[115, 116, 111, 114, 101, 45, 110, 101, 101, 100]⟩], .tup [.agg q28, .bool true])
/-- fulling/rules.Axiom (257 operations) -/
noncomputable def e45 : Eng.KE := (103, [.str ⟨#[115, 116, 111, 114, 101, 45, 111, 117, 116]⟩], .tup [.agg q29, .bool true])
/-- fulling/rules.Axiom (268 operations) -/
noncomputable def e47 : Eng.KE := (103, [.str ⟨#[114, 101, 116, 45, 110, 101, 101, 100]⟩], .tup [.agg q30, .bool true])
/-- fulling/rules.Axiom (279 operations) -/
noncomputable def e49 : Eng.KE := (103, [.str ⟨#[114, 101, 116, 45, 111, 117, 116]⟩], .tup [.agg q31, .bool true])
/-- fulling/rules.Axiom (290 operations) -/
noncomputable def e51 : Eng.KE := (103, [.str ⟨#[114, 101, 116, 45, 115, 116, 111, 114, 101]⟩], .tup [.agg q32, .bool true])
/-- fulling/compiler.optimize (40230 operations) -/
noncomputable def e57 : Eng.KE := (28, [.agg q33, .agg q35, .fs [] 0, .int .i64 400], .agg q37)
/-- fulling/compiler.emit (10900 operations) -/
noncomputable def e60 : Eng.KE := (29, [.agg [.fs [] 0, .fs [.str ⟨#[102]⟩, .int .i64 1, .fs q36 4, .int .i64 1, .int .i64 3] 1], .fs q37 1, .fs [] 0], .tup [.agg q42, .int .i64 0])
/-- fulling/compiler.Run (7609 operations) -/
noncomputable def e62 : Eng.KE := (18, [.str ⟨#[102, 117, 110, 99, 32, 102, 40, 120, 41, 32, 123, 32, 111, 117, 116, 32, 120, 59, 32, 114, 101, 116, 117, 114, 110, 32, 120, 32, 42, 32, 50, 59, 32, 125, 10]⟩, .agg q42, .str ⟨#[102]⟩, .fs [.int .i64 3] 1, .int .i64 9, .int .i64 100000], .tup [.agg [.int .i64 1, .int .i64 0, .fs [.int .i64 3] 1, .int .i64 6], .bool true])
/-- fulling/compiler.Run (36 operations) -/
noncomputable def e68 : Eng.KE := (18, [.str ⟨#[102, 117, 110, 99, 32, 102, 40, 120, 41, 32, 123, 32, 111, 117, 116, 32, 120, 59, 32, 114, 101, 116, 117, 114, 110, 32, 120, 32, 42, 32, 50, 59, 32, 125, 10]⟩, .agg q42, .str ⟨#[103]⟩, .fs [] 0, .int .i64 9, .int .i64 100000], .tup [.agg [.int .i64 0, .int .i64 0, .fs [] 0, .int .i64 0], .bool false])

end Go.Proofs.YtjkdpgkpghcfbaaGreatDoor.scriptExamples
