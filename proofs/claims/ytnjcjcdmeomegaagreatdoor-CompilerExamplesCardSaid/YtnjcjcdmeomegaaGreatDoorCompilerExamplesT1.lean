/-
  What is known up to level 1, and what level 2 speaks of.
-/
import Derived.Test.YtnjcjcdmeomegaaGreatDoorCompilerExamplesK1a
import Derived.Test.YtnjcjcdmeomegaaGreatDoorCompilerExamplesK1b
import Derived.Test.YtnjcjcdmeomegaaGreatDoorCompilerExamplesK1c
import Derived.Test.YtnjcjcdmeomegaaGreatDoorCompilerExamplesK1d
import Derived.Test.YtnjcjcdmeomegaaGreatDoorCompilerExamplesK1e
import Derived.Test.YtnjcjcdmeomegaaGreatDoorCompilerExamplesK1f
import Derived.Test.YtnjcjcdmeomegaaGreatDoorCompilerExamplesK1g
import Derived.Test.YtnjcjcdmeomegaaGreatDoorCompilerExamplesK1h
import Derived.Test.YtnjcjcdmeomegaaGreatDoorCompilerExamplesK1i
namespace Go.Proofs.YtnjcjcdmeomegaaGreatDoor.compilerExamples
theorem k0 : Eng.Known Tryz.prog e0 := Eng.known_of mixed (Eng.mxTab_ok spOk known0) noNum c0
theorem k1 : Eng.Known Tryz.prog e1 := Eng.known_of mixed (Eng.mxTab_ok spOk known0) noNum c1
theorem k2 : Eng.Known Tryz.prog e2 := Eng.known_of mixed (Eng.mxTab_ok spOk known0) noNum c2
theorem k4 : Eng.Known Tryz.prog e4 := Eng.known_of mixed (Eng.mxTab_ok spOk known0) noNum c4
theorem k6 : Eng.Known Tryz.prog e6 := Eng.known_of mixed (Eng.mxTab_ok spOk known0) noNum c6
theorem k8 : Eng.Known Tryz.prog e8 := Eng.known_of mixed (Eng.mxTab_ok spOk known0) noNum c8
theorem k10 : Eng.Known Tryz.prog e10 := Eng.known_of mixed (Eng.mxTab_ok spOk known0) noNum c10
theorem k12 : Eng.Known Tryz.prog e12 := Eng.known_of mixed (Eng.mxTab_ok spOk known0) noNum c12
theorem k14 : Eng.Known Tryz.prog e14 := Eng.known_of mixed (Eng.mxTab_ok spOk known0) noNum c14
theorem k16 : Eng.Known Tryz.prog e16 := Eng.known_of mixed (Eng.mxTab_ok spOk known0) noNum c16
theorem k18 : Eng.Known Tryz.prog e18 := Eng.known_of mixed (Eng.mxTab_ok spOk known0) noNum c18
theorem k20 : Eng.Known Tryz.prog e20 := Eng.known_of mixed (Eng.mxTab_ok spOk known0) noNum c20
theorem k22 : Eng.Known Tryz.prog e22 := Eng.known_of mixed (Eng.mxTab_ok spOk known0) noNum c22
theorem k24 : Eng.Known Tryz.prog e24 := Eng.known_of mixed (Eng.mxTab_ok spOk known0) noNum c24
theorem k26 : Eng.Known Tryz.prog e26 := Eng.known_of mixed (Eng.mxTab_ok spOk known0) noNum c26
theorem k28 : Eng.Known Tryz.prog e28 := Eng.known_of mixed (Eng.mxTab_ok spOk known0) noNum c28
theorem k30 : Eng.Known Tryz.prog e30 := Eng.known_of mixed (Eng.mxTab_ok spOk known0) noNum c30
theorem k32 : Eng.Known Tryz.prog e32 := Eng.known_of mixed (Eng.mxTab_ok spOk known0) noNum c32
theorem k34 : Eng.Known Tryz.prog e34 := Eng.known_of mixed (Eng.mxTab_ok spOk known0) noNum c34
theorem k36 : Eng.Known Tryz.prog e36 := Eng.known_of mixed (Eng.mxTab_ok spOk known0) noNum c36
theorem k38 : Eng.Known Tryz.prog e38 := Eng.known_of mixed (Eng.mxTab_ok spOk known0) noNum c38
theorem k40 : Eng.Known Tryz.prog e40 := Eng.known_of mixed (Eng.mxTab_ok spOk known0) noNum c40
theorem k42 : Eng.Known Tryz.prog e42 := Eng.known_of mixed (Eng.mxTab_ok spOk known0) noNum c42
theorem k44 : Eng.Known Tryz.prog e44 := Eng.known_of mixed (Eng.mxTab_ok spOk known0) noNum c44
theorem k46 : Eng.Known Tryz.prog e46 := Eng.known_of mixed (Eng.mxTab_ok spOk known0) noNum c46
theorem k47 : Eng.Known Tryz.prog e47 := Eng.known_of mixed (Eng.mxTab_ok spOk known0) noNum c47
theorem k49 : Eng.Known Tryz.prog e49 := Eng.known_of mixed (Eng.mxTab_ok spOk known0) noNum c49
theorem k50 : Eng.Known Tryz.prog e50 := Eng.known_of mixed (Eng.mxTab_ok spOk known0) noNum c50
theorem k53 : Eng.Known Tryz.prog e53 := Eng.known_of mixed (Eng.mxTab_ok spOk known0) noNum c53
theorem k55 : Eng.Known Tryz.prog e55 := Eng.known_of mixed (Eng.mxTab_ok spOk known0) noNum c55
theorem k56 : Eng.Known Tryz.prog e56 := Eng.known_of mixed (Eng.mxTab_ok spOk known0) noNum c56
theorem k60 : Eng.Known Tryz.prog e60 := Eng.known_of mixed (Eng.mxTab_ok spOk known0) noNum c60
theorem k61 : Eng.Known Tryz.prog e61 := Eng.known_of mixed (Eng.mxTab_ok spOk known0) noNum c61
theorem hb62 : Tryz.f197.body = some b62 := by kernel_rfl
theorem hb62w0 : Eng.codeAt b62 [1, 1, 1, 1, 1, 0, 1, 0] = .loop b62w0 := by kernel_rfl
theorem h62w0o0p1 : Eng.HoL Tryz.prog Tryz.f197.ntmps b62w0 T62w0o0p1 S62w0o0p1 r62w0o0 := @Eng.HoL.ends _ (Eng.mxTab sp tab0) _ pol mixed (Eng.mxTab_ok spOk known0) noNum 100000 _ _ _ _ _ x62w0o0p1
theorem h62w0o0p0 : Eng.HoL Tryz.prog Tryz.f197.ntmps b62w0 T62w0o0p0 S62w0o0p0 r62w0o0 := @Eng.HoL.leads _ (Eng.mxTab sp tab0) _ pol mixed (Eng.mxTab_ok spOk known0) noNum 100000 _ 31 _ _ _ _ _ _ x62w0o0p0 h62w0o0p1
theorem lp62 : Eng.LpOk Tryz.prog Tryz.f197.ntmps (Eng.lookL l62) b62 p62 := by haveI : Eng.Mx := (Eng.mxTab sp tab0); exact Eng.lookL_ok (tab := l62) (ps := p62) (Eng.known_consL (Eng.known_consW (fun _ => by show Eng.Ho _ _ (Eng.codeAt b62 _) _ _ _; rw [hb62w0]; exact h62w0o0p0.ho) Eng.known_nilW) Eng.known_nilL)
theorem k62 : Eng.Known Tryz.prog e62 := @Eng.known_marks _ (Eng.mxTab sp tab0) Tryz.prog pol 100000 100000 197 Tryz.f197 b62 _ _ (Eng.lookL l62) p62 mixed (Eng.mxTab_ok spOk known0) noNum Tryz.func197 hb62 (by kernel_rfl) lp62 c62
theorem k66 : Eng.Known Tryz.prog e66 := Eng.known_of mixed (Eng.mxTab_ok spOk known0) noNum c66
theorem k67 : Eng.Known Tryz.prog e67 := Eng.known_of mixed (Eng.mxTab_ok spOk known0) noNum c67
theorem k68 : Eng.Known Tryz.prog e68 := Eng.known_of mixed (Eng.mxTab_ok spOk known0) noNum c68
noncomputable def tab1 : List Eng.KE := e68 :: e67 :: e66 :: e62 :: e61 :: e60 :: e56 :: e55 :: e53 :: e50 :: e49 :: e47 :: e46 :: e44 :: e42 :: e40 :: e38 :: e36 :: e34 :: e32 :: e30 :: e28 :: e26 :: e24 :: e22 :: e20 :: e18 :: e16 :: e14 :: e12 :: e10 :: e8 :: e6 :: e4 :: e2 :: e1 :: e0 :: tab0
theorem known1 : ∀ e ∈ tab1, Eng.Known Tryz.prog e := Eng.known_cons k68 (Eng.known_cons k67 (Eng.known_cons k66 (Eng.known_cons k62 (Eng.known_cons k61 (Eng.known_cons k60 (Eng.known_cons k56 (Eng.known_cons k55 (Eng.known_cons k53 (Eng.known_cons k50 (Eng.known_cons k49 (Eng.known_cons k47 (Eng.known_cons k46 (Eng.known_cons k44 (Eng.known_cons k42 (Eng.known_cons k40 (Eng.known_cons k38 (Eng.known_cons k36 (Eng.known_cons k34 (Eng.known_cons k32 (Eng.known_cons k30 (Eng.known_cons k28 (Eng.known_cons k26 (Eng.known_cons k24 (Eng.known_cons k22 (Eng.known_cons k20 (Eng.known_cons k18 (Eng.known_cons k16 (Eng.known_cons k14 (Eng.known_cons k12 (Eng.known_cons k10 (Eng.known_cons k8 (Eng.known_cons k6 (Eng.known_cons k4 (Eng.known_cons k2 (Eng.known_cons k1 (Eng.known_cons k0 (known0)))))))))))))))))))))))))))))))))))))
/-- fulling/rules.Axiom (59 operations) -/
noncomputable def e3 : Eng.KE := (71, [.str ⟨#[100, 105, 118, 45, 111, 110, 101]⟩], .tup [.agg q6, .bool true])
/-- fulling/rules.Axiom (70 operations) -/
noncomputable def e5 : Eng.KE := (71, [.str ⟨#[100, 105, 118, 45, 115, 101, 108, 102]⟩], .tup [.agg q7, .bool true])
/-- fulling/rules.Axiom (81 operations) -/
noncomputable def e7 : Eng.KE := (71, [.str ⟨#[100, 105, 118, 45, 109, 105, 110, 117, 115]⟩], .tup [.agg q8, .bool true])
/-- fulling/rules.Axiom (92 operations) -/
noncomputable def e9 : Eng.KE := (71, [.str ⟨#[100, 105, 118, 45, 122, 101, 114, 111]⟩], .tup [.agg q9, .bool true])
/-- fulling/rules.Axiom (103 operations) -/
noncomputable def e11 : Eng.KE := (71, [.str ⟨#[114, 101, 109, 45, 111, 110, 101]⟩], .tup [.agg q10, .bool true])
/-- fulling/rules.Axiom (114 operations) -/
noncomputable def e13 : Eng.KE := (71, [.str ⟨#[114, 101, 109, 45, 115, 101, 108, 102]⟩], .tup [.agg q11, .bool true])
/-- fulling/rules.Axiom (125 operations) -/
noncomputable def e15 : Eng.KE := (71, [.str ⟨#[114, 101, 109, 45, 100, 105, 118]⟩], .tup [.agg q13, .bool true])
/-- fulling/rules.Axiom (136 operations) -/
noncomputable def e17 : Eng.KE := (71, [.str ⟨#[110, 101, 101, 100, 45, 116, 114, 117, 101]⟩], .tup [.agg q14, .bool true])
/-- fulling/rules.Axiom (147 operations) -/
noncomputable def e19 : Eng.KE := (71, [.str ⟨#[110, 101, 101, 100, 45, 116, 119, 105, 99, 101]⟩], .tup [.agg q15, .bool true])
/-- fulling/rules.Axiom (158 operations) -/
noncomputable def e21 : Eng.KE := (71, [.str ⟨#[108, 111, 97, 100, 45, 115, 116, 111, 114, 101]⟩], .tup [.agg q17, .bool true])
/-- fulling/rules.Axiom (169 operations) -/
noncomputable def e23 : Eng.KE := (71, [.str ⟨#[108, 111, 97, 100, 45, 97, 112, 97, 114, 116]⟩], .tup [.agg q20, .bool true])
/-- fulling/rules.Axiom (180 operations) -/
noncomputable def e25 : Eng.KE := (71, [.str ⟨#[108, 111, 97, 100, 45, 111, 116, 104, 101, 114]⟩], .tup [.agg q22, .bool true])
/-- fulling/rules.Axiom (191 operations) -/
noncomputable def e27 : Eng.KE := (71, [.str ⟨#[108, 111, 97, 100, 45, 110, 101, 101, 100]⟩], .tup [.agg q24, .bool true])
/-- fulling/rules.Axiom (202 operations) -/
noncomputable def e29 : Eng.KE := (71, [.str ⟨#[108, 111, 97, 100, 45, 111, 117, 116]⟩], .tup [.agg q25, .bool true])
/-- fulling/rules.Axiom (213 operations) -/
noncomputable def e31 : Eng.KE := (71, [.str ⟨#[115, 116, 111, 114, 101, 45, 115, 116, 111, 114, 101]⟩], .tup [.agg q26, .bool true])
/-- fulling/rules.Axiom (224 operations) -/
noncomputable def e33 : Eng.KE := (71, [.str ⟨#[115, 116, 111, 114, 101, 45, 115, 119, 97, 112]⟩], .tup [.agg q27, .bool true])
/-- fulling/rules.Axiom (235 operations) -/
noncomputable def e35 : Eng.KE := (71, [.str ⟨#[115, 116, 111, 114, 101, 45, 108, 111, 97, 100]⟩], .tup [.agg q28, .bool true])
/-- fulling/rules.Axiom (246 operations) -/
noncomputable def e37 : Eng.KE := (71, [.str ⟨#[115, 116, 111, 114, 101, 45, 110, 101, 101, 100]⟩], .tup [.agg q29, .bool true])
/-- fulling/rules.Axiom (257 operations) -/
noncomputable def e39 : Eng.KE := (71, [.str ⟨#[115, 116, 111, 114, 101, 45, 111, 117, 116]⟩], .tup [.agg q30, .bool true])
/-- fulling/rules.Axiom (268 operations) -/
noncomputable def e41 : Eng.KE := (71, [.str ⟨#[114, 101, 116, 45, 110, 101, 101, 100]⟩], .tup [.agg q31, .bool true])
/-- fulling/rules.Axiom (279 operations) -/
noncomputable def e43 : Eng.KE := (71, [.str ⟨#[114, 101, 116, 45, 111, 117, 116]⟩], .tup [.agg q32, .bool true])
/-- fulling/rules.Axiom (290 operations) -/
noncomputable def e45 : Eng.KE := (71, [.str ⟨#[114, 101, 116, 45, 115, 116, 111, 114, 101]⟩], .tup [.agg q33, .bool true])
/-- fulling/compiler.optimize (39294 operations) -/
noncomputable def e54 : Eng.KE := (12, [.agg q34, .agg q38, .fs [] 0, .int .i64 50], .agg q40)
/-- fulling/compiler.emit (7496 operations) -/
noncomputable def e57 : Eng.KE := (13, [.agg [.fs [] 0, .fs [.str ⟨#[102]⟩, .int .i64 1, .fs q39 3, .int .i64 1, .int .i64 2] 1], .fs q40 1, .fs [] 0], .tup [.agg q45, .int .i64 0])
/-- fulling/compiler.Run (5642 operations) -/
noncomputable def e59 : Eng.KE := (5, [.str ⟨#[102, 117, 110, 99, 32, 102, 40, 120, 41, 32, 123, 32, 114, 101, 116, 117, 114, 110, 32, 120, 32, 42, 32, 50, 32, 43, 32, 48, 59, 32, 125]⟩, .agg q45, .str ⟨#[102]⟩, .fs [.int .i64 21] 1, .int .i64 0, .int .i64 99], .tup [.agg [.int .i64 1, .int .i64 0, .fs [] 0, .int .i64 42], .bool true])

end Go.Proofs.YtnjcjcdmeomegaaGreatDoor.compilerExamples
