/-
  What is known up to level 2, and what level 3 speaks of.
-/
import Derived.Test.YtnjcjcdmeomegaaGreatDoorCompilerExamplesK2a
namespace Go.Proofs.YtnjcjcdmeomegaaGreatDoor.compilerExamples
theorem k3 : Eng.Known Tryz.prog e3 := Eng.known_of mixed (Eng.mxTab_ok spOk known1) noNum c3
theorem k5 : Eng.Known Tryz.prog e5 := Eng.known_of mixed (Eng.mxTab_ok spOk known1) noNum c5
theorem k7 : Eng.Known Tryz.prog e7 := Eng.known_of mixed (Eng.mxTab_ok spOk known1) noNum c7
theorem k9 : Eng.Known Tryz.prog e9 := Eng.known_of mixed (Eng.mxTab_ok spOk known1) noNum c9
theorem k11 : Eng.Known Tryz.prog e11 := Eng.known_of mixed (Eng.mxTab_ok spOk known1) noNum c11
theorem k13 : Eng.Known Tryz.prog e13 := Eng.known_of mixed (Eng.mxTab_ok spOk known1) noNum c13
theorem k15 : Eng.Known Tryz.prog e15 := Eng.known_of mixed (Eng.mxTab_ok spOk known1) noNum c15
theorem k17 : Eng.Known Tryz.prog e17 := Eng.known_of mixed (Eng.mxTab_ok spOk known1) noNum c17
theorem k19 : Eng.Known Tryz.prog e19 := Eng.known_of mixed (Eng.mxTab_ok spOk known1) noNum c19
theorem k21 : Eng.Known Tryz.prog e21 := Eng.known_of mixed (Eng.mxTab_ok spOk known1) noNum c21
theorem k23 : Eng.Known Tryz.prog e23 := Eng.known_of mixed (Eng.mxTab_ok spOk known1) noNum c23
theorem k25 : Eng.Known Tryz.prog e25 := Eng.known_of mixed (Eng.mxTab_ok spOk known1) noNum c25
theorem k27 : Eng.Known Tryz.prog e27 := Eng.known_of mixed (Eng.mxTab_ok spOk known1) noNum c27
theorem k29 : Eng.Known Tryz.prog e29 := Eng.known_of mixed (Eng.mxTab_ok spOk known1) noNum c29
theorem k31 : Eng.Known Tryz.prog e31 := Eng.known_of mixed (Eng.mxTab_ok spOk known1) noNum c31
theorem k33 : Eng.Known Tryz.prog e33 := Eng.known_of mixed (Eng.mxTab_ok spOk known1) noNum c33
theorem k35 : Eng.Known Tryz.prog e35 := Eng.known_of mixed (Eng.mxTab_ok spOk known1) noNum c35
theorem k37 : Eng.Known Tryz.prog e37 := Eng.known_of mixed (Eng.mxTab_ok spOk known1) noNum c37
theorem k39 : Eng.Known Tryz.prog e39 := Eng.known_of mixed (Eng.mxTab_ok spOk known1) noNum c39
theorem k41 : Eng.Known Tryz.prog e41 := Eng.known_of mixed (Eng.mxTab_ok spOk known1) noNum c41
theorem k43 : Eng.Known Tryz.prog e43 := Eng.known_of mixed (Eng.mxTab_ok spOk known1) noNum c43
theorem k45 : Eng.Known Tryz.prog e45 := Eng.known_of mixed (Eng.mxTab_ok spOk known1) noNum c45
theorem k54 : Eng.Known Tryz.prog e54 := Eng.known_of mixed (Eng.mxTab_ok spOk known1) noNum c54
theorem k57 : Eng.Known Tryz.prog e57 := Eng.known_of mixed (Eng.mxTab_ok spOk known1) noNum c57
theorem k59 : Eng.Known Tryz.prog e59 := Eng.known_of mixed (Eng.mxTab_ok spOk known1) noNum c59
noncomputable def tab2 : List Eng.KE := e59 :: e57 :: e54 :: e45 :: e43 :: e41 :: e39 :: e37 :: e35 :: e33 :: e31 :: e29 :: e27 :: e25 :: e23 :: e21 :: e19 :: e17 :: e15 :: e13 :: e11 :: e9 :: e7 :: e5 :: e3 :: tab1
theorem known2 : ∀ e ∈ tab2, Eng.Known Tryz.prog e := Eng.known_cons k59 (Eng.known_cons k57 (Eng.known_cons k54 (Eng.known_cons k45 (Eng.known_cons k43 (Eng.known_cons k41 (Eng.known_cons k39 (Eng.known_cons k37 (Eng.known_cons k35 (Eng.known_cons k33 (Eng.known_cons k31 (Eng.known_cons k29 (Eng.known_cons k27 (Eng.known_cons k25 (Eng.known_cons k23 (Eng.known_cons k21 (Eng.known_cons k19 (Eng.known_cons k17 (Eng.known_cons k15 (Eng.known_cons k13 (Eng.known_cons k11 (Eng.known_cons k9 (Eng.known_cons k7 (Eng.known_cons k5 (Eng.known_cons k3 (known1)))))))))))))))))))))))))
/-- fulling/discharge.Prove (3243 operations) -/
noncomputable def e48 : Eng.KE := (88, [.agg [.str ⟨#[122, 101, 114, 111]⟩, .int .i64 0, .int .i64 4, .int .i64 0, .int .i64 0, .fs q1 2, .int .i64 1, .int .i64 0, .int .i64 0, .int .i64 0, .fs [] 0, .fs [] 0, .int .i64 1, .int .i64 0]], .tup [.agg [.int .i64 1, .fs [.fs [.int .i64 1] 1, .int .u64 1] 1, .fs [] 0, .str ⟨#[]⟩], .int .i64 0])
/-- fulling/discharge.Prove (3943 operations) -/
noncomputable def e51 : Eng.KE := (88, [.agg [.str ⟨#[116, 119, 111]⟩, .int .i64 0, .int .i64 6, .int .i64 0, .int .i64 0, .fs q2 2, .int .i64 0, .int .i64 4, .int .i64 0, .int .i64 0, .fs q3 2, .fs [] 0, .int .i64 1, .int .i64 0]], .tup [.agg [.int .i64 1, .fs [.fs [.int .i64 1] 1, .int .u64 2] 1, .fs [] 0, .str ⟨#[]⟩], .int .i64 0])
/-- fulling/discharge.Prove (3115 operations) -/
noncomputable def e63 : Eng.KE := (88, [.agg q46], .tup [.agg [.int .i64 0, .fs [] 0, .fs [] 0, .str ⟨#[]⟩], .int .i64 7])

end Go.Proofs.YtnjcjcdmeomegaaGreatDoor.compilerExamples
