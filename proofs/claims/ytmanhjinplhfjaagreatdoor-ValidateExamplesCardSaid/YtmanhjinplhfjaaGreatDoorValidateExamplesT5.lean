/-
  What is known up to level 5, and what level 6 speaks of.
-/
import Derived.Test.YtmanhjinplhfjaaGreatDoorValidateExamplesK5a
namespace Go.Proofs.YtmanhjinplhfjaaGreatDoor.validateExamples
theorem k168 : Eng.Known Tryz.prog e168 := Eng.known_of mixed (Eng.mxTab_ok spOk known4) noNum c168
theorem k169 : Eng.Known Tryz.prog e169 := Eng.known_of mixed (Eng.mxTab_ok spOk known4) noNum c169
theorem k170 : Eng.Known Tryz.prog e170 := Eng.known_of mixed (Eng.mxTab_ok spOk known4) noNum c170
theorem k171 : Eng.Known Tryz.prog e171 := Eng.known_of mixed (Eng.mxTab_ok spOk known4) noNum c171
theorem k172 : Eng.Known Tryz.prog e172 := Eng.known_of mixed (Eng.mxTab_ok spOk known4) noNum c172
theorem k173 : Eng.Known Tryz.prog e173 := Eng.known_of mixed (Eng.mxTab_ok spOk known4) noNum c173
theorem k174 : Eng.Known Tryz.prog e174 := Eng.known_of mixed (Eng.mxTab_ok spOk known4) noNum c174
theorem k175 : Eng.Known Tryz.prog e175 := Eng.known_of mixed (Eng.mxTab_ok spOk known4) noNum c175
theorem k176 : Eng.Known Tryz.prog e176 := Eng.known_of mixed (Eng.mxTab_ok spOk known4) noNum c176
theorem k177 : Eng.Known Tryz.prog e177 := Eng.known_of mixed (Eng.mxTab_ok spOk known4) noNum c177
theorem k321 : Eng.Known Tryz.prog e321 := Eng.known_of mixed (Eng.mxTab_ok spOk known4) noNum c321
noncomputable def tab5 : List Eng.KE := e321 :: e177 :: e176 :: e175 :: e174 :: e173 :: e172 :: e171 :: e170 :: e169 :: e168 :: tab4
theorem known5 : ∀ e ∈ tab5, Eng.Known Tryz.prog e := Eng.known_cons k321 (Eng.known_cons k177 (Eng.known_cons k176 (Eng.known_cons k175 (Eng.known_cons k174 (Eng.known_cons k173 (Eng.known_cons k172 (Eng.known_cons k171 (Eng.known_cons k170 (Eng.known_cons k169 (Eng.known_cons k168 (known4)))))))))))
/-- fulling/fullingref32.AcrossCalls (1729 operations) -/
noncomputable def e178 : Eng.KE := (455, [.agg q85], .fs [] 0)
/-- fulling/fullingref32.Interference (4782 operations) -/
noncomputable def e179 : Eng.KE := (311, [.agg q85], .fs [.fs [.int .i64 1] 1, .fs [.int .i64 0, .int .i64 2] 2, .fs [.int .i64 1] 1, .fs [.int .i64 5, .int .i64 6, .int .i64 7, .int .i64 8, .int .i64 12] 5, .fs [] 0, .fs [.int .i64 3, .int .i64 6] 2, .fs [.int .i64 3, .int .i64 5] 2, .fs [.int .i64 3, .int .i64 8] 2, .fs [.int .i64 3, .int .i64 7] 2, .fs [.int .i64 10, .int .i64 11, .int .i64 12] 3, .fs [.int .i64 9, .int .i64 11] 2, .fs [.int .i64 9, .int .i64 10] 2, .fs [.int .i64 3, .int .i64 9, .int .i64 13] 3, .fs [.int .i64 12] 1, .fs [] 0, .fs [] 0, .fs [] 0] 17)
/-- fulling/validate.Program (199 operations) -/
noncomputable def e322 : Eng.KE := (6, [.agg q3, .fs q42 2, .agg q89, .fs q90 1], .bool true)

end Go.Proofs.YtmanhjinplhfjaaGreatDoor.validateExamples
