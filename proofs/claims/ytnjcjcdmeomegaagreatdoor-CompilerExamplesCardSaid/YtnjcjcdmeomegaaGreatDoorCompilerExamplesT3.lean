/-
  What is known up to level 3, and what level 4 speaks of.
-/
import Derived.Test.YtnjcjcdmeomegaaGreatDoorCompilerExamplesK3a
namespace Go.Proofs.YtnjcjcdmeomegaaGreatDoor.compilerExamples
theorem k48 : Eng.Known Tryz.prog e48 := Eng.known_of mixed (Eng.mxTab_ok spOk known2) noNum c48
theorem k51 : Eng.Known Tryz.prog e51 := Eng.known_of mixed (Eng.mxTab_ok spOk known2) noNum c51
theorem k63 : Eng.Known Tryz.prog e63 := Eng.known_of mixed (Eng.mxTab_ok spOk known2) noNum c63
noncomputable def tab3 : List Eng.KE := e63 :: e51 :: e48 :: tab2
theorem known3 : ∀ e ∈ tab3, Eng.Known Tryz.prog e := Eng.known_cons k63 (Eng.known_cons k51 (Eng.known_cons k48 (known2)))
/-- fulling/saturate.Run (53854 operations) -/
noncomputable def e52 : Eng.KE := (11, [.agg q35, .int .i64 0, .fs q4 2, .agg [.int .i64 3, .int .i64 40, .int .i64 9]], .tup [.agg q38, .int .i64 0])
/-- fulling/saturate.Run (4343 operations) -/
noncomputable def e64 : Eng.KE := (11, [.agg q35, .int .i64 0, .fs q46 1, .agg [.int .i64 3, .int .i64 40, .int .i64 9]], .tup [.agg [.fs [] 0, .fs [] 0, .fs [] 0, .int .i64 0, .int .i64 0, .int .i64 0, .int .i64 0], .int .i64 7])
/-- fulling/validate.Program (23634 operations) -/
noncomputable def e69 : Eng.KE := (15, [.agg q0, .fs q4 2, .agg q43, .fs q44 1], .bool true)

end Go.Proofs.YtnjcjcdmeomegaaGreatDoor.compilerExamples
