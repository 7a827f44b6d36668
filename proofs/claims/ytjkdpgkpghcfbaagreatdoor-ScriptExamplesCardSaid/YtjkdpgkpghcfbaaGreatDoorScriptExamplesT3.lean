/-
  What is known up to level 3, and what level 4 speaks of.
-/
import Derived.Test.YtjkdpgkpghcfbaaGreatDoorScriptExamplesK3a
namespace Go.Proofs.YtjkdpgkpghcfbaaGreatDoor.scriptExamples
theorem k54 : Eng.Known Tryz.prog e54 := Eng.known_of mixed (Eng.mxTab_ok spOk known2) noNum c54
noncomputable def tab3 : List Eng.KE := e54 :: tab2
theorem known3 : ∀ e ∈ tab3, Eng.Known Tryz.prog e := Eng.known_cons k54 (known2)
/-- fulling/saturate.Run (36801 operations) -/
noncomputable def e55 : Eng.KE := (27, [.agg [.fs [] 0, .fs q33 1], .int .i64 0, .fs q3 1, .agg [.int .i64 4, .int .i64 400, .int .i64 50]], .tup [.agg q35, .int .i64 0])
/-- fulling/validate.Program (22869 operations) -/
noncomputable def e67 : Eng.KE := (41, [.agg q0, .fs q3 1, .agg q40, .fs q41 1], .bool true)

end Go.Proofs.YtjkdpgkpghcfbaaGreatDoor.scriptExamples
