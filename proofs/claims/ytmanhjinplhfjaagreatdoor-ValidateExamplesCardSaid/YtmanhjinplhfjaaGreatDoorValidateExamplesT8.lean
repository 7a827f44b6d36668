/-
  What is known up to level 8, and what level 9 speaks of.
-/
import Derived.Test.YtmanhjinplhfjaaGreatDoorValidateExamplesK8a
namespace Go.Proofs.YtmanhjinplhfjaaGreatDoor.validateExamples
theorem k190 : Eng.Known Tryz.prog e190 := Eng.known_of mixed (Eng.mxTab_ok spOk known7) noNum c190
noncomputable def tab8 : List Eng.KE := e190 :: tab7
theorem known8 : ∀ e ∈ tab8, Eng.Known Tryz.prog e := Eng.known_cons k190 (known7)
/-- fulling/fullingref37.emit (11255 operations) -/
noncomputable def e191 : Eng.KE := (27, [.agg q45, .fs q58 1, .int .i64 60], .tup [.agg [.fs q88 29, .fs [.int .i64 0] 1, .fs [.int .i64 1] 1, .fs [.int .i64 1] 1, .fs [.int .i64 3] 1, .fs q90 1, .fs [.int .i64 2, .int .i64 1, .int .i64 26, .int .i64 44, .int .i64 40, .bool false] 1], .agg [.int .i64 0, .int .i64 0]])

end Go.Proofs.YtmanhjinplhfjaaGreatDoor.validateExamples
