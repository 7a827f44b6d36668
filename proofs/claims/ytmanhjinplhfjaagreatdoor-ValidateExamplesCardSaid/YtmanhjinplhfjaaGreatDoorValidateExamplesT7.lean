/-
  What is known up to level 7, and what level 8 speaks of.
-/
import Derived.Test.YtmanhjinplhfjaaGreatDoorValidateExamplesK7a
namespace Go.Proofs.YtmanhjinplhfjaaGreatDoor.validateExamples
theorem k180 : Eng.Known Tryz.prog e180 := Eng.known_of mixed (Eng.mxTab_ok spOk known6) noNum c180
theorem k181 : Eng.Known Tryz.prog e181 := Eng.known_of mixed (Eng.mxTab_ok spOk known6) noNum c181
noncomputable def tab7 : List Eng.KE := e181 :: e180 :: tab6
theorem known7 : ∀ e ∈ tab7, Eng.Known Tryz.prog e := Eng.known_cons k181 (Eng.known_cons k180 (known6))
/-- fulling/fullingref32.Emit (10711 operations) -/
noncomputable def e190 : Eng.KE := (162, [.fs q85 1, .fs q87 1, .fs [.int .i64 3] 1], .tup [.agg q89, .fs [.fs [.int .i64 1, .int .i64 5, .int .i64 6, .int .i64 11, .int .i64 12, .int .i64 22, .int .i64 23, .int .i64 23, .int .i64 25, .int .i64 26] 10] 1, .int .i64 0])

end Go.Proofs.YtmanhjinplhfjaaGreatDoor.validateExamples
