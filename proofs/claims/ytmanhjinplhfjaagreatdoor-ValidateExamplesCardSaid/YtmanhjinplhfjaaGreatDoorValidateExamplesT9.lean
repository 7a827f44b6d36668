/-
  What is known up to level 9, and what level 10 speaks of.
-/
import Derived.Test.YtmanhjinplhfjaaGreatDoorValidateExamplesK9a
namespace Go.Proofs.YtmanhjinplhfjaaGreatDoor.validateExamples
theorem k191 : Eng.Known Tryz.prog e191 := Eng.known_of mixed (Eng.mxTab_ok spOk known8) noNum c191
noncomputable def tab9 : List Eng.KE := e191 :: tab8
theorem known9 : ∀ e ∈ tab9, Eng.Known Tryz.prog e := Eng.known_cons k191 (known8)
/-- fulling/fullingref37.Compile (100 operations) -/
noncomputable def e192 : Eng.KE := (8, [.str ⟨#[97, 114, 114, 97, 121, 32, 97, 32, 51, 59, 32, 102, 117, 110, 99, 32, 102, 40, 120, 41, 32, 118, 97, 114, 32, 105, 32, 123, 32, 119, 104, 105, 108, 101, 32, 40, 105, 32, 60, 32, 120, 41, 32, 123, 32, 97, 91, 105, 93, 32, 61, 32, 105, 32, 42, 32, 50, 59, 32, 105, 32, 61, 32, 105, 32, 43, 32, 49, 59, 32, 125, 32, 114, 101, 116, 117, 114, 110, 32, 97, 91, 49, 93, 32, 43, 32, 48, 59, 32, 125]⟩, .str ⟨#[114, 117, 108, 101, 32, 97, 100, 100, 45, 116, 117, 114, 110, 58, 32, 40, 97, 100, 100, 32, 63, 97, 32, 63, 98, 41, 32, 61, 62, 32, 40, 97, 100, 100, 32, 63, 98, 32, 63, 97, 41, 59, 10, 114, 117, 108, 101, 32, 97, 100, 100, 45, 122, 101, 114, 111, 58, 32, 40, 97, 100, 100, 32, 63, 97, 32, 48, 41, 32, 61, 62, 32, 63, 97, 59, 10]⟩, .agg [.int .i64 2, .int .i64 150, .int .i64 30], .int .i64 60], .tup [.agg [.fs q88 29, .fs [.int .i64 0] 1, .fs [.int .i64 1] 1, .fs [.int .i64 1] 1, .fs [.int .i64 3] 1, .fs q90 1, .fs [.int .i64 2, .int .i64 1, .int .i64 26, .int .i64 44, .int .i64 40, .bool false] 1], .agg [.int .i64 0, .int .i64 0]])

end Go.Proofs.YtmanhjinplhfjaaGreatDoor.validateExamples
