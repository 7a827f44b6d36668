/-
  What is known up to level 4, and what level 5 speaks of.
-/
import Derived.Test.YtnjcjcdmeomegaaGreatDoorCompilerExamplesK4a
import Derived.Test.YtnjcjcdmeomegaaGreatDoorCompilerExamplesK4b
namespace Go.Proofs.YtnjcjcdmeomegaaGreatDoor.compilerExamples
theorem k52 : Eng.Known Tryz.prog e52 := Eng.known_of mixed (Eng.mxTab_ok spOk known3) noNum c52
theorem k64 : Eng.Known Tryz.prog e64 := Eng.known_of mixed (Eng.mxTab_ok spOk known3) noNum c64
theorem k69 : Eng.Known Tryz.prog e69 := Eng.known_of mixed (Eng.mxTab_ok spOk known3) noNum c69
noncomputable def tab4 : List Eng.KE := e69 :: e64 :: e52 :: tab3
theorem known4 : ∀ e ∈ tab4, Eng.Known Tryz.prog e := Eng.known_cons k69 (Eng.known_cons k64 (Eng.known_cons k52 (known3)))
/-- fulling/compiler.Compile (3851 operations) -/
noncomputable def e58 : Eng.KE := (4, [.str ⟨#[102, 117, 110, 99, 32, 102, 40, 120, 41, 32, 123, 32, 114, 101, 116, 117, 114, 110, 32, 120, 32, 42, 32, 50, 32, 43, 32, 48, 59, 32, 125]⟩, .str ⟨#[114, 117, 108, 101, 32, 122, 101, 114, 111, 58, 32, 40, 97, 100, 100, 32, 63, 97, 32, 48, 41, 32, 61, 62, 32, 63, 97, 59, 32, 114, 117, 108, 101, 32, 116, 119, 111, 58, 32, 40, 109, 117, 108, 32, 63, 97, 32, 50, 41, 32, 61, 62, 32, 40, 97, 100, 100, 32, 63, 97, 32, 63, 97, 41, 59]⟩, .agg [.int .i64 3, .int .i64 40, .int .i64 9], .int .i64 50], .tup [.agg q45, .agg [.int .i64 0, .int .i64 0]])
/-- fulling/compiler.Compile (3777 operations) -/
noncomputable def e65 : Eng.KE := (4, [.str ⟨#[102, 117, 110, 99, 32, 102, 40, 120, 41, 32, 123, 32, 114, 101, 116, 117, 114, 110, 32, 120, 32, 42, 32, 50, 32, 43, 32, 48, 59, 32, 125]⟩, .str ⟨#[114, 117, 108, 101, 32, 110, 111, 58, 32, 40, 97, 100, 100, 32, 63, 97, 32, 49, 41, 32, 61, 62, 32, 63, 97, 59]⟩, .agg [.int .i64 3, .int .i64 40, .int .i64 9], .int .i64 50], .tup [.agg [.fs [] 0, .fs [] 0, .fs [] 0, .fs [] 0, .fs [] 0, .fs [] 0, .fs [] 0], .agg [.int .i64 7, .int .i64 0]])

end Go.Proofs.YtnjcjcdmeomegaaGreatDoor.compilerExamples
