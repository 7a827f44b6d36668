/-
  What is known up to level 4, and what level 5 speaks of.
-/
import Derived.Test.YtjkdpgkpghcfbaaGreatDoorScriptExamplesK4a
namespace Go.Proofs.YtjkdpgkpghcfbaaGreatDoor.scriptExamples
theorem k55 : Eng.Known Tryz.prog e55 := Eng.known_of mixed (Eng.mxTab_ok spOk known3) noNum c55
theorem k67 : Eng.Known Tryz.prog e67 := Eng.known_of mixed (Eng.mxTab_ok spOk known3) noNum c67
noncomputable def tab4 : List Eng.KE := e67 :: e55 :: tab3
theorem known4 : ∀ e ∈ tab4, Eng.Known Tryz.prog e := Eng.known_cons k67 (Eng.known_cons k55 (known3))
/-- fulling/compiler.Compile (4184 operations) -/
noncomputable def e61 : Eng.KE := (13, [.str ⟨#[102, 117, 110, 99, 32, 102, 40, 120, 41, 32, 123, 32, 111, 117, 116, 32, 120, 59, 32, 114, 101, 116, 117, 114, 110, 32, 120, 32, 42, 32, 50, 59, 32, 125, 10]⟩, .str ⟨#[114, 117, 108, 101, 32, 116, 119, 111, 58, 32, 40, 109, 117, 108, 32, 63, 97, 32, 50, 41, 32, 61, 62, 32, 40, 97, 100, 100, 32, 63, 97, 32, 63, 97, 41, 59, 10]⟩, .agg [.int .i64 4, .int .i64 400, .int .i64 50], .int .i64 400], .tup [.agg q42, .agg [.int .i64 0, .int .i64 0]])

end Go.Proofs.YtjkdpgkpghcfbaaGreatDoor.scriptExamples
