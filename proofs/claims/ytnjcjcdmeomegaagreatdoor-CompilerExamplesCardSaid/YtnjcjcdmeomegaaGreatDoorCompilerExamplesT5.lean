/-
  What is known up to level 5.
-/
import Derived.Test.YtnjcjcdmeomegaaGreatDoorCompilerExamplesK5a
namespace Go.Proofs.YtnjcjcdmeomegaaGreatDoor.compilerExamples
theorem k58 : Eng.Known Tryz.prog e58 := Eng.known_of mixed (Eng.mxTab_ok spOk known4) noNum c58
theorem k65 : Eng.Known Tryz.prog e65 := Eng.known_of mixed (Eng.mxTab_ok spOk known4) noNum c65
noncomputable def tab5 : List Eng.KE := e65 :: e58 :: tab4
theorem known5 : ∀ e ∈ tab5, Eng.Known Tryz.prog e := Eng.known_cons k65 (Eng.known_cons k58 (known4))

end Go.Proofs.YtnjcjcdmeomegaaGreatDoor.compilerExamples
