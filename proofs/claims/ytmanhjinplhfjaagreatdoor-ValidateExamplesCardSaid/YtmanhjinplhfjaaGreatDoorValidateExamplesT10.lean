/-
  What is known up to level 10.
-/
import Derived.Test.YtmanhjinplhfjaaGreatDoorValidateExamplesK10a
namespace Go.Proofs.YtmanhjinplhfjaaGreatDoor.validateExamples
theorem k192 : Eng.Known Tryz.prog e192 := Eng.known_of mixed (Eng.mxTab_ok spOk known9) noNum c192
noncomputable def tab10 : List Eng.KE := e192 :: tab9
theorem known10 : ∀ e ∈ tab10, Eng.Known Tryz.prog e := Eng.known_cons k192 (known9)

end Go.Proofs.YtmanhjinplhfjaaGreatDoor.validateExamples
