/-
  What is known up to level 5.
-/
import Derived.Test.YtjkdpgkpghcfbaaGreatDoorScriptExamplesK5a
namespace Go.Proofs.YtjkdpgkpghcfbaaGreatDoor.scriptExamples
theorem k61 : Eng.Known Tryz.prog e61 := Eng.known_of mixed (Eng.mxTab_ok spOk known4) noNum c61
noncomputable def tab5 : List Eng.KE := e61 :: tab4
theorem known5 : ∀ e ∈ tab5, Eng.Known Tryz.prog e := Eng.known_cons k61 (known4)

end Go.Proofs.YtjkdpgkpghcfbaaGreatDoor.scriptExamples
