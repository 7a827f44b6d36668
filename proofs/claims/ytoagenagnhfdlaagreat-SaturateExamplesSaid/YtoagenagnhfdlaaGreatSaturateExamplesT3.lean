/-
  The table of what is known, up to level 3.
-/
import Derived.Test.YtoagenagnhfdlaaGreatSaturateExamplesK3a
namespace Go.Proofs.YtoagenagnhfdlaaGreat.saturateExamples

noncomputable def tab3 : List Eng.KE := e28 :: tab2
theorem known3 : ∀ e ∈ tab3, Eng.Known Tryz.prog e := Eng.known_cons k28 (known2)

end Go.Proofs.YtoagenagnhfdlaaGreat.saturateExamples
