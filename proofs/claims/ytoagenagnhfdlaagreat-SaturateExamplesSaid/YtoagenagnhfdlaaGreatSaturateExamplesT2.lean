/-
  The table of what is known, up to level 2.
-/
import Derived.Test.YtoagenagnhfdlaaGreatSaturateExamplesK2a
namespace Go.Proofs.YtoagenagnhfdlaaGreat.saturateExamples

noncomputable def tab2 : List Eng.KE := e27 :: tab1
theorem known2 : ∀ e ∈ tab2, Eng.Known Tryz.prog e := Eng.known_cons k27 (known1)

end Go.Proofs.YtoagenagnhfdlaaGreat.saturateExamples
