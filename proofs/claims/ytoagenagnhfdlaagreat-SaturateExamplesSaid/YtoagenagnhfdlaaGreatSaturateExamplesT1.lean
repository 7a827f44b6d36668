/-
  The table of what is known, up to level 1.
-/
import Derived.Test.YtoagenagnhfdlaaGreatSaturateExamplesK1a
import Derived.Test.YtoagenagnhfdlaaGreatSaturateExamplesK1b
import Derived.Test.YtoagenagnhfdlaaGreatSaturateExamplesK1c
import Derived.Test.YtoagenagnhfdlaaGreatSaturateExamplesK1d
import Derived.Test.YtoagenagnhfdlaaGreatSaturateExamplesK1e
namespace Go.Proofs.YtoagenagnhfdlaaGreat.saturateExamples

noncomputable def tab1 : List Eng.KE := e29 :: e26 :: e25 :: e24 :: e23 :: e22 :: e21 :: e20 :: e19 :: e18 :: e17 :: e16 :: e15 :: e14 :: e13 :: e12 :: e11 :: e10 :: e9 :: e8 :: e7 :: e6 :: e5 :: e4 :: e3 :: e2 :: e1 :: e0 :: tab0
theorem known1 : ∀ e ∈ tab1, Eng.Known Tryz.prog e := Eng.known_cons k29 (Eng.known_cons k26 (Eng.known_cons k25 (Eng.known_cons k24 (Eng.known_cons k23 (Eng.known_cons k22 (Eng.known_cons k21 (Eng.known_cons k20 (Eng.known_cons k19 (Eng.known_cons k18 (Eng.known_cons k17 (Eng.known_cons k16 (Eng.known_cons k15 (Eng.known_cons k14 (Eng.known_cons k13 (Eng.known_cons k12 (Eng.known_cons k11 (Eng.known_cons k10 (Eng.known_cons k9 (Eng.known_cons k8 (Eng.known_cons k7 (Eng.known_cons k6 (Eng.known_cons k5 (Eng.known_cons k4 (Eng.known_cons k3 (Eng.known_cons k2 (Eng.known_cons k1 (Eng.known_cons k0 (known0))))))))))))))))))))))))))))

end Go.Proofs.YtoagenagnhfdlaaGreat.saturateExamples
