/-
  What is known up to level 6, and what level 7 speaks of.
-/
import Derived.Test.YtmanhjinplhfjaaGreatDoorValidateExamplesK6a
namespace Go.Proofs.YtmanhjinplhfjaaGreatDoor.validateExamples
theorem k178 : Eng.Known Tryz.prog e178 := Eng.known_of mixed (Eng.mxTab_ok spOk known5) noNum c178
theorem k179 : Eng.Known Tryz.prog e179 := Eng.known_of mixed (Eng.mxTab_ok spOk known5) noNum c179
theorem k322 : Eng.Known Tryz.prog e322 := Eng.known_of mixed (Eng.mxTab_ok spOk known5) noNum c322
noncomputable def tab6 : List Eng.KE := e322 :: e179 :: e178 :: tab5
theorem known6 : ∀ e ∈ tab6, Eng.Known Tryz.prog e := Eng.known_cons k322 (Eng.known_cons k179 (Eng.known_cons k178 (known5)))
/-- fulling/fullingref32.Allocate (4939 operations) -/
noncomputable def e180 : Eng.KE := (161, [.agg q85], .tup [.agg q87, .int .i64 0])
/-- fulling/fullingref32.Sound (1596 operations) -/
noncomputable def e181 : Eng.KE := (314, [.agg q85, .agg q87], .bool true)

end Go.Proofs.YtmanhjinplhfjaaGreatDoor.validateExamples
