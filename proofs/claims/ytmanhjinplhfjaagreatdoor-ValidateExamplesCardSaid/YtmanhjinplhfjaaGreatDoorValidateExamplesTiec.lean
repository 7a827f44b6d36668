/-
  The given tie's closed facts, one by one: the places of what the variables hold.
-/
import Derived.Test.YtmanhjinplhfjaaGreatDoorValidateExamplesTiea
namespace Go.Proofs.YtmanhjinplhfjaaGreatDoor.validateExamples
noncomputable def pl (os : Os) (tape : Tape) : List MemPlace := ((DataW.laidRun Tryz.prog (varsWorld Tryz.prog 400 (varsId Tryz.prog) os tape).memory 8 (lst.map (·.1))).map (·.2)).getD []
def plL : List MemPlace := (List.range 1).map (MemPlace.cell 0) ++ (List.range 259).map (MemPlace.cell 9) ++ (List.range 20).map (MemPlace.cell 1) ++ (List.range 32).map (MemPlace.cell 2) ++ (List.range 64).map (MemPlace.cell 3)
theorem y1 (os : Os) (tape) : pl os tape = plL := by kernel_rfl
end Go.Proofs.YtmanhjinplhfjaaGreatDoor.validateExamples
