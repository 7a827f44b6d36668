/-
  What the row lists of variables is what the program's text lays: the given tie, its closed facts one by one.
-/
import Derived.Test.YtmanhjinplhfjaaGreatDoorValidateExamplesTieb
import Derived.Test.YtmanhjinplhfjaaGreatDoorValidateExamplesTied
namespace Go.Proofs.YtmanhjinplhfjaaGreatDoor.validateExamples
theorem nd (b n : Nat) : ((List.range n).map (MemPlace.cell b)).Nodup := by
  unfold List.Nodup
  rw [List.pairwise_map]
  exact List.nodup_range.imp fun h e => h (MemPlace.cell.inj e).2
theorem y2 : plL.Nodup := by
  unfold plL
  simp only [List.nodup_append, nd, true_and, List.mem_append, List.mem_map]
  grind
/-- the row's places: the pinned tables' stand ahead -/
def plR : List MemPlace := plL
theorem y2r : plR.Nodup := y2
theorem t9 (os : Os) (tape) : (DataW.laidRun Tryz.prog (varsWorld Tryz.prog 400 (varsId Tryz.prog) os tape).memory 8 (lst.map (·.1))).map (fun x => decide x.2.Nodup && laidRowsB Tryz.prog (varsWorld Tryz.prog 400 (varsId Tryz.prog) os tape).memory x.2) = some true := by
  have h8 := t8 os tape
  have h1 := y1 os tape
  unfold pl at h1
  cases hx : DataW.laidRun Tryz.prog (varsWorld Tryz.prog 400 (varsId Tryz.prog) os tape).memory 8 (lst.map (·.1)) with
  | none => rw [hx] at h8; cases h8
  | some x =>
    rw [hx, Option.map_some, Option.getD_some] at h1
    rw [Option.map_some, h1, decide_eq_true y2, y3 os tape]
    rfl
theorem tie : Tryz.prog.laidByTextLater lst [.data, .data, .data, .data] true := Program.laidByTextLater_by_run 400 8 t1 t2 t3 t4 t5 t6 t7 t8 t9
theorem row_tie : Rows.validateExamplesRow.laidByTextAt .later Tryz.pinned [.data, .data, .data, .data] true := OpenClaim.laidByTextAt_later rfl rfl tie noOwnUnsafe
end Go.Proofs.YtmanhjinplhfjaaGreatDoor.validateExamples
