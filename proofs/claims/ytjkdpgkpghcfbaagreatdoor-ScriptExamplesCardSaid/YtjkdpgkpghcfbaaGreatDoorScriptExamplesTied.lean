/-
  The given tie's closed facts, one by one: the rows in the memory.
-/
import Derived.Test.YtjkdpgkpghcfbaaGreatDoorScriptExamplesTiec
namespace Go.Proofs.YtjkdpgkpghcfbaaGreatDoor.scriptExamples
theorem y3 (os : Os) (tape) : laidRowsB Tryz.prog (varsWorld Tryz.prog 400 (varsId Tryz.prog) os tape).memory plL = true := by kernel_rfl
end Go.Proofs.YtjkdpgkpghcfbaaGreatDoor.scriptExamples
