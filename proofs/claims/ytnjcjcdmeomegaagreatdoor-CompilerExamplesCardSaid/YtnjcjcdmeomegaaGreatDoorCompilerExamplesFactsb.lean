/-
  The row's closed facts, the heavy ones in pieces.
-/
import Derived.Test.YtnjcjcdmeomegaaGreatDoorRows
import Derived.JoinedOf
import Derived.KernelRfl
namespace Go.Proofs.YtnjcjcdmeomegaaGreatDoor.compilerExamples
theorem j1p1 : (List.range' 384 385).all (rowFine Tryz.prog) = true := by kernel_rfl
end Go.Proofs.YtnjcjcdmeomegaaGreatDoor.compilerExamples
