/-
  The row's closed facts, the heavy ones in pieces.
-/
import Derived.Test.YtjkdpgkpghcfbaaGreatDoorProg
import Derived.JoinedOf
import Derived.KernelRfl
namespace Go.Proofs.YtjkdpgkpghcfbaaGreatDoor.scriptExamples
theorem j1p0 : (List.range' 0 408).all (rowFine Tryz.prog) = true := by kernel_rfl
end Go.Proofs.YtjkdpgkpghcfbaaGreatDoor.scriptExamples
