/-
  The row's closed facts, the heavy ones in pieces.
-/
import Derived.Test.YtjkdpgkpghcfbaaGreatDoorProg
import Derived.JoinedOf
import Derived.KernelRfl
namespace Go.Proofs.YtjkdpgkpghcfbaaGreatDoor.scriptExamples
theorem j24 : Tryz.prog.stopsHeard = true := by kernel_rfl
theorem j25 : Tryz.prog.mayEnter = true := by kernel_rfl
end Go.Proofs.YtjkdpgkpghcfbaaGreatDoor.scriptExamples
