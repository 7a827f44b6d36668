/-
  The row's closed facts, the heavy ones in pieces.
-/
import Derived.Test.YtjkdpgkpghcfbaaGreatDoorScriptExamplesFactsk
import Derived.Test.YtjkdpgkpghcfbaaGreatDoorRows
import GoSem.ClaimGoes
namespace Go.Proofs.YtjkdpgkpghcfbaaGreatDoor.scriptExamples
theorem j9 : (Rows.scriptExamplesRow.inPlace == Tryz.prog.inPlace 3) = true := by
  have h : (Rows.scriptExamplesRow.inPlace == cl.filterMap fun g => (Tryz.prog.funcs[g]?).bind fun fn => if fn.ours || fn.body.isNone || fn.name == "runtime.NumGoroutine" then some fn.name else none) = true := by kernel_rfl
  unfold Program.inPlace
  rw [clo]
  exact h
theorem un : Tryz.prog.unfollowed 3 = true := by
  have h : (cl.any fun g => (Tryz.prog.funcs[g]?).any fun fn => match fn.body with | some c => c.unfollowed | none => entryCalls fn) = true := by kernel_rfl
  unfold Program.unfollowed
  rw [clo]
  exact h
theorem j10 : (Rows.scriptExamplesRow.unfollowed == Tryz.prog.unfollowed 3) = true := by rw [un]; rfl
theorem j11 : (Rows.scriptExamplesRow.recurses == Tryz.prog.recurses 3) = true := by unfold Program.recurses; rw [un]; rfl
theorem j12 : (Rows.scriptExamplesRow.named == Tryz.prog.varsNamed 3) = true := by
  have h : (Rows.scriptExamplesRow.named == ((((cl).flatMap fun g => ((Tryz.prog.funcs[g]?).bind (·.body)).elim [] Code.globalsNamed).eraseDups).filterMap (fun g => (Tryz.prog.globals[g]?).map (·.name)) ++ (cl).filterMap fun g => (Tryz.prog.funcs[g]?).bind fun fn => if fn.body.isNone then entryReads.lookup fn.name else none).eraseDups) = true := by kernel_rfl
  unfold Program.varsNamed
  rw [clo]
  exact h
theorem g0 : Tryz.prog.goes 3 = false := by
  have h : ((cl.any fun g => (Tryz.prog.funcs[g]?).any Func.goes) || (true && Tryz.prog.funcs.any Func.goes)) = false := by kernel_rfl
  unfold Program.goes
  rw [clo, un]
  exact h
end Go.Proofs.YtjkdpgkpghcfbaaGreatDoor.scriptExamples
