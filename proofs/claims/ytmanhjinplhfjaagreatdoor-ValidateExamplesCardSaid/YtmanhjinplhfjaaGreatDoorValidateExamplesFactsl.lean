/-
  The row's closed facts, the heavy ones in pieces.
-/
import Derived.Test.YtmanhjinplhfjaaGreatDoorValidateExamplesFactsk
import Derived.Test.YtmanhjinplhfjaaGreatDoorRows
import GoSem.ClaimGoes
namespace Go.Proofs.YtmanhjinplhfjaaGreatDoor.validateExamples
theorem j9 : (Rows.validateExamplesRow.inPlace == Tryz.prog.inPlace 3) = true := by
  have h : (Rows.validateExamplesRow.inPlace == cl.filterMap fun g => (Tryz.prog.funcs[g]?).bind fun fn => if fn.ours || fn.body.isNone || fn.name == "runtime.NumGoroutine" then some fn.name else none) = true := by kernel_rfl
  unfold Program.inPlace
  rw [clo]
  exact h
theorem un : Tryz.prog.unfollowed 3 = true := by
  have h : (cl.any fun g => (Tryz.prog.funcs[g]?).any fun fn => match fn.body with | some c => c.unfollowed | none => entryCalls fn) = true := by kernel_rfl
  unfold Program.unfollowed
  rw [clo]
  exact h
theorem j10 : (Rows.validateExamplesRow.unfollowed == Tryz.prog.unfollowed 3) = true := by rw [un]; rfl
theorem j11 : (Rows.validateExamplesRow.recurses == Tryz.prog.recurses 3) = true := by unfold Program.recurses; rw [un]; rfl
theorem j12 : (Rows.validateExamplesRow.named == Tryz.prog.varsNamed 3) = true := by
  have h : (Rows.validateExamplesRow.named == ((((cl).flatMap fun g => ((Tryz.prog.funcs[g]?).bind (·.body)).elim [] Code.globalsNamed).eraseDups).filterMap (fun g => (Tryz.prog.globals[g]?).map (·.name)) ++ (cl).filterMap fun g => (Tryz.prog.funcs[g]?).bind fun fn => if fn.body.isNone then entryReads.lookup fn.name else none).eraseDups) = true := by kernel_rfl
  unfold Program.varsNamed
  rw [clo]
  exact h
theorem ga : (cl.any fun g => (Tryz.prog.funcs[g]?).any Func.goes) = false := by kernel_rfl
theorem gb : Tryz.prog.funcs.any Func.goes = false := by kernel_rfl
theorem g0 : Tryz.prog.goes 3 = false := by
  unfold Program.goes
  rw [clo, un, ga, gb]
  rfl
end Go.Proofs.YtmanhjinplhfjaaGreatDoor.validateExamples
