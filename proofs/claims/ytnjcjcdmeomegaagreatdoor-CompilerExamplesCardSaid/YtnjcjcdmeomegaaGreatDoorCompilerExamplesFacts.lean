/-
  The row's closed facts, the heavy ones in pieces.
-/
import Derived.Test.YtnjcjcdmeomegaaGreatDoorCompilerExamplesFactsa
import Derived.Test.YtnjcjcdmeomegaaGreatDoorCompilerExamplesFactsb
import Derived.Test.YtnjcjcdmeomegaaGreatDoorCompilerExamplesFactsl
import Derived.Test.YtnjcjcdmeomegaaGreatDoorCompilerExamplesFactsm
import Derived.Test.YtnjcjcdmeomegaaGreatDoorCompilerExamplesFactsn
namespace Go.Proofs.YtnjcjcdmeomegaaGreatDoor.compilerExamples
theorem nt : Tryz.prog.types.size = 769 := by kernel_rfl
theorem j1a : (List.range Tryz.prog.types.size).all (rowFine Tryz.prog) = true := List.all_eq_true.2 fun t ht => by
  have h := List.mem_range.1 ht
  rw [nt] at h
  by_cases h0 : t < 384
  · exact List.all_eq_true.1 j1p0 t (List.mem_range'_1.2 (by omega))
  exact List.all_eq_true.1 j1p1 t (List.mem_range'_1.2 (by omega))
theorem j1b : (Tryz.prog.globals.all fun g => decide (g.type < Tryz.prog.types.size)) = true := by kernel_rfl
theorem j1c : (Tryz.prog.funcs.all fun f => f.params.all fun t => decide (t < Tryz.prog.types.size)) = true := by kernel_rfl
theorem j1 : laidOutB Tryz.prog = true := by unfold laidOutB; rw [j1a, j1b, j1c]; rfl
theorem both {a b : Bool} (h : a = true) (k : b = true) : (a && b) = true := by rw [h, k]; rfl
theorem facts : joinedFacts Tryz.pinned.checked.prog 3 Tryz.f3 (OpenSpec.ofChange Rows.compilerExamplesSpec).bare Rows.compilerExamplesRow = true := both (both (both (both (both (both (both (both (both (both (both (both (both (both (both (both (both (both (both (both (both (both (both (both (both (both (both (both (both (both (both ((by kernel_rfl)) j1) j2) (by kernel_rfl)) (by kernel_rfl)) (by kernel_rfl)) (by kernel_rfl)) (by kernel_rfl)) (by kernel_rfl)) j9) j10) j11) j12) (by kernel_rfl)) (by kernel_rfl)) (by kernel_rfl)) (by kernel_rfl)) (by kernel_rfl)) (by kernel_rfl)) (by kernel_rfl)) (by kernel_rfl)) (by kernel_rfl)) (by kernel_rfl)) (by kernel_rfl)) j24) j25) (by kernel_rfl)) (by kernel_rfl)) (by kernel_rfl)) (by kernel_rfl)) (by kernel_rfl)) (by kernel_rfl)
end Go.Proofs.YtnjcjcdmeomegaaGreatDoor.compilerExamples
