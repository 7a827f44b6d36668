/-
  The engine's run of the law, computed by the kernel, ends in true; what it reads of the listed variables is theirs.
-/
import Derived.Test.YtmanhjinplhfjaaGreatDoorValidateExamplesT10
import Derived.Test.YtmanhjinplhfjaaGreatDoorRows
import Derived.ProofKit
import Derived.OpenShut
import Derived.Deep.DeepWitnessRowRef
namespace Go.Proofs.YtmanhjinplhfjaaGreatDoor.validateExamples
open Go.ChangeShapes Go.WideShapes Go.ChangeAt Go.RowKit

theorem own : ownKnob Tryz.prog.godebug = none := by kernel_rfl

theorem computed : Eng.isV (.bool true) (Eng.pureX (Eng.mxTab sp tab10) Tryz.prog pol 100000 3 []) = true := by kernel_rfl

noncomputable instance mxI : Eng.Mx := Eng.mxTab sp tab10

theorem convG0 : Eng.conv Tryz.prog 4 575 Rows.laid_fulling_machine_table = some (match tabG0 with | .fp xs => xs | _ => []) := by kernel_rfl
theorem convG1 : Eng.conv Tryz.prog 4 762 Rows.laid_internal_strconv_uint64pow10 = some (match tabG1 with | .fp xs => xs | _ => []) := by kernel_rfl
theorem convG2 : Eng.conv Tryz.prog 4 774 Rows.laid_math_bits_deBruijn32tab = some (match tabG2 with | .fp xs => xs | _ => []) := by kernel_rfl
theorem convG3 : Eng.conv Tryz.prog 4 775 Rows.laid_math_bits_deBruijn64tab = some (match tabG3 with | .fp xs => xs | _ => []) := by kernel_rfl
noncomputable def laidAt (w : World) (h : laidMetH Tryz.prog Rows.validateExamplesRow.laid w) : Eng.Laid w :=
  Eng.laid_of fun g v hg => by
    have h : laidMet Tryz.prog Rows.validateExamplesRow.laid w := h
    obtain ⟨ps, hps, _⟩ := h
    have hg : (bif g.beq 3 then some tabG3 else bif g.beq 2 then some tabG2 else bif g.beq 1 then some tabG1 else bif g.beq 0 then some tabG0 else none) = some v := hg
    by_cases e3 : g = 3
    · subst e3
      have hv : v = tabG3 := (Option.some.inj hg).symm
      subst hv
      exact Eng.laid_vars hps "math/bits.deBruijn64tab" _ (by simp [Rows.validateExamplesRow]) 3 775 (by kernel_rfl) (by kernel_rfl) 4 _ convG3
    rw [Eng.nbeq_false e3] at hg
    have hg : (bif g.beq 2 then some tabG2 else bif g.beq 1 then some tabG1 else bif g.beq 0 then some tabG0 else none) = some v := hg
    by_cases e2 : g = 2
    · subst e2
      have hv : v = tabG2 := (Option.some.inj hg).symm
      subst hv
      exact Eng.laid_vars hps "math/bits.deBruijn32tab" _ (by simp [Rows.validateExamplesRow]) 2 774 (by kernel_rfl) (by kernel_rfl) 4 _ convG2
    rw [Eng.nbeq_false e2] at hg
    have hg : (bif g.beq 1 then some tabG1 else bif g.beq 0 then some tabG0 else none) = some v := hg
    by_cases e1 : g = 1
    · subst e1
      have hv : v = tabG1 := (Option.some.inj hg).symm
      subst hv
      exact Eng.laid_vars hps "internal/strconv.uint64pow10" _ (by simp [Rows.validateExamplesRow]) 1 762 (by kernel_rfl) (by kernel_rfl) 4 _ convG1
    rw [Eng.nbeq_false e1] at hg
    have hg : (bif g.beq 0 then some tabG0 else none) = some v := hg
    by_cases e0 : g = 0
    · subst e0
      have hv : v = tabG0 := (Option.some.inj hg).symm
      subst hv
      exact Eng.laid_vars hps "fulling/machine.table" _ (by simp [Rows.validateExamplesRow]) 0 575 (by kernel_rfl) (by kernel_rfl) 4 _ convG0
    rw [Eng.nbeq_false e0] at hg
    have hg : (none) = some v := hg
    cases hg

theorem walk (w : World) (h : laidMetH Tryz.prog Rows.validateExamplesRow.laid w) : Calls Tryz.prog 3 #[] w fun e w' => e = .returned (.bool true) ∧ Below w.heap.size w w' :=
  Eng.law_of mixed (Eng.mxTab_ok spOk known10) noNum computed w (laidAt w h)

end Go.Proofs.YtmanhjinplhfjaaGreatDoor.validateExamples
