/-
  The engine's run of the law, computed by the kernel, ends in true; what it reads of the listed variables is theirs.
-/
import Derived.Test.YtjkdpgkpghcfbaaGreatDoorScriptExamplesT5
import Derived.Test.YtjkdpgkpghcfbaaGreatDoorRows
import Derived.ProofKit
import Derived.OpenShut
import Derived.Deep.DeepWitnessRowRef
namespace Go.Proofs.YtjkdpgkpghcfbaaGreatDoor.scriptExamples
open Go.ChangeShapes Go.WideShapes Go.ChangeAt Go.RowKit

theorem own : ownKnob Tryz.prog.godebug = none := by kernel_rfl

theorem computed : Eng.isV (.bool true) (Eng.pureX (Eng.mxTab sp tab5) Tryz.prog pol 100000 3 []) = true := by kernel_rfl

noncomputable instance mxI : Eng.Mx := Eng.mxTab sp tab5

theorem convG4 : Eng.conv Tryz.prog 4 778 Rows.laid_internal_strconv_uint64pow10 = some (match tabG4 with | .fp xs => xs | _ => []) := by kernel_rfl
theorem convG5 : Eng.conv Tryz.prog 4 798 Rows.laid_math_bits_deBruijn32tab = some (match tabG5 with | .fp xs => xs | _ => []) := by kernel_rfl
theorem convG6 : Eng.conv Tryz.prog 4 799 Rows.laid_math_bits_deBruijn64tab = some (match tabG6 with | .fp xs => xs | _ => []) := by kernel_rfl
theorem convG3 : Eng.conv Tryz.prog 4 551 Rows.laid_fulling_machine_table = some (match tabG3 with | .fp xs => xs | _ => []) := by kernel_rfl
noncomputable def laidAt (w : World) (h : laidMetH Tryz.prog Rows.scriptExamplesRow.laid w) : Eng.Laid w :=
  Eng.laid_of fun g v hg => by
    have h : laidMet Tryz.prog Rows.scriptExamplesRow.laid w := h
    obtain ⟨ps, hps, _⟩ := h
    have hg : (bif g.beq 3 then some tabG3 else bif g.beq 6 then some tabG6 else bif g.beq 5 then some tabG5 else bif g.beq 4 then some tabG4 else none) = some v := hg
    by_cases e3 : g = 3
    · subst e3
      have hv : v = tabG3 := (Option.some.inj hg).symm
      subst hv
      exact Eng.laid_vars hps "fulling/machine.table" _ (by simp [Rows.scriptExamplesRow]) 3 551 (by kernel_rfl) (by kernel_rfl) 4 _ convG3
    rw [Eng.nbeq_false e3] at hg
    have hg : (bif g.beq 6 then some tabG6 else bif g.beq 5 then some tabG5 else bif g.beq 4 then some tabG4 else none) = some v := hg
    by_cases e6 : g = 6
    · subst e6
      have hv : v = tabG6 := (Option.some.inj hg).symm
      subst hv
      exact Eng.laid_vars hps "math/bits.deBruijn64tab" _ (by simp [Rows.scriptExamplesRow]) 6 799 (by kernel_rfl) (by kernel_rfl) 4 _ convG6
    rw [Eng.nbeq_false e6] at hg
    have hg : (bif g.beq 5 then some tabG5 else bif g.beq 4 then some tabG4 else none) = some v := hg
    by_cases e5 : g = 5
    · subst e5
      have hv : v = tabG5 := (Option.some.inj hg).symm
      subst hv
      exact Eng.laid_vars hps "math/bits.deBruijn32tab" _ (by simp [Rows.scriptExamplesRow]) 5 798 (by kernel_rfl) (by kernel_rfl) 4 _ convG5
    rw [Eng.nbeq_false e5] at hg
    have hg : (bif g.beq 4 then some tabG4 else none) = some v := hg
    by_cases e4 : g = 4
    · subst e4
      have hv : v = tabG4 := (Option.some.inj hg).symm
      subst hv
      exact Eng.laid_vars hps "internal/strconv.uint64pow10" _ (by simp [Rows.scriptExamplesRow]) 4 778 (by kernel_rfl) (by kernel_rfl) 4 _ convG4
    rw [Eng.nbeq_false e4] at hg
    have hg : (none) = some v := hg
    cases hg

theorem walk (w : World) (h : laidMetH Tryz.prog Rows.scriptExamplesRow.laid w) : Calls Tryz.prog 3 #[] w fun e w' => e = .returned (.bool true) ∧ Below w.heap.size w w' :=
  Eng.law_of mixed (Eng.mxTab_ok spOk known5) noNum computed w (laidAt w h)

end Go.Proofs.YtjkdpgkpghcfbaaGreatDoor.scriptExamples
