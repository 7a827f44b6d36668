/-
  ExplainExamples returns true, whatever the world and the tape: the engine's run of it, computed by the kernel, ends in true. No conditions.
-/
import Derived.Test.YtffkjnaocflmdaaRows
import Derived.Test.YtffkjnaocflmdaaEngTop
import Derived.ProofKit
import Derived.OpenShut
import Derived.KernelRfl
namespace Go.Proofs.Ytffkjnaocflmdaa.explainExamples
open Go.ChangeShapes Go.WideShapes Go.ChangeAt Go.RowKit

theorem own : ownKnob Try.prog.godebug = none := by kernel_rfl

theorem noNum : Eng.NoNum Try.prog := Eng.noNum_of (by kernel_rfl)

theorem mixed : Try.prog.follows .mixedOrders = true := Try.checked.mixed

theorem computed : Eng.isT (Eng.callN Try.prog (Eng.run (fun _ => false) Eng.planOf Try.prog 100000) 3 [] ⟨.lf, 0⟩) = true := by kernel_rfl

theorem walk (w : World) : Calls Try.prog 3 #[] w fun e w' => e = .returned (.bool true) ∧ Below w.heap.size w w' :=
  Eng.closed_law mixed noNum 100000 3 computed w

set_option maxRecDepth 100000 in
theorem lifted (os : Os) (started : os.Started) (H : Type) (enc : TypeId × Value → H) :
    ReturnsInHanded {} Try.checked os 3 .any (Rows.explainExamplesSpec.pre6 enc Try.prog Try.f3 Rows.explainExamplesRow.domain false) (Rows.explainExamplesSpec.post enc Try.prog Try.f3 false true false false) := by
  refine returnsInHanded_of_change (C := Try.checked) own started (by kernel_rfl) Try.func3
    (ChangeSpec.witness6 (enc := enc) (C := Try.checked) false ⟨#[], #[], []⟩ 8 (by kernel_rfl) (by kernel_rfl) (by kernel_rfl) (by kernel_rfl)) ?_
  intro W base args ds gs before hval0 hW hcnd _
  have hW' := hW
  obtain ⟨p, q, hA0, hV, rfl, hfz, hnd⟩ := hW
  have hA : DataW.TrodAll enc Try.prog W 0 (fun _ => true) true Try.f3.params.toList args.toList ds p := hA0
  rw [Try.params3] at hA
  obtain ⟨rfl, rfl, rfl⟩ := trodAll_none hA
  obtain ⟨rfl, rfl⟩ := trodVars_none hV
  clear hA0 hval0
  simp only [List.append_nil] at hW'
  refine (walk W).mono fun e W' ⟨he, hb⟩ => ?_
  subst he
  refine ⟨_, rfl, [], [], [], [], [], [], hW', ?_, rfl, rfl, hb.frame _, fun h => by cases h⟩
  exact trodAll_cons_mk (shut_bool Try.underlying4 _) trodAll_mk0

theorem over : Rows.explainExamplesRow.holds Try.pinned (OpenSpec.ofChange Rows.explainExamplesSpec) :=
  OpenClaim.holds_of_wide 3 Try.f3 rfl rfl rfl rfl rfl rfl rfl ⟨rfl, rfl, rfl, rfl, rfl⟩ rfl rfl rfl rfl rfl (by kernel_rfl) Try.func3 (by kernel_rfl)
    (of_decide_eq_true (by kernel_rfl)) (by unfold Func.isWrapper; first | (rw [if_pos (by decide +kernel)]; kernel_rfl) | (rw [if_neg (by decide +kernel)]; exact ⟨rfl, rfl⟩))
    (fun os started H enc _ => lifted os started H enc)

theorem proved : Rows.ExplainExamplesSaid := over
end Go.Proofs.Ytffkjnaocflmdaa.explainExamples
