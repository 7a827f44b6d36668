/-
  SaturateExamples returns true, whatever the world and the tape: the engine's run of it, computed by the kernel, ends in true; its pure calls are known one by one; sort.Slice at no element or one is the library's contract. No conditions.
-/
import Derived.Test.YtoagenagnhfdlaaGreatSaturateExamplesT3
import Derived.Test.YtoagenagnhfdlaaGreatSaturateExamplesFacts
import Derived.ProofKit
import Derived.OpenShut
namespace Go.Proofs.YtoagenagnhfdlaaGreat.saturateExamples
open Go.ChangeShapes Go.WideShapes Go.ChangeAt Go.RowKit

theorem own : ownKnob Tryz.prog.godebug = none := by kernel_rfl

theorem computed : Eng.isV (.bool true) (Eng.pureX (Eng.mxTab tn tab3) Tryz.prog pol 100000 3 []) = true := by kernel_rfl

noncomputable def laid (w : World) : Eng.Laid w :=
  ⟨fun _ => none, ⟨(fun _ _ h => by cases h), (fun _ _ h => by cases (show (none : Option Eng.AV) = some _ from h))⟩⟩

theorem walk (w : World) : Calls Tryz.prog 3 #[] w fun e w' => e = .returned (.bool true) ∧ Below w.heap.size w w' :=
  Eng.law_of mixed (Eng.mxTab_ok tiny known3) noNum computed w (laid w)

set_option maxRecDepth 100000 in
theorem lifted (os : Os) (started : os.Started) (H : Type) (enc : TypeId × Value → H) :
    ReturnsInHanded {} Tryz.checked os 3 .any (Rows.saturateExamplesSpec.pre6 enc Tryz.prog Tryz.f3 Rows.saturateExamplesRow.domain false) (Rows.saturateExamplesSpec.post enc Tryz.prog Tryz.f3 false true false false) := by
  refine returnsInHanded_of_change (C := Tryz.checked) own started (by kernel_rfl) Tryz.func3
    (ChangeSpec.witness6 (enc := enc) (C := Tryz.checked) false ⟨#[], #[], []⟩ 8 (by kernel_rfl) (by kernel_rfl) (by kernel_rfl) (by kernel_rfl)) ?_
  intro W base args ds gs before hval0 hW hcnd _
  have hW' := hW
  obtain ⟨p, q, hA0, hV, rfl, hfz, hnd⟩ := hW
  have hA : DataW.TrodAll enc Tryz.prog W 0 (fun _ => true) true Tryz.f3.params.toList args.toList ds p := hA0
  rw [Tryz.params3] at hA
  obtain ⟨rfl, rfl, rfl⟩ := trodAll_none hA
  obtain ⟨rfl, rfl⟩ := trodVars_none hV
  clear hA0 hval0
  simp only [List.append_nil] at hW'
  refine (walk W).mono fun e W' ⟨he, hb⟩ => ?_
  subst he
  refine ⟨_, rfl, [], [], [], [], [], [], hW', ?_, rfl, rfl, hb.frame _, fun h => by cases h⟩
  exact trodAll_cons_mk (shut_bool Tryz.underlying4 _) trodAll_mk0

theorem over : Rows.saturateExamplesRow.holds Tryz.pinned (OpenSpec.ofChange Rows.saturateExamplesSpec) :=
  OpenClaim.holds_of_wide 3 Tryz.f3 rfl rfl rfl rfl rfl rfl rfl ⟨rfl, rfl, rfl, rfl, rfl⟩ rfl rfl rfl rfl rfl (by kernel_rfl) Tryz.func3 facts
    (of_decide_eq_true (by kernel_rfl)) (by unfold Func.isWrapper; first | (rw [if_pos (by decide +kernel)]; kernel_rfl) | (rw [if_neg (by decide +kernel)]; exact ⟨rfl, rfl⟩))
    (fun os started H enc _ => lifted os started H enc)

theorem proved : Rows.SaturateExamplesSaid := over
end Go.Proofs.YtoagenagnhfdlaaGreat.saturateExamples
