/-
  ValidateExamples returns true, whatever the world and the tape: the engine's run of it, computed by the kernel, ends in true; its pure calls are known one by one; what it reads of the listed variables is theirs; sort.Slice at no element or one is the library's contract. The row's statement and its card. No conditions.
-/
import Derived.Test.YtmanhjinplhfjaaGreatDoorValidateExamplesLawa
import Derived.Test.YtmanhjinplhfjaaGreatDoorValidateExamplesLawb
import Derived.Test.YtmanhjinplhfjaaGreatDoorValidateExamplesLawc
import Derived.Test.YtmanhjinplhfjaaGreatDoorValidateExamplesFacts
import Derived.Test.YtmanhjinplhfjaaGreatDoorCards
import Derived.ProofKit
import Derived.OpenShut
import Derived.Deep.DeepWitnessRowRef
namespace Go.Proofs.YtmanhjinplhfjaaGreatDoor.validateExamples
open Go.ChangeShapes Go.WideShapes Go.ChangeAt Go.RowKit

theorem contract (H : Type) (enc : TypeId × Value → H) (W : World) (args : Array Value) (ds gs : List (DataW H)) (before : List MemPlace)
    (hW : DataW.Whole enc Tryz.prog Tryz.f3.params.toList Rows.validateExamplesSpec.vars false W args.toList ds gs before) (hL : laidMetH Tryz.prog Rows.validateExamplesRow.laid W) :
    Calls Tryz.prog 3 args W fun e W' => ∃ v, e = .returned v ∧ Rows.validateExamplesSpec.post enc Tryz.prog Tryz.f3 false true false false W args v W' := by
  have hW' := hW
  obtain ⟨p, q, hA0, hV, rfl, hfz, hnd⟩ := hW
  have hA : DataW.TrodAll enc Tryz.prog W 0 (fun _ => true) true Tryz.f3.params.toList args.toList ds p := hA0
  rw [Tryz.params3] at hA
  obtain ⟨rfl, rfl, rfl⟩ := trodAll_none hA
  obtain ⟨rfl, rfl⟩ := trodVars_none hV
  clear hA0
  simp only [List.append_nil] at hW'
  refine (walk W hL).mono fun e W' ⟨he, hb⟩ => ?_
  subst he
  refine ⟨_, rfl, [], [], [], [], [], [], hW', ?_, rfl, rfl, hb.frame _, fun h => by cases h⟩
  exact trodAll_cons_mk (shut_bool Tryz.underlying4 _) trodAll_mk0

set_option maxRecDepth 100000 in
theorem lifted (os : Os) (started : os.Started) (H : Type) (enc : TypeId × Value → H) (F : Stop.Interp) :
    ReturnsInHanded {} Tryz.checked os 3 .any ((OpenSpec.ofChange Rows.validateExamplesSpec).preRow enc Tryz.prog Tryz.f3 Rows.validateExamplesRow.domain false Rows.validateExamplesRow.laid) (((OpenSpec.ofChange Rows.validateExamplesSpec).at F).post enc Tryz.prog Tryz.f3 false true false false) := by
  obtain ⟨places, hx⟩ := reads os enc
  refine returnsInHanded_of_row (C := Tryz.checked) (s := OpenSpec.ofChange Rows.validateExamplesSpec) own started (by kernel_rfl) Tryz.func3
    (witness_row_atRef (enc := enc) (C := Tryz.checked) false (laidWorld os) #[] rfl (by kernel_rfl) (by kernel_rfl) (by kernel_rfl)
      (OpenSpec.preRow_of_cond 8 hx (by kernel_rfl) (fun k hk => by cases hk) (by kernel_rfl) (laid_met os))) ?_
  intro W base args ds gs before hval hW _ _ _ hL _ _
  exact contract H enc W args ds gs before hW hL

theorem said : Rows.ValidateExamplesSaid :=
  OpenClaim.holds_of_cond 3 Tryz.f3 rfl rfl rfl rfl rfl rfl rfl ⟨rfl, rfl, rfl, rfl, rfl⟩ rfl rfl rfl rfl rfl (by kernel_rfl) Tryz.func3 facts
    (of_decide_eq_true (by kernel_rfl)) (by unfold Func.isWrapper; first | (rw [if_pos (by decide +kernel)]; kernel_rfl) | (rw [if_neg (by decide +kernel)]; exact ⟨rfl, rfl⟩))
    (fun os started H enc _ F => by rw [OpenClaim.pre_eq_preRow]; exact lifted os started H enc F)

/-- No parameter at all; the program's own looks are off: what the card asks. -/
theorem plain (f : FuncId) (fn : Func) (hf : Tryz.pinned.checked.prog.funcNamed "fulling/fullinglaw40.ValidateExamples" = some f) (hfn : Tryz.pinned.checked.prog.funcs[f]? = some fn) :
    false = Tryz.pinned.checked.prog.looks [] ∧ ∀ (j : Nat) t, fn.params[j]? = some t → Tryz.pinned.checked.prog.wantsStandIn t = false := by
  obtain rfl : f = 3 := Option.some.inj ((show Tryz.prog.funcNamed "fulling/fullinglaw40.ValidateExamples" = some 3 by kernel_rfl).symm.trans hf) |>.symm
  obtain rfl : fn = Tryz.f3 := (Option.some.inj (Tryz.func3.symm.trans hfn)).symm
  refine ⟨looksOff, fun j t ht => ?_⟩
  rw [Tryz.params3] at ht
  simp at ht

theorem goesNot : false = Rows.validateExamplesRow.goesBy Tryz.prog := by
  have f : Tryz.prog.funcNamed Rows.validateExamplesRow.func = some 3 := by kernel_rfl
  have h : Tryz.prog.goesFrom Rows.validateExamplesRow.func = false := by
    unfold Program.goesFrom
    rw [f, Option.any_some]
    exact g0
  have e : Rows.validateExamplesRow.start = .entering := rfl
  unfold OpenClaim.goesBy Program.goesAt
  rw [h, e]
  rfl

theorem card : Rows.ValidateExamplesCardSaid :=
  Claim7.holds_tied_plain_at .later [] _ _ _ _ said (fun _ h => by cases h) (by kernel_rfl) (fun _ h => by cases h) row_tie rfl ⟨rfl, rfl⟩ (by kernel_rfl) rfl plain goesNot
end Go.Proofs.YtmanhjinplhfjaaGreatDoor.validateExamples
