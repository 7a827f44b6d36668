/-
  A law without arguments: where the engine's run in empty memory ends in true, the call returns true in every world, and what was there is as it was.
-/
import Derived.Test.YtmdhcpambdaigaaDoorEngSound
import Derived.Below
namespace Go.Eng
set_option linter.unusedSectionVars false
variable [Gl]

noncomputable def isT : Option (AV × St) → Bool
  | some (.bool b, _) => b
  | _ => false

/-- the world holds the package-level variables: the blocks that nobody writes -/
structure Laid (w : World) where
  prot : Nat → Option (Array Value)
  pr : PR { dom := fun _ => False, blk := fun _ => 0, sh := fun _ => 0, bsz := fun _ => 0, prot := prot } w

theorem closed_law {P : Program} {pol : FuncId → Bool} (hmix : P.follows .mixedOrders = true) (hP : NoNum P) (n : Nat) (f : FuncId) (h : isT (callN P (run pol planOf P n) f [] ⟨.lf, 0⟩) = true) (w : World) (L : Laid w) :
    Calls P f #[] w fun e w' => e = .returned (.bool true) ∧ RowKit.Below w.heap.size w w' := by
  cases hc : callN P (run pol planOf P n) f [] ⟨.lf, 0⟩ with
  | none => rw [hc] at h; cases h
  | some r =>
    obtain ⟨v, S'⟩ := r
    rw [hc] at h
    cases v <;> simp only [isT, Bool.false_eq_true] at h
    rename_i b
    subst h
    have key := callN_ok (w := w) (vs := #[]) (run_ok hmix hP n).1 hc VRP.nil rfl (HR.empty _ w) L.pr (fun k _ _ hd => hd)
    refine Calls.mono key ?_
    rintro e w' ⟨v', E', rfl, hv, tr⟩
    simp only [VR] at hv
    subst hv
    refine ⟨rfl, tr.env.os, tr.env.tape, tr.env.output, tr.size, fun k hk => tr.frame k hk fun m c hm => ?_⟩
    simp at hm

/-- no function with a body bears the one name that the model treats apart -/
theorem noNum_of {P : Program} (h : (P.funcs.toList.all fun fn => fn.body.isNone || !(fn.name == "runtime.NumGoroutine")) = true) : NoNum P := by
  intro f fn hf hb
  have := List.all_eq_true.1 h fn (by simpa using Array.mem_of_getElem? hf)
  cases hbody : fn.body with
  | none => rw [hbody] at hb; cases hb
  | some c =>
    rw [hbody] at this
    simpa using this

end Go.Eng
