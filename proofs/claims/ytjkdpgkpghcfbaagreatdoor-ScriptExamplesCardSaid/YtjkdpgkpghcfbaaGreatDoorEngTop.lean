/-
  A law without arguments: where the engine's run in empty memory ends in true, the call returns true in every world, and what was there is as it was.
-/
import Derived.Test.YtjkdpgkpghcfbaaGreatDoorEngSound
import Derived.Below
set_option linter.unusedSimpArgs false
set_option linter.unusedVariables false
namespace Go.Eng
set_option linter.unusedSectionVars false
variable [Gl] [Mx]

noncomputable def isT : Option (AV × St) → Bool
  | some (.bool b, _) => b
  | _ => false

/-- the world holds the package-level variables: the blocks that nobody writes -/
structure Laid (w : World) where
  prot : Nat → Option (Array Value)
  pr : PR { dom := fun _ => False, blk := fun _ => 0, sh := fun _ => 0, bsz := fun _ => 0, prot := prot } w

/-- a law on name-free arguments -/
theorem pure_law {P : Program} {f : FuncId} {args : List AV} (h : PureOk P f args (.bool true)) (E : Gh) (w : World) (pr : PR E w) (vs : Array Value) (ha : VRP E.ice args vs.toList) (hl : args.length = vs.size) :
    Calls P f vs w fun e w' => e = .returned (.bool true) ∧ RowKit.Below w.heap.size w w' := by
  refine Calls.mono (h E w vs ha hl pr) ?_
  rintro e w' ⟨v', E', rfl, hv, _, _, hsz, hfr, henv⟩
  simp only [VR] at hv
  subst hv
  exact ⟨rfl, henv.os, henv.tape, henv.output, hsz, fun k hk => (hfr k hk).1⟩

/-- what the engine computes of a call on name-free arguments is what the call does -/
theorem run_pure {P : Program} {pol : FuncId → Bool} (hmix : P.follows .mixedOrders = true) (hx : MxOk P) (hP : NoNum P) (n : Nat) {f : FuncId} {args : List AV} {v : AV} (h : pureF P (run pol (planOf pol) P n) f args = some v) : PureOk P f args v :=
  pureF_ok hx (run_ok hmix hx hP n).1 h

noncomputable def isV (v : AV) : Option AV → Bool
  | some u => same v u
  | none => false

theorem isV_eq {v : AV} {x : Option AV} (h : isV v x = true) : x = some v := by
  cases x with
  | none => cases h
  | some u => rw [same_sames.1 v u h]

/-- no function with a body bears the one name that the model treats apart -/
theorem noNum_of {P : Program} (h : (P.funcs.toList.all fun fn => fn.body.isNone || !(fn.name == "runtime.NumGoroutine")) = true) : NoNum P := by
  intro f fn hf hb
  have := List.all_eq_true.1 h fn (by simpa using Array.mem_of_getElem? hf)
  cases hbody : fn.body with
  | none => rw [hbody] at hb; cases hb
  | some c =>
    rw [hbody] at this
    simpa using this

end Go.Eng
