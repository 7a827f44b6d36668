import Derived.Test.YtipafbfdjfbkbaaGreatDoorEngSound
import Derived.Below
namespace Go.Eng
set_option linter.unusedSectionVars false
variable [Gl] [Mx]
theorem ZzM {P:Program} {f:FuncId} {args:List AV} (h:ZlA P f args (.bool true)) (E:Gh) (w:World) (pr:PR E w) (vs:Array Value) (ha:VRP E.ice args vs.toList) (hl:args.length=vs.size) :
 Calls P f vs w fun e w'=>e=.returned (.bool true)/\RowKit.Below w.heap.size w w':=by
 refine Calls.mono (h E w vs ha hl pr) ?_;rintro e w' ⟨v',E',rfl,hv,_,_,hsz,hfr,henv⟩;simp only [VR] at hv;subst hv;exact ⟨rfl,henv.os,henv.tape,henv.output,hsz,fun k hk=>(hfr k hk).1⟩
theorem run_pure {P:Program} {pol:FuncId->Bool} (hmix:P.follows .mixedOrders=true) (hx:Zoo P) (hP:Znl P) (n:Nat) {f:FuncId} {args:List AV} {v:AV} (h:ZeH P (run pol (Zaf pol) P n) f args=some v):ZlA P f args v:=
 ZlB hx (Zo0 hmix hx hP n).1 h
noncomputable def isV (v:AV):Option AV->Bool
 | some u=>same v u
 | none=>false
theorem Z1S {v:AV} {x:Option AV} (h:isV v x=true):x=some v:=by
 cases x with
 | none=>cases h
 | some u=>rw [ZhD.1 v u h]
theorem ZzN {P : Program} (h : (P.funcs.toList.all fun fn => fn.body.isNone || !(fn.name == "runtime.NumGoroutine")) = true) : Znl P := by
 intro f fn hf hb;have:=List.all_eq_true.1 h fn (by simpa using Array.mem_of_getElem? hf);cases hbody:fn.body with
 | none=>rw [hbody] at hb;cases hb
 | some c=>
  rw [hbody] at this;simpa using this
end Go.Eng
