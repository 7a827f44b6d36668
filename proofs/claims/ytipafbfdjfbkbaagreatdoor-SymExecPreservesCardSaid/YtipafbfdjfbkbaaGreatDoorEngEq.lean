import Derived.Test.YtipafbfdjfbkbaaGreatDoorEngLim
namespace Go.Eng
set_option linter.unusedSectionVars false
@[congr] theorem ZzO {α β:Type} {x y:Option α} {f:α->Option β} (h:x=y):x.ob f=y.ob f:=by rw [h]
@[congr] theorem ZzP {α:Type} {b c:Bool} {x y:α} (h:b=c):bc b x y=bc c x y:=by rw [h]
theorem Zap {α β:Type} (a:α) (f:α->Option β):(some a).ob f=f a:=rfl
theorem Znq:chk true=some ():=rfl
section
variable [Gl] [Mx] {P:Program} {pol:FuncId->Bool} {pl:List Oper->Option (List PS)} {nt:Nat} {T:Tm} {S:St}
theorem Zo6:Zc8 pol pl P nt .skip T S=some (.n,T,S):=by rw [Zds];rfl
theorem Zrb:Zc8 pol pl P nt .ret T S=some (.r,T,S):=by rw [Zds];rfl
theorem Zo7 (id:Nat):Zc8 pol pl P nt (.exit id) T S=some (.e id,T,S):=by rw [Zds];rfl
theorem Zrc (a b:Code):Zc8 pol pl P nt (.seq a b) T S=(Zc8 pol pl P nt a T S).ob fun r=>match r.1 with
 | .n=>Zc8 pol pl P nt b r.2.1 r.2.2
 | x=>some (x,r.2.1,r.2.2):=by rw [Zds];rfl
theorem Zo8 (c:Operand) (a b:Code):Zc8 pol pl P nt (.cond c a b) T S=(ev T c).ob fun v=>match v with
 | .bool true=>Zc8 pol pl P nt a T S
 | .bool false=>Zc8 pol pl P nt b T S
 | _=>none:=by rw [Zds];rfl
theorem Znr (id:Nat) (b:Code):Zc8 pol pl P nt (.block id b) T S=(Zc8 pol pl P nt b T S).ob fun r=>match r.1 with
 | .e i=>bif i.beq id then some (.n,r.2.1,r.2.2) else some (.e i,r.2.1,r.2.2)
 | x=>some (x,r.2.1,r.2.2):=by rw [Zds];rfl
theorem Zo9 (b:Code):Zc8 pol pl P nt (.loop b) T S=(Zc8 pol pl P nt b T S).ob fun r=>match r.1 with
 | .n=>Zc8 pol pl P nt (.loop b) r.2.1 r.2.2
 | x=>some (x,r.2.1,r.2.2):=by rw [Zds];rfl
theorem ZkU (id:Nat) (ops:Array Oper):Zc8 pol pl P nt (.region id ops false) T S=((Zhr pol P ops.toList ops.toList).f (Zc8 pol pl P) nt T S).ob fun r=>some (.n,r.1,r.2):=by rw [Zds];rfl
theorem Zns {id:Nat} {ops:Array Oper} {p:List PS} (h:pl ops.toList=some p):Zc8 pol pl P nt (.region id ops true) T S=((ZbO pol P ops.toList p).f (Zc8 pol pl P) nt [] T S).ob fun r=>some (.n,r.1,r.2):=by
 rw [Zds];simp only [Zl1,cond_true,h]
end
end Go.Eng
