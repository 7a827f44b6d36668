/-
 The limit's equations, construct by construct: a set of rewriting rules for running code on symbols.
-/
import Derived.Test.YthbmchbhbpnojaaDoorEngLim
namespace Go.Eng
set_option linter.unusedSectionVars false

@[congr] theorem ob_congr {α β:Type} {x y:Option α} {f:α->Option β} (h:x=y):x.ob f=y.ob f:=by rw [h]
@[congr] theorem bc_congr {α:Type} {b c:Bool} {x y:α} (h:b=c):bc b x y=bc c x y:=by rw [h]
theorem ob_s {α β:Type} (a:α) (f:α->Option β):(some a).ob f=f a:=rfl
theorem chk_t:chk true=some ():=rfl
section
variable [Gl] [Mx] {P:Program} {pol:FuncId->Bool} {pl:List Oper->Option (List PS)} {nt:Nat} {T:Tm} {S:St}

theorem runI_skip:runI pol pl P nt .skip T S=some (.n,T,S):=by rw [runI_eq];rfl
theorem runI_ret:runI pol pl P nt .ret T S=some (.r,T,S):=by rw [runI_eq];rfl
theorem runI_exit (id:Nat):runI pol pl P nt (.exit id) T S=some (.e id,T,S):=by rw [runI_eq];rfl
theorem runI_seq (a b:Code):runI pol pl P nt (.seq a b) T S=(runI pol pl P nt a T S).ob fun r=>match r.1 with
 | .n=>runI pol pl P nt b r.2.1 r.2.2
 | x=>some (x,r.2.1,r.2.2):=by rw [runI_eq];rfl
theorem runI_cond (c:Operand) (a b:Code):runI pol pl P nt (.cond c a b) T S=(ev T c).ob fun v=>match v with
 | .bool true=>runI pol pl P nt a T S
 | .bool false=>runI pol pl P nt b T S
 | _=>none:=by rw [runI_eq];rfl
theorem runI_block (id:Nat) (b:Code):runI pol pl P nt (.block id b) T S=(runI pol pl P nt b T S).ob fun r=>match r.1 with
 | .e i=>bif i.beq id then some (.n,r.2.1,r.2.2) else some (.e i,r.2.1,r.2.2)
 | x=>some (x,r.2.1,r.2.2):=by rw [runI_eq];rfl
theorem runI_loop (b:Code):runI pol pl P nt (.loop b) T S=(runI pol pl P nt b T S).ob fun r=>match r.1 with
 | .n=>runI pol pl P nt (.loop b) r.2.1 r.2.2
 | x=>some (x,r.2.1,r.2.2):=by rw [runI_eq];rfl
theorem runI_region (id:Nat) (ops:Array Oper):runI pol pl P nt (.region id ops false) T S=((opsA pol P ops.toList ops.toList).f (runI pol pl P) nt T S).ob fun r=>some (.n,r.1,r.2):=by rw [runI_eq];rfl
theorem runI_drawn {id:Nat} {ops:Array Oper} {p:List PS} (h:pl ops.toList=some p):runI pol pl P nt (.region id ops true) T S=((planA pol P ops.toList p).f (runI pol pl P) nt [] T S).ob fun r=>some (.n,r.1,r.2):=by
 rw [runI_eq];simp only [runF,cond_true,h]
end
end Go.Eng
