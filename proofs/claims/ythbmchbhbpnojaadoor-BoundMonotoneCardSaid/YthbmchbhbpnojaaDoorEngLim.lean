/-
 The engine without a count of steps: what some run yields. It obeys the engine's equations.
-/
import Derived.Test.YthbmchbhbpnojaaDoorEngLaid
namespace Go.Eng
set_option linter.unusedSectionVars false
variable [Gl] [Mx]

def Le (r r':RunT):Prop:=∀ nt c T S x,r nt c T S=some x->r' nt c T S=some x

theorem Le.trans {a b c:RunT} (h:Le a b) (k:Le b c):Le a c:=fun _ _ _ _ _ e=>k _ _ _ _ _ (h _ _ _ _ _ e)

section
variable {P:Program} {pol:FuncId->Bool} {pl:List Oper->Option (List PS)} {r r':RunT}

theorem callN_le (h:Le r r') {f:FuncId} {args:List AV} {S:St} {y:AV×St} (e:callN P r f args S=some y):callN P r' f args S=some y:=by
 simp only [callN,ob_some] at e |-
 obtain ⟨fn,h1,c,h2,u,h3,q,h4,e⟩:=e
 exact ⟨fn,h1,c,h2,u,h3,q,h _ _ _ _ _ h4,e⟩

theorem pureF_le (h:Le r r') {f:FuncId} {args:List AV} {y:AV} (e:pureF P r f args=some y):pureF P r' f args=some y:=by
 unfold pureF at e |-
 split at e
 ·exact e
 ·simp only [ob_some] at e |-
  obtain ⟨q,h1,e⟩:=e
  exact ⟨q,callN_le h h1,e⟩

theorem callP_le (h:Le r r') {f:FuncId} {args:List AV} {S:St} {y:AV×St} (e:callP P r f args S=some y):callP P r' f args S=some y:=by
 simp only [callP,ob_some] at e |-
 obtain ⟨a,h1,q,h2,e⟩:=e
 exact ⟨a,h1,q,pureF_le h h2,e⟩

theorem callA_le (h:Le r r') {f:FuncId} {args:List AV} {S:St} {y:AV×St} (e:callA pol P r f args S=some y):callA pol P r' f args S=some y:=by
 unfold callA at e |-
 cases hp:pol f<;>rw [hp] at e
 ·exact callN_le h e
 ·exact callP_le h e

theorem aOp_le (h:Le r r') {o:Op} {T:Tm} {S:St} {y:AV×St} (e:(aOp pol P o).f r T S=some y):(aOp pol P o).f r' T S=some y:=by
 cases o
 case call c=>
  unfold aOp at e |-
  cases hc:c.callee<;>simp only [hc] at e |-
  case builtin b=>exact e
  case invoke=>exact e
  case value f=>
   simp only [ob_some] at e |-
   obtain ⟨args,h1,fv,h2,e⟩:=e
   refine ⟨args,h1,fv,h2,?_⟩
   split at e
   ·exact callA_le h e
   ·cases e
 case alloc t=>unfold aOp at e |-;cases ht:te P t<;>cases har:Mx.ar t<;>(simp only [ht,har,cond_true,cond_false] at e |-;exact e)
 case box t x=>unfold aOp at e |-;cases ht:te P t<;>(simp only [ht] at e |-;exact e)
 case load t x=>unfold aOp at e |-;cases ht:te P t<;>(simp only [ht] at e |-;exact e)
 case store t x y=>unfold aOp at e |-;cases ht:te P t<;>(simp only [ht] at e |-;exact e)
 all_goals exact e

theorem opsA_le (h:Le r r') {nt:Nat} {all:List Oper}:∀ {l:List Oper} {T:Tm} {S:St} {y:Tm×St},(opsA pol P all l).f r nt T S=some y->(opsA pol P all l).f r' nt T S=some y
 | [],_,_,_,e=>e
 | o::l,T,S,y,e=>by
  unfold opsA at e |-
  cases hg:o.guard<;>simp only [hg] at e |-
  ·simp only [ob_some] at e |-
   obtain ⟨q,h1,u,h2,T',h3,e⟩:=e
   exact ⟨q,aOp_le h h1,u,h2,T',h3,opsA_le h e⟩
  ·rw [ob_some] at e |-
   obtain ⟨w,hw,e⟩:=e
   refine ⟨w,hw,?_⟩
   cases w
   ·simp only [bc_false,ob_some] at e |-
    obtain ⟨T',h3,e⟩:=e
    exact ⟨T',h3,opsA_le h e⟩
   ·simp only [bc_true,ob_some] at e |-
    obtain ⟨q,h1,u,h2,T',h3,e⟩:=e
    exact ⟨q,aOp_le h h1,u,h2,T',h3,opsA_le h e⟩

theorem planA_le (h:Le r r') {nt:Nat} {all:List Oper}:∀ {l:List PS} {log:List LE} {T:Tm} {S:St} {y:Tm×St},(planA pol P all l).f r nt log T S=some y->(planA pol P all l).f r' nt log T S=some y
 | [],_,_,_,_,e=>e
 | p::l,log,T,S,y,e=>by
  unfold planA at e |-
  cases ha:all[p.i]?<;>simp only [ha] at e |-
  ·cases e
  ·rename_i o
   cases hc:p.c<;>simp only [hc] at e |-<;>rw [ob_some] at e |-<;>obtain ⟨w,hw,e⟩:=e<;>refine ⟨w,hw,?_⟩<;>cases w
   all_goals simp only [bc_true,bc_false,ob_some] at e |-
   ·obtain ⟨T',h3,e⟩:=e;exact ⟨T',h3,planA_le h e⟩
   ·obtain ⟨q,h1,T',h3,e⟩:=e;exact ⟨q,aOp_le h h1,T',h3,planA_le h e⟩
   ·obtain ⟨T',h3,e⟩:=e;exact ⟨T',h3,planA_le h e⟩
   ·obtain ⟨q,h1,u,h2,T',h3,e⟩:=e;exact ⟨q,aOp_le h h1,u,h2,T',h3,planA_le h e⟩
   ·obtain ⟨T',h3,e⟩:=e;exact ⟨T',h3,planA_le h e⟩
   ·obtain ⟨u,h0,q,h1,T',h3,e⟩:=e;exact ⟨u,h0,q,aOp_le h h1,T',h3,planA_le h e⟩
   ·obtain ⟨T',h3,e⟩:=e;exact ⟨T',h3,planA_le h e⟩
   ·obtain ⟨u,h0,q,h1,T',h3,e⟩:=e;exact ⟨u,h0,q,aOp_le h h1,T',h3,planA_le h e⟩
   ·obtain ⟨T',h3,e⟩:=e;exact ⟨T',h3,planA_le h e⟩
   ·obtain ⟨u,h0,q,h1,u',h2,u2,h4,T',h3,e⟩:=e;exact ⟨u,h0,q,aOp_le h h1,u',h2,u2,h4,T',h3,planA_le h e⟩
   ·obtain ⟨T',h3,e⟩:=e;exact ⟨T',h3,planA_le h e⟩
   ·obtain ⟨q,h1,u',h2,u2,h4,T',h3,e⟩:=e;exact ⟨q,aOp_le h h1,u',h2,u2,h4,T',h3,planA_le h e⟩

theorem runF_le (h:Le r r') {nt:Nat} {c:Code} {T:Tm} {S:St} {y:X×Tm×St} (e:(runF pol pl P c).f r nt T S=some y):(runF pol pl P c).f r' nt T S=some y:=by
 cases c<;>unfold runF at e |-<;>try exact e
 case region id ops d=>
  cases d<;>simp only [cond_true,cond_false] at e |-
  ·rw [ob_some] at e |-
   obtain ⟨q,h1,e⟩:=e
   exact ⟨q,opsA_le h h1,e⟩
  ·cases hp:pl ops.toList<;>simp only [hp] at e |-
   ·cases e
   ·rw [ob_some] at e |-
    obtain ⟨q,h1,e⟩:=e
    exact ⟨q,planA_le h h1,e⟩
 case seq a b=>
  simp only [ob_some] at e |-
  obtain ⟨q,h1,e⟩:=e
  refine ⟨q,h _ _ _ _ _ h1,?_⟩
  split at e
  ·exact h _ _ _ _ _ e
  ·exact e
 case cond v a b=>
  simp only [ob_some] at e |-
  obtain ⟨q,h1,e⟩:=e
  refine ⟨q,h1,?_⟩
  split at e
  ·exact h _ _ _ _ _ e
  ·exact h _ _ _ _ _ e
  ·cases e
 case block id b=>
  simp only [ob_some] at e |-
  obtain ⟨q,h1,e⟩:=e
  exact ⟨q,h _ _ _ _ _ h1,e⟩
 case loop b=>
  simp only [ob_some] at e |-
  obtain ⟨q,h1,e⟩:=e
  refine ⟨q,h _ _ _ _ _ h1,?_⟩
  split at e
  ·exact h _ _ _ _ _ e
  ·exact e

theorem run_le:∀ n,Le (run pol pl P n) (run pol pl P (n+1))
 | 0=>fun _ _ _ _ _ e=>by cases e
 | n+1=>fun nt c T S x e=>by
  rw [run_succ] at e |-
  exact runF_le (run_le n) e

theorem run_le' (n:Nat):∀ k,Le (run pol pl P n) (run pol pl P (n+k))
 | 0=>fun _ _ _ _ _ e=>e
 | k+1=>(run_le' n k).trans (run_le (n+k))

theorem run_le_of {n m:Nat} (h:n<=m):Le (run pol pl P n) (run pol pl P m):=by
 obtain ⟨k,rfl⟩:=Nat.le.dest h
 exact run_le' n k

open Classical in
noncomputable def runI (pol:FuncId->Bool) (pl:List Oper->Option (List PS)) (P:Program):RunT:=fun nt c T S=>
 if h:∃ n r,run pol pl P n nt c T S=some r then some h.choose_spec.choose else none

theorem runI_some {nt:Nat} {c:Code} {T:Tm} {S:St} {x:X×Tm×St}:runI pol pl P nt c T S=some x↔∃ n,run pol pl P n nt c T S=some x:=by
 unfold runI
 constructor
 ·intro h
  split at h
  ·rename_i hx
   cases h
   exact ⟨_,hx.choose_spec.choose_spec⟩
  ·cases h
 ·rintro ⟨n,hn⟩
  have hx:∃ n r,run pol pl P n nt c T S=some r:=⟨n,x,hn⟩
  rw [dif_pos hx]
  have h2:=hx.choose_spec.choose_spec
  have a:=run_le_of (Nat.le_max_left n hx.choose) _ _ _ _ _ hn
  have b:=run_le_of (Nat.le_max_right n hx.choose) _ _ _ _ _ h2
  rw [a] at b
  exact b.symm

theorem run_le_I (n:Nat):Le (run pol pl P n) (runI pol pl P):=fun _ _ _ _ _ e=>runI_some.2 ⟨n,e⟩

theorem callN_ct {f:FuncId} {args:List AV} {S:St} {y:AV×St} (e:callN P (runI pol pl P) f args S=some y):∃ n,callN P (run pol pl P n) f args S=some y:=by
 simp only [callN,ob_some] at e
 obtain ⟨fn,h1,c,h2,u,h3,q,h4,e⟩:=e
 obtain ⟨n,hn⟩:=runI_some.1 h4
 refine ⟨n,?_⟩
 simp only [callN,ob_some]
 exact ⟨fn,h1,c,h2,u,h3,q,hn,e⟩

theorem pureF_ct {f:FuncId} {args:List AV} {y:AV} (e:pureF P (runI pol pl P) f args=some y):∃ n,pureF P (run pol pl P n) f args=some y:=by
 unfold pureF at e |-
 split at e
 ·exact ⟨0,e⟩
 ·simp only [ob_some] at e
  obtain ⟨q,h1,e⟩:=e
  obtain ⟨n,hn⟩:=callN_ct h1
  exact ⟨n,by simp only [ob_some];exact ⟨q,hn,e⟩⟩

theorem callA_ct {f:FuncId} {args:List AV} {S:St} {y:AV×St} (e:callA pol P (runI pol pl P) f args S=some y):∃ n,callA pol P (run pol pl P n) f args S=some y:=by
 unfold callA at e |-
 cases hp:pol f<;>rw [hp] at e
 ·exact callN_ct e
 ·rw [cond_true] at e
  simp only [callP,ob_some] at e
  obtain ⟨a,h1,q,h2,e⟩:=e
  obtain ⟨n,hn⟩:=pureF_ct h2
  refine ⟨n,?_⟩
  rw [cond_true]
  simp only [callP,ob_some]
  exact ⟨a,h1,q,hn,e⟩

theorem aOp_ct {o:Op} {T:Tm} {S:St} {y:AV×St} (e:(aOp pol P o).f (runI pol pl P) T S=some y):∃ n,(aOp pol P o).f (run pol pl P n) T S=some y:=by
 cases o
 case call c=>
  unfold aOp at e |-
  cases hc:c.callee<;>simp only [hc] at e |-
  case builtin b=>exact ⟨0,e⟩
  case invoke=>exact ⟨0,e⟩
  case value f=>
   simp only [ob_some] at e
   obtain ⟨args,h1,fv,h2,e⟩:=e
   split at e
   ·obtain ⟨n,hn⟩:=callA_ct e
    refine ⟨n,?_⟩
    simp only [ob_some]
    exact ⟨args,h1,_,h2,hn⟩
   ·cases e
 case alloc t=>unfold aOp at e |-;cases ht:te P t<;>cases har:Mx.ar t<;>(simp only [ht,har,cond_true,cond_false] at e |-;exact ⟨0,e⟩)
 case box t x=>unfold aOp at e |-;cases ht:te P t<;>(simp only [ht] at e |-;exact ⟨0,e⟩)
 case load t x=>unfold aOp at e |-;cases ht:te P t<;>(simp only [ht] at e |-;exact ⟨0,e⟩)
 case store t x y=>unfold aOp at e |-;cases ht:te P t<;>(simp only [ht] at e |-;exact ⟨0,e⟩)
 all_goals exact ⟨0,e⟩

theorem max_l {n m nt:Nat} {c:Code} {T:Tm} {S:St} {x:X×Tm×St} (h:run pol pl P n nt c T S=some x):run pol pl P (max n m) nt c T S=some x:=run_le_of (Nat.le_max_left _ _) _ _ _ _ _ h
theorem max_r {n m nt:Nat} {c:Code} {T:Tm} {S:St} {x:X×Tm×St} (h:run pol pl P m nt c T S=some x):run pol pl P (max n m) nt c T S=some x:=run_le_of (Nat.le_max_right _ _) _ _ _ _ _ h

theorem opsA_ct {nt:Nat} {all:List Oper}:∀ {l:List Oper} {T:Tm} {S:St} {y:Tm×St},(opsA pol P all l).f (runI pol pl P) nt T S=some y->∃ n,(opsA pol P all l).f (run pol pl P n) nt T S=some y
 | [],_,_,_,e=>⟨0,e⟩
 | o::l,T,S,y,e=>by
  unfold opsA at e |-
  cases hg:o.guard<;>simp only [hg] at e |-
  ·simp only [ob_some] at e
   obtain ⟨q,h1,u,h2,T',h3,e⟩:=e
   obtain ⟨n,hn⟩:=aOp_ct h1
   obtain ⟨m,hm⟩:=opsA_ct e
   refine ⟨max n m,?_⟩
   simp only [ob_some]
   exact ⟨q,aOp_le (run_le_of (Nat.le_max_left _ _)) hn,u,h2,T',h3,opsA_le (run_le_of (Nat.le_max_right _ _)) hm⟩
  ·rw [ob_some] at e
   obtain ⟨w,hw,e⟩:=e
   cases w
   ·simp only [bc_false,ob_some] at e
    obtain ⟨T',h3,e⟩:=e
    obtain ⟨m,hm⟩:=opsA_ct e
    refine ⟨m,?_⟩
    rw [ob_some]
    refine ⟨false,hw,?_⟩
    simp only [bc_false,ob_some]
    exact ⟨T',h3,hm⟩
   ·simp only [bc_true,ob_some] at e
    obtain ⟨q,h1,u,h2,T',h3,e⟩:=e
    obtain ⟨n,hn⟩:=aOp_ct h1
    obtain ⟨m,hm⟩:=opsA_ct e
    refine ⟨max n m,?_⟩
    rw [ob_some]
    refine ⟨true,hw,?_⟩
    simp only [bc_true,ob_some]
    exact ⟨q,aOp_le (run_le_of (Nat.le_max_left _ _)) hn,u,h2,T',h3,opsA_le (run_le_of (Nat.le_max_right _ _)) hm⟩

theorem planA_ct {nt:Nat} {all:List Oper}:∀ {l:List PS} {log:List LE} {T:Tm} {S:St} {y:Tm×St},(planA pol P all l).f (runI pol pl P) nt log T S=some y->∃ n,(planA pol P all l).f (run pol pl P n) nt log T S=some y
 | [],_,_,_,_,e=>⟨0,e⟩
 | p::l,log,T,S,y,e=>by
  unfold planA at e |-
  cases ha:all[p.i]?<;>simp only [ha] at e |-
  ·cases e
  ·rename_i o
   cases hc:p.c<;>simp only [hc] at e |-<;>rw [ob_some] at e<;>obtain ⟨w,hw,e⟩:=e<;>cases w
   all_goals simp only [bc_true,bc_false,ob_some] at e
   ·obtain ⟨T',h3,e⟩:=e
    obtain ⟨m,hm⟩:=planA_ct e
    refine ⟨m,ob_some.2 ⟨false,hw,?_⟩⟩
    simp only [bc_false,ob_some];exact ⟨T',h3,hm⟩
   ·obtain ⟨q,h1,T',h3,e⟩:=e
    obtain ⟨n,hn⟩:=aOp_ct h1
    obtain ⟨m,hm⟩:=planA_ct e
    refine ⟨max n m,ob_some.2 ⟨true,hw,?_⟩⟩
    simp only [bc_true,ob_some]
    exact ⟨q,aOp_le (run_le_of (Nat.le_max_left _ _)) hn,T',h3,planA_le (run_le_of (Nat.le_max_right _ _)) hm⟩
   ·obtain ⟨T',h3,e⟩:=e
    obtain ⟨m,hm⟩:=planA_ct e
    refine ⟨m,ob_some.2 ⟨false,hw,?_⟩⟩
    simp only [bc_false,ob_some];exact ⟨T',h3,hm⟩
   ·obtain ⟨q,h1,u,h2,T',h3,e⟩:=e
    obtain ⟨n,hn⟩:=aOp_ct h1
    obtain ⟨m,hm⟩:=planA_ct e
    refine ⟨max n m,ob_some.2 ⟨true,hw,?_⟩⟩
    simp only [bc_true,ob_some]
    exact ⟨q,aOp_le (run_le_of (Nat.le_max_left _ _)) hn,u,h2,T',h3,planA_le (run_le_of (Nat.le_max_right _ _)) hm⟩
   ·obtain ⟨T',h3,e⟩:=e
    obtain ⟨m,hm⟩:=planA_ct e
    refine ⟨m,ob_some.2 ⟨false,hw,?_⟩⟩
    simp only [bc_false,ob_some];exact ⟨T',h3,hm⟩
   ·obtain ⟨u,h0,q,h1,T',h3,e⟩:=e
    obtain ⟨n,hn⟩:=aOp_ct h1
    obtain ⟨m,hm⟩:=planA_ct e
    refine ⟨max n m,ob_some.2 ⟨true,hw,?_⟩⟩
    simp only [bc_true,ob_some]
    exact ⟨u,h0,q,aOp_le (run_le_of (Nat.le_max_left _ _)) hn,T',h3,planA_le (run_le_of (Nat.le_max_right _ _)) hm⟩
   ·obtain ⟨T',h3,e⟩:=e
    obtain ⟨m,hm⟩:=planA_ct e
    refine ⟨m,ob_some.2 ⟨false,hw,?_⟩⟩
    simp only [bc_false,ob_some];exact ⟨T',h3,hm⟩
   ·obtain ⟨u,h0,q,h1,T',h3,e⟩:=e
    obtain ⟨n,hn⟩:=aOp_ct h1
    obtain ⟨m,hm⟩:=planA_ct e
    refine ⟨max n m,ob_some.2 ⟨true,hw,?_⟩⟩
    simp only [bc_true,ob_some]
    exact ⟨u,h0,q,aOp_le (run_le_of (Nat.le_max_left _ _)) hn,T',h3,planA_le (run_le_of (Nat.le_max_right _ _)) hm⟩
   ·obtain ⟨T',h3,e⟩:=e
    obtain ⟨m,hm⟩:=planA_ct e
    refine ⟨m,ob_some.2 ⟨false,hw,?_⟩⟩
    simp only [bc_false,ob_some];exact ⟨T',h3,hm⟩
   ·obtain ⟨u,h0,q,h1,u',h2,u2,h4,T',h3,e⟩:=e
    obtain ⟨n,hn⟩:=aOp_ct h1
    obtain ⟨m,hm⟩:=planA_ct e
    refine ⟨max n m,ob_some.2 ⟨true,hw,?_⟩⟩
    simp only [bc_true,ob_some]
    exact ⟨u,h0,q,aOp_le (run_le_of (Nat.le_max_left _ _)) hn,u',h2,u2,h4,T',h3,planA_le (run_le_of (Nat.le_max_right _ _)) hm⟩
   ·obtain ⟨T',h3,e⟩:=e
    obtain ⟨m,hm⟩:=planA_ct e
    refine ⟨m,ob_some.2 ⟨false,hw,?_⟩⟩
    simp only [bc_false,ob_some];exact ⟨T',h3,hm⟩
   ·obtain ⟨q,h1,u',h2,u2,h4,T',h3,e⟩:=e
    obtain ⟨n,hn⟩:=aOp_ct h1
    obtain ⟨m,hm⟩:=planA_ct e
    refine ⟨max n m,ob_some.2 ⟨true,hw,?_⟩⟩
    simp only [bc_true,ob_some]
    exact ⟨q,aOp_le (run_le_of (Nat.le_max_left _ _)) hn,u',h2,u2,h4,T',h3,planA_le (run_le_of (Nat.le_max_right _ _)) hm⟩

theorem runF_ct {nt:Nat} {c:Code} {T:Tm} {S:St} {y:X×Tm×St} (e:(runF pol pl P c).f (runI pol pl P) nt T S=some y):∃ n,(runF pol pl P c).f (run pol pl P n) nt T S=some y:=by
 cases c<;>unfold runF at e |-<;>try exact ⟨0,e⟩
 case region id ops d=>
  cases d<;>simp only [cond_true,cond_false] at e |-
  ·rw [ob_some] at e
   obtain ⟨q,h1,e⟩:=e
   obtain ⟨n,hn⟩:=opsA_ct h1
   exact ⟨n,ob_some.2 ⟨q,hn,e⟩⟩
  ·cases hp:pl ops.toList<;>simp only [hp] at e |-
   ·cases e
   ·rw [ob_some] at e
    obtain ⟨q,h1,e⟩:=e
    obtain ⟨n,hn⟩:=planA_ct h1
    exact ⟨n,ob_some.2 ⟨q,hn,e⟩⟩
 case seq a b=>
  simp only [ob_some] at e
  obtain ⟨q,h1,e⟩:=e
  obtain ⟨n,hn⟩:=runI_some.1 h1
  split at e
  ·rename_i hx
   obtain ⟨m,hm⟩:=runI_some.1 e
   refine ⟨max n m,ob_some.2 ⟨q,max_l hn,?_⟩⟩
   rw [hx];exact max_r hm
  ·rename_i hx
   refine ⟨n,ob_some.2 ⟨q,hn,?_⟩⟩
   split
   ·rename_i hy;exact absurd hy hx
   ·exact e
 case cond v a b=>
  simp only [ob_some] at e
  obtain ⟨q,h1,e⟩:=e
  split at e
  ·obtain ⟨n,hn⟩:=runI_some.1 e
   exact ⟨n,ob_some.2 ⟨_,h1,hn⟩⟩
  ·obtain ⟨n,hn⟩:=runI_some.1 e
   exact ⟨n,ob_some.2 ⟨_,h1,hn⟩⟩
  ·cases e
 case block id b=>
  simp only [ob_some] at e
  obtain ⟨q,h1,e⟩:=e
  obtain ⟨n,hn⟩:=runI_some.1 h1
  exact ⟨n,ob_some.2 ⟨q,hn,e⟩⟩
 case loop b=>
  simp only [ob_some] at e
  obtain ⟨q,h1,e⟩:=e
  obtain ⟨n,hn⟩:=runI_some.1 h1
  split at e
  ·rename_i hx
   obtain ⟨m,hm⟩:=runI_some.1 e
   refine ⟨max n m,ob_some.2 ⟨q,max_l hn,?_⟩⟩
   rw [hx];exact max_r hm
  ·rename_i hx
   refine ⟨n,ob_some.2 ⟨q,hn,?_⟩⟩
   split
   ·rename_i hy;exact absurd hy hx
   ·exact e

theorem runI_eq (nt:Nat) (c:Code) (T:Tm) (S:St):runI pol pl P nt c T S=(runF pol pl P c).f (runI pol pl P) nt T S:=by
 apply Option.ext
 intro y
 constructor
 ·intro h
  obtain ⟨n,hn⟩:=runI_some.1 h
  cases n with
  | zero=>cases hn
  | succ n=>rw [run_succ] at hn;exact runF_le (run_le_I n) hn
 ·intro h
  obtain ⟨n,hn⟩:=runF_ct h
  exact runI_some.2 ⟨n+1,by rw [run_succ];exact hn⟩

theorem runI_ok (hmix:P.follows .mixedOrders=true) (hx:MxOk P) (hP:NoNum P):RecOk P (runI pol (planOf pol) P):=by
 intro nt c T S x T' S' h
 obtain ⟨n,hn⟩:=runI_some.1 h
 exact (run_ok hmix hx hP n).1 nt c T S x T' S' hn
end
end Go.Eng
