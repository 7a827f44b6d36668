import Derived.Test.YtipafbfdjfbkbaaGreatDoorEngLaid
set_option linter.unusedSectionVars false
open Nat (le_max_left le_max_right)
namespace Go.Eng
variable [Gl] [Mx]
def Le (r r':ZbL):Prop:=∀ nt c T S x,r nt c T S=some x->r' nt c T S=some x
theorem Le.trans {a b c:ZbL} (h:Le a b) (k:Le b c):Le a c:=fun _ _ _ _ _ e=>k _ _ _ _ _ (h _ _ _ _ _ e)
section
variable {P:Program} {pol:FuncId->Bool} {pl:List Oper->Option (List PS)} {r r':ZbL}
theorem ZlF (h:Le r r') {f:FuncId} {args:List AV} {S:St} {y:AV×St} (e:Zd8 P r f args S=some y):Zd8 P r' f args S=some y:=by
 simp only [Zd8,Zaa] at e |-
 obtain ⟨fn,h1,c,h2,u,h3,q,h4,e⟩:=e;exact ⟨fn,h1,c,h2,u,h3,q,h _ _ _ _ _ h4,e⟩
theorem ZqW (h:Le r r') {f:FuncId} {args:List AV} {y:AV} (e:ZeH P r f args=some y):ZeH P r' f args=some y:=by
 unfold ZeH at e |-
 split at e
 ·exact e
 ·simp only [Zaa] at e |-
  obtain ⟨q,h1,e⟩:=e;exact ⟨q,ZlF h h1,e⟩
theorem ZqX (h:Le r r') {f:FuncId} {args:List AV} {S:St} {y:AV×St} (e:ZfN P r f args S=some y):ZfN P r' f args S=some y:=by
 simp only [ZfN,Zaa] at e |-
 obtain ⟨a,h1,q,h2,e⟩:=e;exact ⟨a,h1,q,ZqW h h2,e⟩
theorem ZqY (h:Le r r') {f:FuncId} {args:List AV} {S:St} {y:AV×St} (e:Zch pol P r f args S=some y):Zch pol P r' f args S=some y:=by
 unfold Zch at e |-
 cases hp:pol f<;>rw [hp] at e
 ·exact ZlF h e
 ·exact ZqX h e
theorem Zcv (h:Le r r') {o:Op} {T:Tm} {S:St} {y:AV×St} (e:(aOp pol P o).f r T S=some y):(aOp pol P o).f r' T S=some y:=by
 cases o
 case call c=>
  unfold aOp at e |-
  cases hc:c.callee<;>simp only [hc] at e |-
  case builtin b=>exact e
  case invoke=>exact e
  case value f=>
   simp only [Zaa] at e |-
   obtain ⟨args,h1,fv,h2,e⟩:=e;refine ⟨args,h1,fv,h2,?_⟩;split at e
   ·simp only [Zaa] at e |-
    obtain ⟨q,hq,e⟩:=e;exact ⟨q,hq,ZqY h e⟩
   ·cases e
 case alloc t=>unfold aOp at e |-;cases ht:te P t<;>cases har:Mx.ar t<;>(simp only [ht,har,cond_true,cond_false] at e |-;exact e)
 case box t x=>unfold aOp at e |-;cases ht:te P t<;>(simp only [ht] at e |-;exact e)
 case load t x=>unfold aOp at e |-;cases ht:te P t<;>(simp only [ht] at e |-;exact e)
 case store t x y=>unfold aOp at e |-;cases ht:te P t<;>(simp only [ht] at e |-;exact e)
 all_goals exact e
theorem Zfw (h:Le r r') {nt:Nat} {all:List Oper}:∀ {l:List Oper} {T:Tm} {S:St} {y:Tm×St},(Zhr pol P all l).f r nt T S=some y->(Zhr pol P all l).f r' nt T S=some y
 | [],_,_,_,e=>e
 | o::l,T,S,y,e=>by
  unfold Zhr at e |-
  cases hg:o.guard<;>simp only [hg] at e |-
  ·simp only [Zaa] at e |-
   obtain ⟨q,h1,u,h2,T',h3,e⟩:=e;exact ⟨q,Zcv h h1,u,h2,T',h3,Zfw h e⟩
  ·rw [Zaa] at e |-
   obtain ⟨w,hw,e⟩:=e;refine ⟨w,hw,?_⟩;cases w
   ·simp only [Zan,Zaa] at e |-
    obtain ⟨T',h3,e⟩:=e;exact ⟨T',h3,Zfw h e⟩
   ·simp only [Zag,Zaa] at e |-
    obtain ⟨q,h1,u,h2,T',h3,e⟩:=e;exact ⟨q,Zcv h h1,u,h2,T',h3,Zfw h e⟩
theorem Zbi (h:Le r r') {nt:Nat} {all:List Oper}:∀ {l:List PS} {log:List LE} {T:Tm} {S:St} {y:Tm×St},(ZbO pol P all l).f r nt log T S=some y->(ZbO pol P all l).f r' nt log T S=some y
 | [],_,_,_,_,e=>e
 | p::l,log,T,S,y,e=>by
  unfold ZbO at e |-
  cases ha:all[p.i]?<;>simp only [ha] at e |-
  ·cases e
  ·rename_i o;cases hc:p.c<;>simp only [hc] at e |-<;>rw [Zaa] at e |-<;>obtain ⟨w,hw,e⟩:=e<;>refine ⟨w,hw,?_⟩<;>cases w
   all_goals simp only [Zag,Zan,Zaa] at e |-
   ·obtain ⟨T',h3,e⟩:=e;exact ⟨T',h3,Zbi h e⟩
   ·obtain ⟨q,h1,T',h3,e⟩:=e;exact ⟨q,Zcv h h1,T',h3,Zbi h e⟩
   ·obtain ⟨T',h3,e⟩:=e;exact ⟨T',h3,Zbi h e⟩
   ·obtain ⟨q,h1,u,h2,T',h3,e⟩:=e;exact ⟨q,Zcv h h1,u,h2,T',h3,Zbi h e⟩
   ·obtain ⟨T',h3,e⟩:=e;exact ⟨T',h3,Zbi h e⟩
   ·obtain ⟨u,h0,q,h1,T',h3,e⟩:=e;exact ⟨u,h0,q,Zcv h h1,T',h3,Zbi h e⟩
   ·obtain ⟨T',h3,e⟩:=e;exact ⟨T',h3,Zbi h e⟩
   ·obtain ⟨u,h0,q,h1,T',h3,e⟩:=e;exact ⟨u,h0,q,Zcv h h1,T',h3,Zbi h e⟩
   ·obtain ⟨T',h3,e⟩:=e;exact ⟨T',h3,Zbi h e⟩
   ·obtain ⟨u,h0,q,h1,u',h2,u2,h4,T',h3,e⟩:=e;exact ⟨u,h0,q,Zcv h h1,u',h2,u2,h4,T',h3,Zbi h e⟩
   ·obtain ⟨T',h3,e⟩:=e;exact ⟨T',h3,Zbi h e⟩
   ·obtain ⟨q,h1,u',h2,u2,h4,T',h3,e⟩:=e;exact ⟨q,Zcv h h1,u',h2,u2,h4,T',h3,Zbi h e⟩
theorem Zo4 (h:Le r r') {nt:Nat} {c:Code} {T:Tm} {S:St} {y:X×Tm×St} (e:(Zl1 pol pl P c).f r nt T S=some y):(Zl1 pol pl P c).f r' nt T S=some y:=by
 cases c<;>unfold Zl1 at e |-<;>try exact e
 case region id ops d=>
  cases d<;>simp only [cond_true,cond_false] at e |-
  ·rw [Zaa] at e |-
   obtain ⟨q,h1,e⟩:=e;exact ⟨q,Zfw h h1,e⟩
  ·cases hp:pl ops.toList<;>simp only [hp] at e |-
   ·cases e
   ·rw [Zaa] at e |-
    obtain ⟨q,h1,e⟩:=e;exact ⟨q,Zbi h h1,e⟩
 case seq a b=>
  simp only [Zaa] at e |-
  obtain ⟨q,h1,e⟩:=e;refine ⟨q,h _ _ _ _ _ h1,?_⟩;split at e
  ·exact h _ _ _ _ _ e
  ·exact e
 case cond v a b=>
  simp only [Zaa] at e |-
  obtain ⟨q,h1,e⟩:=e;refine ⟨q,h1,?_⟩;split at e
  ·exact h _ _ _ _ _ e
  ·exact h _ _ _ _ _ e
  ·cases e
 case block id b=>
  simp only [Zaa] at e |-
  obtain ⟨q,h1,e⟩:=e;exact ⟨q,h _ _ _ _ _ h1,e⟩
 case loop b=>
  simp only [Zaa] at e |-
  obtain ⟨q,h1,e⟩:=e;refine ⟨q,h _ _ _ _ _ h1,?_⟩;split at e
  ·exact h _ _ _ _ _ e
  ·exact e
theorem Zs7:∀ n,Le (run pol pl P n) (run pol pl P (n+1))
 | 0=>fun _ _ _ _ _ e=>by cases e
 | n+1=>fun nt c T S x e=>by
  rw [Zdr] at e |-
  exact Zo4 (Zs7 n) e
theorem Zo5 (n:Nat):∀ k,Le (run pol pl P n) (run pol pl P (n+k))
 | 0=>fun _ _ _ _ _ e=>e
 | k+1=>(Zo5 n k).trans (Zs7 (n+k))
theorem ZaF {n m:Nat} (h:n<=m):Le (run pol pl P n) (run pol pl P m):=by
 obtain ⟨k,rfl⟩:=Nat.le.dest h;exact Zo5 n k
open Classical in
noncomputable def Zc8 (pol:FuncId->Bool) (pl:List Oper->Option (List PS)) (P:Program):ZbL:=fun nt c T S=>
 if h:∃ n r,run pol pl P n nt c T S=some r then some h.choose_spec.choose else none
theorem Zbq {nt:Nat} {c:Code} {T:Tm} {S:St} {x:X×Tm×St}:Zc8 pol pl P nt c T S=some x↔∃ n,run pol pl P n nt c T S=some x:=by
 unfold Zc8;constructor
 ·intro h;split at h
  ·rename_i hx;cases h;exact ⟨_,hx.choose_spec.choose_spec⟩
  ·cases h
 ·rintro ⟨n,hn⟩;have hx:∃ n r,run pol pl P n nt c T S=some r:=⟨n,x,hn⟩
  rw [dif_pos hx];have h2:=hx.choose_spec.choose_spec;have a:=ZaF (le_max_left n hx.choose) _ _ _ _ _ hn;have b:=ZaF (le_max_right n hx.choose) _ _ _ _ _ h2;rw [a] at b;exact b.symm
theorem ZlG (n:Nat):Le (run pol pl P n) (Zc8 pol pl P):=fun _ _ _ _ _ e=>Zbq.2 ⟨n,e⟩
theorem ZlH {f:FuncId} {args:List AV} {S:St} {y:AV×St} (e:Zd8 P (Zc8 pol pl P) f args S=some y):∃ n,Zd8 P (run pol pl P n) f args S=some y:=by
 simp only [Zd8,Zaa] at e;obtain ⟨fn,h1,c,h2,u,h3,q,h4,e⟩:=e;obtain ⟨n,hn⟩:=Zbq.1 h4;refine ⟨n,?_⟩;simp only [Zd8,Zaa];exact ⟨fn,h1,c,h2,u,h3,q,hn,e⟩
theorem ZqZ {f:FuncId} {args:List AV} {y:AV} (e:ZeH P (Zc8 pol pl P) f args=some y):∃ n,ZeH P (run pol pl P n) f args=some y:=by
 unfold ZeH at e |-
 split at e
 ·exact ⟨0,e⟩
 ·simp only [Zaa] at e;obtain ⟨q,h1,e⟩:=e;obtain ⟨n,hn⟩:=ZlH h1;exact ⟨n,by simp only [Zaa];exact ⟨q,hn,e⟩⟩
theorem Zra {f:FuncId} {args:List AV} {S:St} {y:AV×St} (e:Zch pol P (Zc8 pol pl P) f args S=some y):∃ n,Zch pol P (run pol pl P n) f args S=some y:=by
 unfold Zch at e |-
 cases hp:pol f<;>rw [hp] at e
 ·exact ZlH e
 ·rw [cond_true] at e;simp only [ZfN,Zaa] at e;obtain ⟨a,h1,q,h2,e⟩:=e;obtain ⟨n,hn⟩:=ZqZ h2;refine ⟨n,?_⟩;rw [cond_true];simp only [ZfN,Zaa];exact ⟨a,h1,q,hn,e⟩
theorem ZfF {o:Op} {T:Tm} {S:St} {y:AV×St} (e:(aOp pol P o).f (Zc8 pol pl P) T S=some y):∃ n,(aOp pol P o).f (run pol pl P n) T S=some y:=by
 cases o
 case call c=>
  unfold aOp at e |-
  cases hc:c.callee<;>simp only [hc] at e |-
  case builtin b=>exact ⟨0,e⟩
  case invoke=>exact ⟨0,e⟩
  case value f=>
   simp only [Zaa] at e;obtain ⟨args,h1,fv,h2,e⟩:=e;split at e
   ·simp only [Zaa] at e;obtain ⟨q,hq,e⟩:=e;obtain ⟨n,hn⟩:=Zra e;refine ⟨n,?_⟩;simp only [Zaa];refine ⟨args,h1,_,h2,?_⟩;dsimp only;rw [Zaa];exact ⟨q,hq,hn⟩
   ·cases e
 case alloc t=>unfold aOp at e |-;cases ht:te P t<;>cases har:Mx.ar t<;>(simp only [ht,har,cond_true,cond_false] at e |-;exact ⟨0,e⟩)
 case box t x=>unfold aOp at e |-;cases ht:te P t<;>(simp only [ht] at e |-;exact ⟨0,e⟩)
 case load t x=>unfold aOp at e |-;cases ht:te P t<;>(simp only [ht] at e |-;exact ⟨0,e⟩)
 case store t x y=>unfold aOp at e |-;cases ht:te P t<;>(simp only [ht] at e |-;exact ⟨0,e⟩)
 all_goals exact ⟨0,e⟩
theorem Zwi {n m nt:Nat} {c:Code} {T:Tm} {S:St} {x:X×Tm×St} (h:run pol pl P n nt c T S=some x):run pol pl P (max n m) nt c T S=some x:=ZaF (le_max_left _ _) _ _ _ _ _ h
theorem Zwj {n m nt:Nat} {c:Code} {T:Tm} {S:St} {x:X×Tm×St} (h:run pol pl P m nt c T S=some x):run pol pl P (max n m) nt c T S=some x:=ZaF (le_max_right _ _) _ _ _ _ _ h
theorem Zi1 {nt:Nat} {all:List Oper}:∀ {l:List Oper} {T:Tm} {S:St} {y:Tm×St},(Zhr pol P all l).f (Zc8 pol pl P) nt T S=some y->∃ n,(Zhr pol P all l).f (run pol pl P n) nt T S=some y
 | [],_,_,_,e=>⟨0,e⟩
 | o::l,T,S,y,e=>by
  unfold Zhr at e |-
  cases hg:o.guard<;>simp only [hg] at e |-
  ·simp only [Zaa] at e;obtain ⟨q,h1,u,h2,T',h3,e⟩:=e;obtain ⟨n,hn⟩:=ZfF h1;obtain ⟨m,hm⟩:=Zi1 e;refine ⟨max n m,?_⟩;simp only [Zaa];exact ⟨q,Zcv (ZaF (le_max_left _ _)) hn,u,h2,T',h3,Zfw (ZaF (le_max_right _ _)) hm⟩
  ·rw [Zaa] at e;obtain ⟨w,hw,e⟩:=e;cases w
   ·simp only [Zan,Zaa] at e;obtain ⟨T',h3,e⟩:=e;obtain ⟨m,hm⟩:=Zi1 e;refine ⟨m,?_⟩;rw [Zaa];refine ⟨false,hw,?_⟩;simp only [Zan,Zaa];exact ⟨T',h3,hm⟩
   ·simp only [Zag,Zaa] at e;obtain ⟨q,h1,u,h2,T',h3,e⟩:=e;obtain ⟨n,hn⟩:=ZfF h1;obtain ⟨m,hm⟩:=Zi1 e;refine ⟨max n m,?_⟩;rw [Zaa];refine ⟨true,hw,?_⟩;simp only [Zag,Zaa];exact ⟨q,Zcv (ZaF (le_max_left _ _)) hn,u,h2,T',h3,Zfw (ZaF (le_max_right _ _)) hm⟩
theorem Zb9 {nt:Nat} {all:List Oper}:∀ {l:List PS} {log:List LE} {T:Tm} {S:St} {y:Tm×St},(ZbO pol P all l).f (Zc8 pol pl P) nt log T S=some y->∃ n,(ZbO pol P all l).f (run pol pl P n) nt log T S=some y
 | [],_,_,_,_,e=>⟨0,e⟩
 | p::l,log,T,S,y,e=>by
  unfold ZbO at e |-
  cases ha:all[p.i]?<;>simp only [ha] at e |-
  ·cases e
  ·rename_i o;cases hc:p.c<;>simp only [hc] at e |-<;>rw [Zaa] at e<;>obtain ⟨w,hw,e⟩:=e<;>cases w
   all_goals simp only [Zag,Zan,Zaa] at e
   ·obtain ⟨T',h3,e⟩:=e;obtain ⟨m,hm⟩:=Zb9 e;refine ⟨m,Zaa.2 ⟨false,hw,?_⟩⟩;simp only [Zan,Zaa];exact ⟨T',h3,hm⟩
   ·obtain ⟨q,h1,T',h3,e⟩:=e;obtain ⟨n,hn⟩:=ZfF h1;obtain ⟨m,hm⟩:=Zb9 e;refine ⟨max n m,Zaa.2 ⟨true,hw,?_⟩⟩;simp only [Zag,Zaa];exact ⟨q,Zcv (ZaF (le_max_left _ _)) hn,T',h3,Zbi (ZaF (le_max_right _ _)) hm⟩
   ·obtain ⟨T',h3,e⟩:=e;obtain ⟨m,hm⟩:=Zb9 e;refine ⟨m,Zaa.2 ⟨false,hw,?_⟩⟩;simp only [Zan,Zaa];exact ⟨T',h3,hm⟩
   ·obtain ⟨q,h1,u,h2,T',h3,e⟩:=e;obtain ⟨n,hn⟩:=ZfF h1;obtain ⟨m,hm⟩:=Zb9 e;refine ⟨max n m,Zaa.2 ⟨true,hw,?_⟩⟩;simp only [Zag,Zaa];exact ⟨q,Zcv (ZaF (le_max_left _ _)) hn,u,h2,T',h3,Zbi (ZaF (le_max_right _ _)) hm⟩
   ·obtain ⟨T',h3,e⟩:=e;obtain ⟨m,hm⟩:=Zb9 e;refine ⟨m,Zaa.2 ⟨false,hw,?_⟩⟩;simp only [Zan,Zaa];exact ⟨T',h3,hm⟩
   ·obtain ⟨u,h0,q,h1,T',h3,e⟩:=e;obtain ⟨n,hn⟩:=ZfF h1;obtain ⟨m,hm⟩:=Zb9 e;refine ⟨max n m,Zaa.2 ⟨true,hw,?_⟩⟩;simp only [Zag,Zaa];exact ⟨u,h0,q,Zcv (ZaF (le_max_left _ _)) hn,T',h3,Zbi (ZaF (le_max_right _ _)) hm⟩
   ·obtain ⟨T',h3,e⟩:=e;obtain ⟨m,hm⟩:=Zb9 e;refine ⟨m,Zaa.2 ⟨false,hw,?_⟩⟩;simp only [Zan,Zaa];exact ⟨T',h3,hm⟩
   ·obtain ⟨u,h0,q,h1,T',h3,e⟩:=e;obtain ⟨n,hn⟩:=ZfF h1;obtain ⟨m,hm⟩:=Zb9 e;refine ⟨max n m,Zaa.2 ⟨true,hw,?_⟩⟩;simp only [Zag,Zaa];exact ⟨u,h0,q,Zcv (ZaF (le_max_left _ _)) hn,T',h3,Zbi (ZaF (le_max_right _ _)) hm⟩
   ·obtain ⟨T',h3,e⟩:=e;obtain ⟨m,hm⟩:=Zb9 e;refine ⟨m,Zaa.2 ⟨false,hw,?_⟩⟩;simp only [Zan,Zaa];exact ⟨T',h3,hm⟩
   ·obtain ⟨u,h0,q,h1,u',h2,u2,h4,T',h3,e⟩:=e;obtain ⟨n,hn⟩:=ZfF h1;obtain ⟨m,hm⟩:=Zb9 e;refine ⟨max n m,Zaa.2 ⟨true,hw,?_⟩⟩;simp only [Zag,Zaa];exact ⟨u,h0,q,Zcv (ZaF (le_max_left _ _)) hn,u',h2,u2,h4,T',h3,Zbi (ZaF (le_max_right _ _)) hm⟩
   ·obtain ⟨T',h3,e⟩:=e;obtain ⟨m,hm⟩:=Zb9 e;refine ⟨m,Zaa.2 ⟨false,hw,?_⟩⟩;simp only [Zan,Zaa];exact ⟨T',h3,hm⟩
   ·obtain ⟨q,h1,u',h2,u2,h4,T',h3,e⟩:=e;obtain ⟨n,hn⟩:=ZfF h1;obtain ⟨m,hm⟩:=Zb9 e;refine ⟨max n m,Zaa.2 ⟨true,hw,?_⟩⟩;simp only [Zag,Zaa];exact ⟨q,Zcv (ZaF (le_max_left _ _)) hn,u',h2,u2,h4,T',h3,Zbi (ZaF (le_max_right _ _)) hm⟩
theorem Zuf {nt:Nat} {c:Code} {T:Tm} {S:St} {y:X×Tm×St} (e:(Zl1 pol pl P c).f (Zc8 pol pl P) nt T S=some y):∃ n,(Zl1 pol pl P c).f (run pol pl P n) nt T S=some y:=by
 cases c<;>unfold Zl1 at e |-<;>try exact ⟨0,e⟩
 case region id ops d=>
  cases d<;>simp only [cond_true,cond_false] at e |-
  ·rw [Zaa] at e;obtain ⟨q,h1,e⟩:=e;obtain ⟨n,hn⟩:=Zi1 h1;exact ⟨n,Zaa.2 ⟨q,hn,e⟩⟩
  ·cases hp:pl ops.toList<;>simp only [hp] at e |-
   ·cases e
   ·rw [Zaa] at e;obtain ⟨q,h1,e⟩:=e;obtain ⟨n,hn⟩:=Zb9 h1;exact ⟨n,Zaa.2 ⟨q,hn,e⟩⟩
 case seq a b=>
  simp only [Zaa] at e;obtain ⟨q,h1,e⟩:=e;obtain ⟨n,hn⟩:=Zbq.1 h1;split at e
  ·rename_i hx;obtain ⟨m,hm⟩:=Zbq.1 e;refine ⟨max n m,Zaa.2 ⟨q,Zwi hn,?_⟩⟩;rw [hx];exact Zwj hm
  ·rename_i hx;refine ⟨n,Zaa.2 ⟨q,hn,?_⟩⟩;split
   ·rename_i hy;exact absurd hy hx
   ·exact e
 case cond v a b=>
  simp only [Zaa] at e;obtain ⟨q,h1,e⟩:=e;split at e
  ·obtain ⟨n,hn⟩:=Zbq.1 e;exact ⟨n,Zaa.2 ⟨_,h1,hn⟩⟩
  ·obtain ⟨n,hn⟩:=Zbq.1 e;exact ⟨n,Zaa.2 ⟨_,h1,hn⟩⟩
  ·cases e
 case block id b=>
  simp only [Zaa] at e;obtain ⟨q,h1,e⟩:=e;obtain ⟨n,hn⟩:=Zbq.1 h1;exact ⟨n,Zaa.2 ⟨q,hn,e⟩⟩
 case loop b=>
  simp only [Zaa] at e;obtain ⟨q,h1,e⟩:=e;obtain ⟨n,hn⟩:=Zbq.1 h1;split at e
  ·rename_i hx;obtain ⟨m,hm⟩:=Zbq.1 e;refine ⟨max n m,Zaa.2 ⟨q,Zwi hn,?_⟩⟩;rw [hx];exact Zwj hm
  ·rename_i hx;refine ⟨n,Zaa.2 ⟨q,hn,?_⟩⟩;split
   ·rename_i hy;exact absurd hy hx
   ·exact e
theorem Zds (nt:Nat) (c:Code) (T:Tm) (S:St):Zc8 pol pl P nt c T S=(Zl1 pol pl P c).f (Zc8 pol pl P) nt T S:=by
 apply Option.ext;intro y;constructor
 ·intro h;obtain ⟨n,hn⟩:=Zbq.1 h;cases n with
  | zero=>cases hn
  | succ n=>rw [Zdr] at hn;exact Zo4 (ZlG n) hn
 ·intro h;obtain ⟨n,hn⟩:=Zuf h;exact Zbq.2 ⟨n+1,by rw [Zdr];exact hn⟩
theorem Z0C (hmix:P.follows .mixedOrders=true) (hx:Zoo P) (hP:Znl P):Zj9 P (Zc8 pol (Zaf pol) P):=by
 intro nt c T S x T' S' h;obtain ⟨n,hn⟩:=Zbq.1 h;exact (Zo0 hmix hx hP n).1 nt c T S x T' S' hn
end
end Go.Eng
