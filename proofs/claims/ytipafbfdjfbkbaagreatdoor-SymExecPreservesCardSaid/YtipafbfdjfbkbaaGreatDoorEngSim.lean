import Derived.Test.YtipafbfdjfbkbaaGreatDoorEngCall
set_option linter.unusedSectionVars false
open Option.some (injEq inj)
open Nat (le_refl lt_succ_self)
namespace Go.Eng
variable [Gl] [Mx]
section
variable {P:Program} {E:Gh} {S S':St} {w:World} {T:Tm}
theorem Zg3 {t:TypeId} {n:Nat} {vs:List (Nat×AV)} {v:AV} (h:Zb4 P S t n vs=some (v,S')):S.next < S'.next:=by
 unfold Zb4 at h;rw [Zaa] at h;obtain ⟨_,_,h⟩:=h;rw [Zaa] at h;obtain ⟨_,_,h⟩:=h;rw [Zaa] at h;obtain ⟨_,_,h⟩:=h;rw [Zaa] at h;obtain ⟨_,_,h⟩:=h;rw [Zaa] at h;obtain ⟨_,_,h⟩:=h;have:=(Prod.mk.inj (inj h)).2;rw [<-this];exact lt_succ_self _
theorem Zhw {t:TypeId} {l c v:AV} (h:Zb8 P S t l c=some (v,S')):S.next < S'.next:=by
 unfold Zb8 at h;rw [Zaa] at h;obtain ⟨_,_,h⟩:=h;rw [Zaa] at h;obtain ⟨_,_,h⟩:=h;rw [Zaa] at h;obtain ⟨_,_,h⟩:=h;rw [Zaa] at h;obtain ⟨_,_,h⟩:=h;rw [Zaa] at h;obtain ⟨_,_,h⟩:=h;rw [Zaa] at h;obtain ⟨_,_,h⟩:=h;have:=(Prod.mk.inj (inj h)).2;rw [<-this];exact lt_succ_self _
theorem ZqN {pol:FuncId->Bool} {rec:ZbL} {dst:Option Tmp} {type:TypeId} {pos:String} {after:Array Edge} {guard:Option (Nat×Bool)} {x:Operand} {a:Act} {v:AV} (h:(aOp pol P (Op.move x)).f rec T S=some (v,S'))
 (ho:∀ y0∈(Op.move x).operands.toList,∀ u,ev T y0=some u->VR E u (a.eval y0)) (hr:HR E S.heap.get w) (pr:PR E w) 
 {next:Act->World->Prop} {Q:Exit->Act->World->Prop}
 (hn:∀ v' w' E',VR E' v v'->ZaZ E S.heap.get w S.next E' S'.heap.get w' S'.next->next (a.put dst v') w'):(⟨dst,.move x,type,pos,after,guard⟩:Oper).wp P a w next Q:=by
 simp only [aOp,Zaa,injEq,Prod.mk.injEq] at h;obtain ⟨u,hu,rfl,rfl⟩:=h;exact Zat (Zdh.val hr pr (ho x (by simp [Op.operands]) u hu)) hn
theorem Znm {pol:FuncId->Bool} {rec:ZbL} {dst:Option Tmp} {type:TypeId} {pos:String} {after:Array Edge} {guard:Option (Nat×Bool)} {x:Operand} {a:Act} {v:AV} (h:(aOp pol P (Op.assign x)).f rec T S=some (v,S'))
 (ho:∀ y0∈(Op.assign x).operands.toList,∀ u,ev T y0=some u->VR E u (a.eval y0)) (hr:HR E S.heap.get w) (pr:PR E w) 
 {next:Act->World->Prop} {Q:Exit->Act->World->Prop}
 (hn:∀ v' w' E',VR E' v v'->ZaZ E S.heap.get w S.next E' S'.heap.get w' S'.next->next (a.put dst v') w'):(⟨dst,.assign x,type,pos,after,guard⟩:Oper).wp P a w next Q:=by
 simp only [aOp,Zaa,injEq,Prod.mk.injEq] at h;obtain ⟨u,hu,rfl,rfl⟩:=h;exact Zat (Zdh.val hr pr (ho x (by simp [Op.operands]) u hu)) hn
theorem ZqO {pol:FuncId->Bool} {rec:ZbL} {dst:Option Tmp} {type:TypeId} {pos:String} {after:Array Edge} {guard:Option (Nat×Bool)} {c x y:Operand} {a:Act} {v:AV} (h:(aOp pol P (Op.pick c x y)).f rec T S=some (v,S'))
 (ho:∀ y0∈(Op.pick c x y).operands.toList,∀ u,ev T y0=some u->VR E u (a.eval y0)) (hr:HR E S.heap.get w) (pr:PR E w) 
 {next:Act->World->Prop} {Q:Exit->Act->World->Prop}
 (hn:∀ v' w' E',VR E' v v'->ZaZ E S.heap.get w S.next E' S'.heap.get w' S'.next->next (a.put dst v') w'):(⟨dst,.pick c x y,type,pos,after,guard⟩:Oper).wp P a w next Q:=by
 simp only [aOp,Zaa] at h;obtain ⟨u,hu,h⟩:=h;have hc:=ho c (by simp [Op.operands]) u hu;split at h
 ·simp only [Zaa,injEq,Prod.mk.injEq] at h;obtain ⟨u',hu',rfl,rfl⟩:=h;simp only [VR] at hc;exact Zat (by simpa [execOp,hc,asBool] using Zdh.val hr pr (ho x (by simp [Op.operands]) u' hu')) hn
 ·simp only [Zaa,injEq,Prod.mk.injEq] at h;obtain ⟨u',hu',rfl,rfl⟩:=h;simp only [VR] at hc;exact Zat (by simpa [execOp,hc,asBool] using Zdh.val hr pr (ho y (by simp [Op.operands]) u' hu')) hn
 ·cases h
theorem Zor {pol:FuncId->Bool} {rec:ZbL} {dst:Option Tmp} {type:TypeId} {pos:String} {after:Array Edge} {guard:Option (Nat×Bool)} {t:TypeId} {a:Act} {v:AV} (h:(aOp pol P (Op.alloc t)).f rec T S=some (v,S'))
 (_ho:∀ y0∈(Op.alloc t).operands.toList,∀ u,ev T y0=some u->VR E u (a.eval y0)) (hr:HR E S.heap.get w) (pr:PR E w) (fresh:∀ n,S.next<=n->n < S'.next->¬ E.dom n)
 {next:Act->World->Prop} {Q:Exit->Act->World->Prop}
 (hn:∀ v' w' E',VR E' v v'->ZaZ E S.heap.get w S.next E' S'.heap.get w' S'.next->next (a.put dst v') w'):(⟨dst,.alloc t,type,pos,after,guard⟩:Oper).wp P a w next Q:=by
 simp only [aOp] at h;split at h
 ·rename_i e he;cases har:Mx.ar t<;>rw [har] at h
  ·simp only [cond_false,injEq,Prod.mk.injEq] at h;obtain ⟨rfl,rfl⟩:=h;exact Zat (Zdh.ofV (ZmZ he hr pr (fresh _ (le_refl _) (lt_succ_self _)))) hn
  ·have h:Zcw P e S=some (v,S'):=h;have hS:S'=ZcW S (.cells e.zero.cells):=by
    unfold Zcw at h;split at h
    ·simp only [Zaa,injEq,Prod.mk.injEq] at h;obtain ⟨_,_,_,_,_,rfl⟩:=h;rfl
    ·cases h
   have hf:¬ E.dom S.next:=fresh _ (le_refl _) (by rw [hS];exact lt_succ_self _);exact Zat (Zdh.ofV (Zip he h hr pr hf).2) hn
 ·cases h
theorem ZtZ {pol:FuncId->Bool} {rec:ZbL} {dst:Option Tmp} {type:TypeId} {pos:String} {after:Array Edge} {guard:Option (Nat×Bool)} {t:TypeId} {x:Operand} {a:Act} {v:AV} (h:(aOp pol P (Op.box t x)).f rec T S=some (v,S'))
 (ho:∀ y0∈(Op.box t x).operands.toList,∀ u,ev T y0=some u->VR E u (a.eval y0)) (hr:HR E S.heap.get w) (pr:PR E w) (fresh:∀ n,S.next<=n->n < S'.next->¬ E.dom n)
 {next:Act->World->Prop} {Q:Exit->Act->World->Prop}
 (hn:∀ v' w' E',VR E' v v'->ZaZ E S.heap.get w S.next E' S'.heap.get w' S'.next->next (a.put dst v') w'):(⟨dst,.box t x,type,pos,after,guard⟩:Oper).wp P a w next Q:=by
 simp only [aOp] at h;split at h
 ·simp only [Zaa,injEq,Prod.mk.injEq] at h;obtain ⟨u,hu,rfl,rfl⟩:=h;exact Zat (Zdh.ofV (ZqI (ho x (by simp [Op.operands]) u hu) hr pr (fresh _ (le_refl _) (lt_succ_self _)))) hn
 ·cases h
theorem Zos {pol:FuncId->Bool} {rec:ZbL} {dst:Option Tmp} {type:TypeId} {pos:String} {after:Array Edge} {guard:Option (Nat×Bool)} {t:TypeId} {ps:Array (Nat×Operand)} {a:Act} {v:AV} (h:(aOp pol P (Op.build t ps)).f rec T S=some (v,S'))
 (ho:∀ y0∈(Op.build t ps).operands.toList,∀ u,ev T y0=some u->VR E u (a.eval y0)) (hr:HR E S.heap.get w) (pr:PR E w) 
 {next:Act->World->Prop} {Q:Exit->Act->World->Prop}
 (hn:∀ v' w' E',VR E' v v'->ZaZ E S.heap.get w S.next E' S'.heap.get w' S'.next->next (a.put dst v') w'):(⟨dst,.build t ps,type,pos,after,guard⟩:Oper).wp P a w next Q:=by
 simp only [aOp,Zaa,injEq,Prod.mk.injEq] at h;obtain ⟨vs,hvs,u,hu,rfl,rfl⟩:=h;have hp:=ZkL (ρ:=a.eval) hvs (fun x hx=>ho x.2 (by simp only [Op.operands];simp;exact ⟨x.1,by simpa using hx⟩));obtain ⟨u',hrun,hv⟩:=Zod (P:=P) (E:=E) (qs:=ps.map fun (i,x)=>(i,a.eval x)) hu (by simpa using hp);exact Zat (Zdh.ofV (ZaX.same hr pr (hrun w) hv)) hn
theorem Zhx {pol:FuncId->Bool} {rec:ZbL} {dst:Option Tmp} {type:TypeId} {pos:String} {after:Array Edge} {guard:Option (Nat×Bool)} {t:TypeId} {n:Nat} {ps:Array (Nat×Operand)} {a:Act} {v:AV} (h:(aOp pol P (Op.buildSlice t n ps)).f rec T S=some (v,S'))
 (ho:∀ y0∈(Op.buildSlice t n ps).operands.toList,∀ u,ev T y0=some u->VR E u (a.eval y0)) (hr:HR E S.heap.get w) (pr:PR E w) (fresh:∀ n,S.next<=n->n < S'.next->¬ E.dom n)
 {next:Act->World->Prop} {Q:Exit->Act->World->Prop}
 (hn:∀ v' w' E',VR E' v v'->ZaZ E S.heap.get w S.next E' S'.heap.get w' S'.next->next (a.put dst v') w'):(⟨dst,.buildSlice t n ps,type,pos,after,guard⟩:Oper).wp P a w next Q:=by
 simp only [aOp,Zaa] at h;obtain ⟨vs,hvs,h⟩:=h;have hp:=ZkL (ρ:=a.eval) hvs (fun x hx=>ho x.2 (by simp only [Op.operands];simp;exact ⟨x.1,by simpa using hx⟩));cases hbt:Mx.bt t<;>rw [hbt] at h
 ·rw [Zan] at h;have hS:¬ E.dom S.next:=fresh _ (le_refl _) (Zg3 h);have hd:=Zgy (P:=P) (qs:=ps.map fun (i,x)=>(i,a.eval x)) h (by simpa using hp) hr pr hS;refine Zat ?_ hn;simp only [execOp];generalize Instr.buildSlice t n (ps.map fun (i,x)=>(i,a.eval x))=s at hd;exact Zdh.ofV hd
 ·rw [Zag] at h;simp only [Zaa] at h;obtain ⟨⟨vs',S1⟩,hz,h⟩:=h;dsimp only at h;obtain ⟨E1,hp1,hn1,t1⟩:=ZFA _ _ _ E S S1 w hz hp hr pr;have hS:¬ E1.dom S1.next:=fun hd=>by
   rcases t1.dom _ hd with d | ⟨d1,d2⟩
   ·rw [hn1] at d;exact fresh _ (le_refl _) (by have:=Zg3 h;omega) d
   ·omega
  obtain ⟨v',w',E',hrun,hv,ht⟩:=Zgy (P:=P) (qs:=ps.map fun (i,x)=>(i,a.eval x)) h (by simpa using hp1) t1.hr t1.pr hS;rw [hn1] at ht;have hd:ZaX P (Instr.buildSlice t n (ps.map fun (i,x)=>(i,a.eval x))) E S w v S':=⟨v',w',E',hrun,hv,t1.trans ht⟩
  refine Zat ?_ hn;simp only [execOp];generalize Instr.buildSlice t n (ps.map fun (i,x)=>(i,a.eval x))=s at hd;exact Zdh.ofV hd
theorem ZqP {pol:FuncId->Bool} {rec:ZbL} {dst:Option Tmp} {type:TypeId} {pos:String} {after:Array Edge} {guard:Option (Nat×Bool)} {t:TypeId} {p:Operand} {a:Act} {v:AV} (h:(aOp pol P (Op.load t p)).f rec T S=some (v,S'))
 (ho:∀ y0∈(Op.load t p).operands.toList,∀ u,ev T y0=some u->VR E u (a.eval y0)) (hr:HR E S.heap.get w) (pr:PR E w) 
 {next:Act->World->Prop} {Q:Exit->Act->World->Prop}
 (hn:∀ v' w' E',VR E' v v'->ZaZ E S.heap.get w S.next E' S'.heap.get w' S'.next->next (a.put dst v') w'):(⟨dst,.load t p,type,pos,after,guard⟩:Oper).wp P a w next Q:=by
 simp only [aOp] at h;split at h
 ·rename_i e he;simp only [Zaa,injEq,Prod.mk.injEq] at h;obtain ⟨q,hq,u,hu,rfl,rfl⟩:=h;exact Zat (Zdh.ofV ((Zjx he hu (ho p (by simp [Op.operands]) q hq) hr pr).toV hr pr)) hn
 ·cases h
theorem Zot {pol:FuncId->Bool} {rec:ZbL} {dst:Option Tmp} {type:TypeId} {pos:String} {after:Array Edge} {guard:Option (Nat×Bool)} {t:TypeId} {p x:Operand} {a:Act} {v:AV} (h:(aOp pol P (Op.store t p x)).f rec T S=some (v,S'))
 (ho:∀ y0∈(Op.store t p x).operands.toList,∀ u,ev T y0=some u->VR E u (a.eval y0)) (hr:HR E S.heap.get w) (pr:PR E w) 
 {next:Act->World->Prop} {Q:Exit->Act->World->Prop}
 (hn:∀ v' w' E',VR E' v v'->ZaZ E S.heap.get w S.next E' S'.heap.get w' S'.next->next (a.put dst v') w'):(⟨dst,.store t p x,type,pos,after,guard⟩:Oper).wp P a w next Q:=by
 simp only [aOp] at h;split at h
 ·rename_i e he;simp only [Zaa,injEq,Prod.mk.injEq] at h;obtain ⟨q,hq,u,hu,⟨u',S2⟩,hfz,S1,hS1,rfl,rfl⟩:=h;obtain ⟨E2,hu2,hn2,t2⟩:=ZtY _ E S S2 w u u' _ hfz (ho x (by simp [Op.operands]) u hu) hr pr;obtain ⟨w',hrun,ht⟩:=ZmY (P:=P) he hS1 (VR.mono t2.ext _ _ (ho p (by simp [Op.operands]) q hq)) hu2 t2.hr t2.pr;dsimp only at ht;rw [hn2] at ht;exact Zat (Zdh.unit2 hrun (t2.trans ht)) hn
 ·cases h
theorem ZjB {pol:FuncId->Bool} {rec:ZbL} {dst:Option Tmp} {type:TypeId} {pos:String} {after:Array Edge} {guard:Option (Nat×Bool)} {x:Operand} {a:Act} {v:AV} (h:(aOp pol P (Op.nilCheck x)).f rec T S=some (v,S'))
 (ho:∀ y0∈(Op.nilCheck x).operands.toList,∀ u,ev T y0=some u->VR E u (a.eval y0)) (hr:HR E S.heap.get w) (pr:PR E w) 
 {next:Act->World->Prop} {Q:Exit->Act->World->Prop}
 (hn:∀ v' w' E',VR E' v v'->ZaZ E S.heap.get w S.next E' S'.heap.get w' S'.next->next (a.put dst v') w'):(⟨dst,.nilCheck x,type,pos,after,guard⟩:Oper).wp P a w next Q:=by
 simp only [aOp,Zaa] at h;obtain ⟨u,hu,h⟩:=h;have hx:=ho x (by simp [Op.operands]) u hu;split at h
 ·cases h
 ·cases h
 ·cases h
 ·rename_i n1 n2 n3;cases h;refine Zat (S':=S) ?_ hn;have:execOp a.eval ⟨dst,.nilCheck x,type,pos,after,guard⟩=pure (.value (a.eval x)):=by
   simp only [execOp];generalize a.eval x=y at hx;cases v<;>simp only [VR] at hx
   case nilp=>exact absurd rfl n1
   case nilf=>exact absurd rfl n3
   case nili=>exact absurd rfl n2
   case func=>obtain ⟨_,_,rfl,_⟩:=hx;rfl
   case mp=>obtain ⟨_,rfl⟩:=hx;rfl
   case pa=>obtain ⟨_,rfl,_⟩:=hx;rfl
   case fp=>obtain ⟨_,_,rfl,_⟩:=hx;rfl
   case ms=>obtain ⟨_,_,rfl,_⟩:=hx;rfl
   case fs=>rcases hx with ⟨_,_,_,_,rfl,_⟩ | ⟨_,_,rfl⟩<;>rfl
   case map=>obtain ⟨_,rfl⟩:=hx;rfl
   case iface=>obtain ⟨_,rfl,_⟩:=hx;rfl
   case agg=>obtain ⟨_,rfl,_⟩:=hx;rfl
   case tup=>obtain ⟨_,rfl,_⟩:=hx;rfl
   all_goals (subst hx;rfl)
  rw [this];exact Zdh.val hr pr hx
theorem Zou {pol:FuncId->Bool} {rec:ZbL} {dst:Option Tmp} {type:TypeId} {pos:String} {after:Array Edge} {guard:Option (Nat×Bool)} {op:BinOp} {t:TypeId} {x y:Operand} {yt:TypeId} {a:Act} {v:AV} (h:(aOp pol P (Op.binOp op t x y yt)).f rec T S=some (v,S'))
 (ho:∀ y0∈(Op.binOp op t x y yt).operands.toList,∀ u,ev T y0=some u->VR E u (a.eval y0)) (hr:HR E S.heap.get w) (pr:PR E w) 
 {next:Act->World->Prop} {Q:Exit->Act->World->Prop}
 (hn:∀ v' w' E',VR E' v v'->ZaZ E S.heap.get w S.next E' S'.heap.get w' S'.next->next (a.put dst v') w'):(⟨dst,.binOp op t x y yt,type,pos,after,guard⟩:Oper).wp P a w next Q:=by
 simp only [aOp,Zaa,injEq,Prod.mk.injEq] at h;obtain ⟨u,hu,u',hu',z,hz,rfl,rfl⟩:=h;exact Zat (Zdh.ofV (ZqJ hz (ho x (by simp [Op.operands]) u hu) (ho y (by simp [Op.operands]) u' hu') hr pr)) hn
theorem ZqQ {pol:FuncId->Bool} {rec:ZbL} {dst:Option Tmp} {type:TypeId} {pos:String} {after:Array Edge} {guard:Option (Nat×Bool)} {op:UnOp} {t:TypeId} {x:Operand} {a:Act} {v:AV} (h:(aOp pol P (Op.unOp op t x)).f rec T S=some (v,S'))
 (ho:∀ y0∈(Op.unOp op t x).operands.toList,∀ u,ev T y0=some u->VR E u (a.eval y0)) (hr:HR E S.heap.get w) (pr:PR E w) 
 {next:Act->World->Prop} {Q:Exit->Act->World->Prop}
 (hn:∀ v' w' E',VR E' v v'->ZaZ E S.heap.get w S.next E' S'.heap.get w' S'.next->next (a.put dst v') w'):(⟨dst,.unOp op t x,type,pos,after,guard⟩:Oper).wp P a w next Q:=by
 simp only [aOp,Zaa,injEq,Prod.mk.injEq] at h;obtain ⟨u,hu,z,hz,rfl,rfl⟩:=h;exact Zat (Zdh.ofV (ZtW hz (ho x (by simp [Op.operands]) u hu) hr pr)) hn
theorem ZkM {pol:FuncId->Bool} {rec:ZbL} {dst:Option Tmp} {type:TypeId} {pos:String} {after:Array Edge} {guard:Option (Nat×Bool)} {s d:TypeId} {x:Operand} {a:Act} {v:AV} (h:(aOp pol P (Op.convert s d x)).f rec T S=some (v,S'))
 (ho:∀ y0∈(Op.convert s d x).operands.toList,∀ u,ev T y0=some u->VR E u (a.eval y0)) (hr:HR E S.heap.get w) (pr:PR E w) 
 {next:Act->World->Prop} {Q:Exit->Act->World->Prop}
 (hn:∀ v' w' E',VR E' v v'->ZaZ E S.heap.get w S.next E' S'.heap.get w' S'.next->next (a.put dst v') w'):(⟨dst,.convert s d x,type,pos,after,guard⟩:Oper).wp P a w next Q:=by
 simp only [aOp,Zaa,injEq,Prod.mk.injEq] at h;obtain ⟨u,hu,z,hz,rfl,rfl⟩:=h;exact Zat (Zdh.ofV ((Zj6 hz (ho x (by simp [Op.operands]) u hu) hr pr).toV hr pr)) hn
theorem Zfq {pol:FuncId->Bool} {rec:ZbL} {dst:Option Tmp} {type:TypeId} {pos:String} {after:Array Edge} {guard:Option (Nat×Bool)} {t:TypeId} {x:Operand} {a:Act} {v:AV} (h:(aOp pol P (Op.makeInterface t x)).f rec T S=some (v,S'))
 (ho:∀ y0∈(Op.makeInterface t x).operands.toList,∀ u,ev T y0=some u->VR E u (a.eval y0)) (hr:HR E S.heap.get w) (pr:PR E w) 
 {next:Act->World->Prop} {Q:Exit->Act->World->Prop}
 (hn:∀ v' w' E',VR E' v v'->ZaZ E S.heap.get w S.next E' S'.heap.get w' S'.next->next (a.put dst v') w'):(⟨dst,.makeInterface t x,type,pos,after,guard⟩:Oper).wp P a w next Q:=by
 simp only [aOp,Zaa] at h;obtain ⟨e,he,u,hu,h⟩:=h;have hx:=ho x (by simp [Op.operands]) u hu;split at h
 ·cases h
 ·rename_i hi;cases h;refine Zat (Zdh.ofV (ZaX.same hr pr (v':=.iface t (a.eval x)) ?_ (by simp only [VR];exact ⟨_,rfl,hx⟩))) hn;rw [Instr.makeInterface,Sem.run_bind,Zby he];simp only [Result.andThen_ok];cases hd:e.und<;>first | rfl | exact absurd hd (hi _)
theorem ZjC {pol:FuncId->Bool} {rec:ZbL} {dst:Option Tmp} {type:TypeId} {pos:String} {after:Array Edge} {guard:Option (Nat×Bool)} {fn:Fn} {f c:Array Operand} {a:Act} {v:AV} (h:(aOp pol P (Op.makeFunc fn f c)).f rec T S=some (v,S'))
 (ho:∀ y0∈(Op.makeFunc fn f c).operands.toList,∀ u,ev T y0=some u->VR E u (a.eval y0)) (hr:HR E S.heap.get w) (pr:PR E w) 
 {next:Act->World->Prop} {Q:Exit->Act->World->Prop}
 (hn:∀ v' w' E',VR E' v v'->ZaZ E S.heap.get w S.next E' S'.heap.get w' S'.next->next (a.put dst v') w'):(⟨dst,.makeFunc fn f c,type,pos,after,guard⟩:Oper).wp P a w next Q:=by
 simp only [aOp] at h;split at h
 ·rename_i g;simp only [Zaa,injEq,Prod.mk.injEq] at h;obtain ⟨f',hf,c',hc,rfl,rfl⟩:=h;have h1:=Zg2 (ρ:=a.eval) hf (fun x hx=>ho x (by simp [Op.operands];exact .inl (by simpa using hx)));have h2:=Zg2 (ρ:=a.eval) hc (fun x hx=>ho x (by simp [Op.operands];exact .inr (by simpa using hx)));refine Zat (Zdh.ofV (ZaX.same hr pr (v':=.func (.func g) (f.map a.eval) (c.map a.eval)) rfl ?_)) hn;simp only [VR];exact ⟨_,_,rfl,⟨by simpa using h1.1,by simpa using h1.2⟩,by simpa using h2.1,by simpa using h2.2⟩
 ·cases h
theorem ZkN {pol:FuncId->Bool} {rec:ZbL} {dst:Option Tmp} {type:TypeId} {pos:String} {after:Array Edge} {guard:Option (Nat×Bool)} {t:TypeId} {r:Option Operand} {a:Act} {v:AV} (h:(aOp pol P (Op.makeMap t r)).f rec T S=some (v,S'))
 (ho:∀ y0∈(Op.makeMap t r).operands.toList,∀ u,ev T y0=some u->VR E u (a.eval y0)) (hr:HR E S.heap.get w) (pr:PR E w) (fresh:∀ n,S.next<=n->n < S'.next->¬ E.dom n)
 {next:Act->World->Prop} {Q:Exit->Act->World->Prop}
 (hn:∀ v' w' E',VR E' v v'->ZaZ E S.heap.get w S.next E' S'.heap.get w' S'.next->next (a.put dst v') w'):(⟨dst,.makeMap t r,type,pos,after,guard⟩:Oper).wp P a w next Q:=by
 simp only [aOp,Zaa,Zas,injEq,Prod.mk.injEq] at h;obtain ⟨_,hrn,rfl,rfl⟩:=h;obtain rfl:r=none:=by cases r<;>simp_all
 have hS:=fresh _ (le_refl _) (lt_succ_self _);obtain ⟨a1,a2,a3,a4⟩:=Zio E S.next w.heap.size 0 0;refine Zat (Zdh.ofV ⟨.map (some w.heap.size),{ w with heap:=w.heap.push (.map #[] 0) },E.add S.next w.heap.size 0 0,?_,?_,Zjz (o:=.map #[] 0) hr pr hS (by simp only [BR];exact ⟨#[],rfl,by simp [MR]⟩) rfl ⟨rfl,rfl,rfl⟩⟩) hn
 ·simp [Instr.makeMap]
 ·simp only [VR];exact ⟨a1,by rw [a2]⟩
theorem Zis {pol:FuncId->Bool} {rec:ZbL} {dst:Option Tmp} {type:TypeId} {pos:String} {after:Array Edge} {guard:Option (Nat×Bool)} {t:TypeId} {l c:Operand} {a:Act} {v:AV} (h:(aOp pol P (Op.makeSlice t l c)).f rec T S=some (v,S'))
 (ho:∀ y0∈(Op.makeSlice t l c).operands.toList,∀ u,ev T y0=some u->VR E u (a.eval y0)) (hr:HR E S.heap.get w) (pr:PR E w) (fresh:∀ n,S.next<=n->n < S'.next->¬ E.dom n)
 {next:Act->World->Prop} {Q:Exit->Act->World->Prop}
 (hn:∀ v' w' E',VR E' v v'->ZaZ E S.heap.get w S.next E' S'.heap.get w' S'.next->next (a.put dst v') w'):(⟨dst,.makeSlice t l c,type,pos,after,guard⟩:Oper).wp P a w next Q:=by
 simp only [aOp,Zaa] at h;obtain ⟨u,hu,u',hu',h⟩:=h;have hS:¬ E.dom S.next:=fresh _ (le_refl _) (Zhw h);exact Zat (Zdh.ofV (Zhs h (ho l (by simp [Op.operands]) u hu) (ho c (by simp [Op.operands]) u' hu') hr pr hS)) hn
theorem Zov {pol:FuncId->Bool} {rec:ZbL} {dst:Option Tmp} {type:TypeId} {pos:String} {after:Array Edge} {guard:Option (Nat×Bool)} {t:TypeId} {x:Operand} {lo hi mx:Option Operand} {a:Act} {v:AV} (h:(aOp pol P (Op.slice t x lo hi mx)).f rec T S=some (v,S'))
 (ho:∀ y0∈(Op.slice t x lo hi mx).operands.toList,∀ u,ev T y0=some u->VR E u (a.eval y0)) (hr:HR E S.heap.get w) (pr:PR E w) 
 {next:Act->World->Prop} {Q:Exit->Act->World->Prop}
 (hn:∀ v' w' E',VR E' v v'->ZaZ E S.heap.get w S.next E' S'.heap.get w' S'.next->next (a.put dst v') w'):(⟨dst,.slice t x lo hi mx,type,pos,after,guard⟩:Oper).wp P a w next Q:=by
 simp only [aOp,Zaa,injEq,Prod.mk.injEq] at h;obtain ⟨u,hu,z,hz,rfl,rfl⟩:=h;refine Zat (Zdh.ofV (Zna (ρ:=a.eval) hz (ho x (by simp [Op.operands]) u hu) (fun y hy=>ho y ?_) hr pr)) hn;rcases hy with rfl | rfl<;>simp [Op.operands]
theorem Zit {pol:FuncId->Bool} {rec:ZbL} {dst:Option Tmp} {type:TypeId} {pos:String} {after:Array Edge} {guard:Option (Nat×Bool)} {s:TypeId} {x:Operand} {f:Nat} {a:Act} {v:AV} (h:(aOp pol P (Op.fieldAddr s x f)).f rec T S=some (v,S'))
 (ho:∀ y0∈(Op.fieldAddr s x f).operands.toList,∀ u,ev T y0=some u->VR E u (a.eval y0)) (hr:HR E S.heap.get w) (pr:PR E w) 
 {next:Act->World->Prop} {Q:Exit->Act->World->Prop}
 (hn:∀ v' w' E',VR E' v v'->ZaZ E S.heap.get w S.next E' S'.heap.get w' S'.next->next (a.put dst v') w'):(⟨dst,.fieldAddr s x f,type,pos,after,guard⟩:Oper).wp P a w next Q:=by
 simp only [aOp,Zaa,injEq,Prod.mk.injEq] at h;obtain ⟨u,hu,z,hz,rfl,rfl⟩:=h;exact Zat (Zdh.ofV (Zht hz (ho x (by simp [Op.operands]) u hu) hr pr)) hn
theorem Zow {pol:FuncId->Bool} {rec:ZbL} {dst:Option Tmp} {type:TypeId} {pos:String} {after:Array Edge} {guard:Option (Nat×Bool)} {s:TypeId} {x:Operand} {f:Nat} {a:Act} {v:AV} (h:(aOp pol P (Op.field s x f)).f rec T S=some (v,S'))
 (ho:∀ y0∈(Op.field s x f).operands.toList,∀ u,ev T y0=some u->VR E u (a.eval y0)) (hr:HR E S.heap.get w) (pr:PR E w) 
 {next:Act->World->Prop} {Q:Exit->Act->World->Prop}
 (hn:∀ v' w' E',VR E' v v'->ZaZ E S.heap.get w S.next E' S'.heap.get w' S'.next->next (a.put dst v') w'):(⟨dst,.field s x f,type,pos,after,guard⟩:Oper).wp P a w next Q:=by
 simp only [aOp,Zaa,injEq,Prod.mk.injEq] at h;obtain ⟨u,hu,z,hz,rfl,rfl⟩:=h;exact Zat (Zdh.ofV (Znb hz (ho x (by simp [Op.operands]) u hu) hr pr)) hn
theorem Ziu {pol:FuncId->Bool} {rec:ZbL} {dst:Option Tmp} {type:TypeId} {pos:String} {after:Array Edge} {guard:Option (Nat×Bool)} {t:TypeId} {x i:Operand} {a:Act} {v:AV} (h:(aOp pol P (Op.indexAddr t x i)).f rec T S=some (v,S'))
 (ho:∀ y0∈(Op.indexAddr t x i).operands.toList,∀ u,ev T y0=some u->VR E u (a.eval y0)) (hr:HR E S.heap.get w) (pr:PR E w) 
 {next:Act->World->Prop} {Q:Exit->Act->World->Prop}
 (hn:∀ v' w' E',VR E' v v'->ZaZ E S.heap.get w S.next E' S'.heap.get w' S'.next->next (a.put dst v') w'):(⟨dst,.indexAddr t x i,type,pos,after,guard⟩:Oper).wp P a w next Q:=by
 simp only [aOp,Zaa,injEq,Prod.mk.injEq] at h;obtain ⟨u,hu,u',hu',z,hz,rfl,rfl⟩:=h;exact Zat (Zdh.ofV (Zhu hz (ho x (by simp [Op.operands]) u hu) (ho i (by simp [Op.operands]) u' hu') hr pr)) hn
theorem Zox {pol:FuncId->Bool} {rec:ZbL} {dst:Option Tmp} {type:TypeId} {pos:String} {after:Array Edge} {guard:Option (Nat×Bool)} {t:TypeId} {x i:Operand} {a:Act} {v:AV} (h:(aOp pol P (Op.index t x i)).f rec T S=some (v,S'))
 (ho:∀ y0∈(Op.index t x i).operands.toList,∀ u,ev T y0=some u->VR E u (a.eval y0)) (hr:HR E S.heap.get w) (pr:PR E w) 
 {next:Act->World->Prop} {Q:Exit->Act->World->Prop}
 (hn:∀ v' w' E',VR E' v v'->ZaZ E S.heap.get w S.next E' S'.heap.get w' S'.next->next (a.put dst v') w'):(⟨dst,.index t x i,type,pos,after,guard⟩:Oper).wp P a w next Q:=by
 simp only [aOp,Zaa,injEq,Prod.mk.injEq] at h;obtain ⟨u,hu,u',hu',z,hz,rfl,rfl⟩:=h;exact Zat (Zdh.ofV (Znc hz (ho x (by simp [Op.operands]) u hu) (ho i (by simp [Op.operands]) u' hu') hr pr)) hn
theorem Znn {pol:FuncId->Bool} {rec:ZbL} {dst:Option Tmp} {type:TypeId} {pos:String} {after:Array Edge} {guard:Option (Nat×Bool)} {t:TypeId} {x i:Operand} {ok:Bool} {a:Act} {v:AV} (h:(aOp pol P (Op.lookup t x i ok)).f rec T S=some (v,S'))
 (ho:∀ y0∈(Op.lookup t x i ok).operands.toList,∀ u,ev T y0=some u->VR E u (a.eval y0)) (hr:HR E S.heap.get w) (pr:PR E w) 
 {next:Act->World->Prop} {Q:Exit->Act->World->Prop}
 (hn:∀ v' w' E',VR E' v v'->ZaZ E S.heap.get w S.next E' S'.heap.get w' S'.next->next (a.put dst v') w'):(⟨dst,.lookup t x i ok,type,pos,after,guard⟩:Oper).wp P a w next Q:=by
 simp only [aOp,Zaa,injEq,Prod.mk.injEq] at h;obtain ⟨u,hu,u',hu',z,hz,rfl,rfl⟩:=h;exact Zat (Zdh.ofV ((Zgz hz (ho x (by simp [Op.operands]) u hu) (ho i (by simp [Op.operands]) u' hu') hr pr).toV hr pr)) hn
theorem Ziv {pol:FuncId->Bool} {rec:ZbL} {dst:Option Tmp} {type:TypeId} {pos:String} {after:Array Edge} {guard:Option (Nat×Bool)} {t:TypeId} {m k x:Operand} {a:Act} {v:AV} (h:(aOp pol P (Op.mapUpdate t m k x)).f rec T S=some (v,S'))
 (ho:∀ y0∈(Op.mapUpdate t m k x).operands.toList,∀ u,ev T y0=some u->VR E u (a.eval y0)) (hr:HR E S.heap.get w) (pr:PR E w) 
 {next:Act->World->Prop} {Q:Exit->Act->World->Prop}
 (hn:∀ v' w' E',VR E' v v'->ZaZ E S.heap.get w S.next E' S'.heap.get w' S'.next->next (a.put dst v') w'):(⟨dst,.mapUpdate t m k x,type,pos,after,guard⟩:Oper).wp P a w next Q:=by
 simp only [aOp,Zaa,injEq,Prod.mk.injEq] at h;obtain ⟨u,hu,u',hu',u'',hu'',S1,hS1,rfl,rfl⟩:=h;obtain ⟨w',hrun,ht⟩:=ZkH (P:=P) hS1 (ho m (by simp [Op.operands]) u hu) (ho k (by simp [Op.operands]) u' hu') (ho x (by simp [Op.operands]) u'' hu'') hr pr;exact Zat (Zdh.unit hrun ht) hn
theorem ZjD {pol:FuncId->Bool} {rec:ZbL} {dst:Option Tmp} {type:TypeId} {pos:String} {after:Array Edge} {guard:Option (Nat×Bool)} {t:TypeId} {m k:Operand} {a:Act} {v:AV} (h:(aOp pol P (Op.mapEntry t m k)).f rec T S=some (v,S'))
 (ho:∀ y0∈(Op.mapEntry t m k).operands.toList,∀ u,ev T y0=some u->VR E u (a.eval y0)) (hr:HR E S.heap.get w) (pr:PR E w) 
 {next:Act->World->Prop} {Q:Exit->Act->World->Prop}
 (hn:∀ v' w' E',VR E' v v'->ZaZ E S.heap.get w S.next E' S'.heap.get w' S'.next->next (a.put dst v') w'):(⟨dst,.mapEntry t m k,type,pos,after,guard⟩:Oper).wp P a w next Q:=by
 simp only [aOp,Zaa] at h;obtain ⟨u,hu,u',hu',h⟩:=h;exact Zat (Zdh.ofV (ZkI h (ho m (by simp [Op.operands]) u hu) (ho k (by simp [Op.operands]) u' hu') hr pr)) hn
theorem Zhy {pol:FuncId->Bool} {rec:ZbL} {dst:Option Tmp} {type:TypeId} {pos:String} {after:Array Edge} {guard:Option (Nat×Bool)} {t:TypeId} {m s x:Operand} {a:Act} {v:AV} (h:(aOp pol P (Op.entryStore t m s x)).f rec T S=some (v,S'))
 (ho:∀ y0∈(Op.entryStore t m s x).operands.toList,∀ u,ev T y0=some u->VR E u (a.eval y0)) (hr:HR E S.heap.get w) (pr:PR E w) 
 {next:Act->World->Prop} {Q:Exit->Act->World->Prop}
 (hn:∀ v' w' E',VR E' v v'->ZaZ E S.heap.get w S.next E' S'.heap.get w' S'.next->next (a.put dst v') w'):(⟨dst,.entryStore t m s x,type,pos,after,guard⟩:Oper).wp P a w next Q:=by
 simp only [aOp,Zaa,injEq,Prod.mk.injEq] at h;obtain ⟨u,hu,u',hu',u'',hu'',S1,hS1,rfl,rfl⟩:=h;obtain ⟨w',hrun,ht⟩:=Znj (P:=P) (t:=t) hS1 (ho m (by simp [Op.operands]) u hu) (ho s (by simp [Op.operands]) u' hu') (ho x (by simp [Op.operands]) u'' hu'') hr pr;exact Zat (Zdh.unit hrun ht) hn
theorem ZkO {pol:FuncId->Bool} {rec:ZbL} {dst:Option Tmp} {type:TypeId} {pos:String} {after:Array Edge} {guard:Option (Nat×Bool)} {t:Operand} {i:Nat} {a:Act} {v:AV} (h:(aOp pol P (Op.extract t i)).f rec T S=some (v,S'))
 (ho:∀ y0∈(Op.extract t i).operands.toList,∀ u,ev T y0=some u->VR E u (a.eval y0)) (hr:HR E S.heap.get w) (pr:PR E w) 
 {next:Act->World->Prop} {Q:Exit->Act->World->Prop}
 (hn:∀ v' w' E',VR E' v v'->ZaZ E S.heap.get w S.next E' S'.heap.get w' S'.next->next (a.put dst v') w'):(⟨dst,.extract t i,type,pos,after,guard⟩:Oper).wp P a w next Q:=by
 simp only [aOp,Zaa] at h;obtain ⟨u,hu,h⟩:=h;have hx:=ho t (by simp [Op.operands]) u hu;split at h
 ·rename_i vs;simp only [Zaa,injEq,Prod.mk.injEq] at h;obtain ⟨z,hz,rfl,rfl⟩:=h;simp only [VR] at hx;obtain ⟨arr,he,hv,_⟩:=hx;obtain ⟨y,hy,hzy⟩:=hv.get hz;have hy':arr[i]?=some y:=by simpa using hy
  exact Zat (Zdh.ofV (ZaX.same hr pr (v':=y) (by simp [Instr.extract,he,hy']) hzy)) hn
 ·cases h
theorem ZqR {pol:FuncId->Bool} {rec:ZbL} (hx:Zoo P) (hP:Znl P) (hrec:Zj9 P rec) {dst:Option Tmp} {type:TypeId} {pos:String} {after:Array Edge} {guard:Option (Nat×Bool)} {c:Call} {a:Act} {v:AV} (h:(aOp pol P (Op.call c)).f rec T S=some (v,S'))
 (ho:∀ y0∈(Op.call c).operands.toList,∀ u,ev T y0=some u->VR E u (a.eval y0)) (hr:HR E S.heap.get w) (pr:PR E w) (fresh:∀ n,S.next<=n->n < S'.next->¬ E.dom n)
 {next:Act->World->Prop} {Q:Exit->Act->World->Prop}
 (hn:∀ v' w' E',VR E' v v'->ZaZ E S.heap.get w S.next E' S'.heap.get w' S'.next->next (a.put dst v') w'):(⟨dst,.call c,type,pos,after,guard⟩:Oper).wp P a w next Q:=by
 have hargs:∀ args,evs T c.args.toList=some args->VRP E args (c.args.map a.eval).toList/\args.length=(c.args.map a.eval).size:=by
  intro args hargs;have:=Zg2 (ρ:=a.eval) hargs (fun x hx=>ho x (by simp only [Op.operands,Call.operands];simp;exact .inr (by simpa using hx)));exact ⟨by simpa using this.1,by simpa using this.2⟩
 simp only [aOp] at h;split at h
 ·rename_i b hcal;simp only [Zaa] at h;obtain ⟨args,hevs,h⟩:=h;obtain ⟨hv,hl⟩:=hargs args hevs;have hex:∀ s:Sem Value,builtin b c.argTypes type (c.args.map fun | .const _=>true | _=>false) (c.args.map a.eval)=(do pure (.value (<-s)))->ZaX P s E S w v S' ->
   Zdh P (execOp a.eval ⟨dst,.call c,type,pos,after,guard⟩) E S w v S':=by
   intro s hs hd;have:execOp a.eval ⟨dst,.call c,type,pos,after,guard⟩=(do pure (.value (<-s))):=by
    simp only [execOp,resolve,hcal,pure_bind,invoke];exact hs
   rw [this];exact Zdh.ofV hd
  generalize hvals:c.args.map a.eval=vals at hv hl hex;unfold Zbn at h;split at h
  ·rename_i x t ts hts;simp only [Zaa,injEq,Prod.mk.injEq] at h;obtain ⟨z,hz,rfl,rfl⟩:=h;have hva:∃ u,vals=#[u]/\VR E x u:=by
    match hvl:vals.toList,hv with
    | [],hv=>simp only [VRP] at hv
    | u::us,hv=>
     rw [VRP.cons_iff] at hv;have:us=[]:=by
      have h2:vals.toList.length=1:=by simpa using hl.symm
      rw [hvl] at h2;simpa using h2
     subst this;exact ⟨u,by apply Array.toList_inj.1;simpa using hvl,hv.1⟩
   obtain ⟨u,rfl,hxu⟩:=hva;have ht0:c.argTypes[0]?=some t:=by
    rw [<-Array.getElem?_toList,hts];rfl
   exact Zat (hex _ rfl ((Zl7 type ht0 hz hxu hr pr).toV hr pr)) hn
  ·rename_i x y t u' hts;simp only [Zaa] at h;obtain ⟨ue,hue,h⟩:=h;split at h
   ·cases h
   ·rename_i hni;have hva:∃ p q,vals=#[p,q]/\VR E x p/\VR E y q:=by
     match hvl:vals.toList,hv with
     | [],hv=>simp only [VRP] at hv
     | [_],hv=>simp only [VRP] at hv;exact absurd hv.2 (by simp)
     | p::q::us,hv=>
      rw [VRP.cons_iff,VRP.cons_iff] at hv;have:us=[]:=by
       have h2:vals.toList.length=2:=by simpa using hl.symm
       rw [hvl] at h2;simpa using h2
      subst this;exact ⟨p,q,by apply Array.toList_inj.1;simpa using hvl,hv.1,hv.2.1⟩
    obtain ⟨p,q,rfl,hxp,hyq⟩:=hva;have hat:c.argTypes=#[t,u']:=by apply Array.toList_inj.1;simpa using hts
    rw [hat] at hex;exact Zat (hex _ rfl (ZkJ type hue (fun k hk=>hni k hk) h hxp hyq hr pr fresh)) hn
  ·rename_i l ts;simp only [Zaa,injEq,Prod.mk.injEq] at h;obtain ⟨z,hz,rfl,rfl⟩:=h;unfold Z06 at hz;split at hz
   ·rename_i k n r
    match hvl:vals.toList,hv with
    | [],hv=>simp only [VRP] at hv
    | u::us,hv=>
     rw [VRP.cons_iff] at hv;simp only [VR] at hv;obtain ⟨rfl,hv⟩:=hv;have hl2:r.length=us.length:=by
      have h2:vals.toList.length=r.length+1:=by simpa using hl.symm
      rw [hvl] at h2;simpa using h2.symm
     obtain ⟨y,hy,hzy⟩:=Zop (P:=P) (w:=w) hz hv hl2;exact Zat (hex (Builtin.max_ c.argTypes type vals) rfl (ZaX.same hr pr (by simp only [Builtin.max_,hvl];exact hy) hzy)) hn
   ·cases hz
  ·rename_i l ts;simp only [Zaa,injEq,Prod.mk.injEq] at h;obtain ⟨z,hz,rfl,rfl⟩:=h;unfold Z07 at hz;split at hz
   ·rename_i k n r
    match hvl:vals.toList,hv with
    | [],hv=>simp only [VRP] at hv
    | u::us,hv=>
     rw [VRP.cons_iff] at hv;simp only [VR] at hv;obtain ⟨rfl,hv⟩:=hv;have hl2:r.length=us.length:=by
      have h2:vals.toList.length=r.length+1:=by simpa using hl.symm
      rw [hvl] at h2;simpa using h2.symm
     obtain ⟨y,hy,hzy⟩:=Zoq (P:=P) (w:=w) hz hv hl2;exact Zat (hex (Builtin.min_ c.argTypes type vals) rfl (ZaX.same hr pr (by simp only [Builtin.min_,hvl];exact hy) hzy)) hn
   ·cases hz
  ·cases h
 ·rename_i f hcal;simp only [Zaa] at h;obtain ⟨args,hevs,fv,hfv,h⟩:=h;obtain ⟨hv,hl⟩:=hargs args hevs;have hfr:=ho f (by simp [Op.operands,Call.operands,hcal]) fv hfv;split at h
  ·rename_i g first cap
   simp only [VR] at hfr;obtain ⟨a',c',he,⟨f1,f2⟩,f3,f4⟩:=hfr;have hav:VRP E (first++args++cap) (a'++c.args.map a.eval++c').toList:=by
    rw [Array.toList_append,Array.toList_append];exact VRP.append (VRP.append f1 (by simpa using f2) hv) (by simp at hl |-;omega) f3
   have hal:(first++args++cap).length=(a'++c.args.map a.eval++c').size:=by simp at hl |-;omega
   simp only [Zaa] at h;obtain ⟨⟨args',S1⟩,hz,h⟩:=h;dsimp only at h;obtain ⟨E1,hav1,hal1,hn1,t1⟩:=ZFC hz hav hr pr;have hcall0:=ZqM hx hrec h hav1 (hal1.trans hal) t1.hr t1.pr (fun n ha hb hd=>by
    rcases t1.dom n hd with d | ⟨d1,d2⟩
    ·exact fresh n (by omega) hb d
    ·omega)
   have hcall:Zon P E S w g (a'++c.args.map a.eval++c') v S':=by
    refine Calls.mono hcall0 ?_;rintro e w' ⟨v',E',he',hv',ht⟩;rw [hn1] at ht;exact ⟨v',E',he',hv',t1.trans ht⟩
   have hfn:∃ fn,P.funcs[g]?=some fn/\fn.body.isSome=true:=by
    have:∀ args S r,Zd8 P rec g args S=some r->∃ fn,P.funcs[g]?=some fn/\fn.body.isSome=true:=by
     intro args S r h;simp only [Zd8,Zaa] at h;obtain ⟨fn,hf,c,hb,_⟩:=h;exact ⟨fn,hf,by rw [hb];rfl⟩
    unfold Zch at h;cases hp:pol g<;>rw [hp] at h
    ·exact this _ _ _ h
    ·have h':ZfN P rec g args' S1=some (v,S'):=h;simp only [ZfN,Zaa] at h';obtain ⟨as,_,q,hq,_⟩:=h';unfold ZeH at hq;split at hq
     ·rename_i hxq;exact (hx _ _ _ hxq).1
     ·simp only [Zaa] at hq;obtain ⟨r,hr',_⟩:=hq;exact this _ _ _ hr'
   obtain ⟨fn,hf,hbody⟩:=hfn;have hrun:(execOp a.eval ⟨dst,.call c,type,pos,after,guard⟩).run P w=.ok (.enter g (a'++c.args.map a.eval++c')) w:=by
    have hb:fn.body.isNone=false:=by cases hb:fn.body<;>simp_all
    simp only [execOp,resolve,hcal,he,Deferred.ofValue,pure_bind,invoke,callFunc,Sem.run_bind,run_program,Result.andThen_ok,hf,hP g fn hf hbody,hb,Bool.false_eq_true,if_false,Sem.run_pure]
   unfold Oper.wp;rw [hrun];refine Calls.mono hcall ?_;rintro e w' ⟨v',E',rfl,hv',ht⟩;exact hn v' w' E' hv' ht
  ·cases h
 ·cases h
theorem Z0B {pol:FuncId->Bool} {rec:ZbL} (hx:Zoo P) (hP:Znl P) (hrec:Zj9 P rec) {o:Oper} {a:Act} {v:AV} (h:(aOp pol P o.op).f rec T S=some (v,S'))
 (ho:∀ x∈o.op.operands.toList,∀ u,ev T x=some u->VR E u (a.eval x)) (hr:HR E S.heap.get w) (pr:PR E w) (fresh:∀ n,S.next<=n->n < S'.next->¬ E.dom n)
 {next:Act->World->Prop} {Q:Exit->Act->World->Prop}
 (hn:∀ v' w' E',VR E' v v'->ZaZ E S.heap.get w S.next E' S'.heap.get w' S'.next->next (a.put o.dst v') w'):o.wp P a w next Q:=by
 obtain ⟨dst,op,type,pos,after,guard⟩:=o;simp only at h ho hn |-
 cases op
 case move x=>exact ZqN h ho hr pr hn
 case assign x=>exact Znm h ho hr pr hn
 case pick c x y=>exact ZqO h ho hr pr hn
 case alloc t=>exact Zor h ho hr pr fresh hn
 case box t x=>exact ZtZ h ho hr pr fresh hn
 case build t ps=>exact Zos h ho hr pr hn
 case buildSlice t n ps=>exact Zhx h ho hr pr fresh hn
 case load t p=>exact ZqP h ho hr pr hn
 case store t p x=>exact Zot h ho hr pr hn
 case nilCheck x=>exact ZjB h ho hr pr hn
 case binOp op t x y yt=>exact Zou h ho hr pr hn
 case unOp op t x=>exact ZqQ h ho hr pr hn
 case convert s d x=>exact ZkM h ho hr pr hn
 case makeInterface t x=>exact Zfq h ho hr pr hn
 case makeFunc fn f c=>exact ZjC h ho hr pr hn
 case makeMap t r=>exact ZkN h ho hr pr fresh hn
 case makeSlice t l c=>exact Zis h ho hr pr fresh hn
 case slice t x lo hi mx=>exact Zov h ho hr pr hn
 case fieldAddr s x f=>exact Zit h ho hr pr hn
 case field s x f=>exact Zow h ho hr pr hn
 case indexAddr t x i=>exact Ziu h ho hr pr hn
 case index t x i=>exact Zox h ho hr pr hn
 case lookup t x i ok=>exact Znn h ho hr pr hn
 case mapUpdate t m k x=>exact Ziv h ho hr pr hn
 case mapEntry t m k=>exact ZjD h ho hr pr hn
 case entryStore t m s x=>exact Zhy h ho hr pr hn
 case extract t i=>exact ZkO h ho hr pr hn
 case call c=>exact ZqR hx hP hrec h ho hr pr fresh hn
 all_goals (simp only [aOp,reduceCtorEq] at h)
theorem Zdo {o:Oper} {a:Act} {v:AV} {s:Sem Value} {next:Act->World->Prop} {Q:Exit->Act->World->Prop} (he:execOp a.eval o=(do pure (.value (<-s)))) (h:Zcj P s E w v)
 (hn:∀ v',VR E v v'->next (a.put o.dst v') w):o.wp P a w next Q:=by
 obtain ⟨v',hrun,hv⟩:=h;unfold Oper.wp;rw [he];simp only [Sem.run_bind,hrun,Result.andThen_ok,Sem.run_pure];exact hn v' hv
theorem Zua {pol:FuncId->Bool} {rec:ZbL} {o:Oper} (hc:cls pol o.op=.read) {a:Act} {v:AV} (h:(aOp pol P o.op).f rec T S=some (v,S'))
 (ho:∀ x∈o.op.operands.toList,∀ u,ev T x=some u->VR E u (a.eval x)) (hr:HR E S.heap.get w) (pr:PR E w)
 {next:Act->World->Prop} {Q:Exit->Act->World->Prop} (hn:∀ v',VR E v v'->next (a.put o.dst v') w):o.wp P a w next Q:=by
 obtain ⟨dst,op,type,pos,after,guard⟩:=o;simp only at h ho hn hc |-
 cases op<;>simp only [cls,reduceCtorEq] at hc
 case load t p=>
  simp only [aOp] at h;split at h
  ·rename_i e he;simp only [Zaa,injEq,Prod.mk.injEq] at h;obtain ⟨q,hq,u,hu,rfl,rfl⟩:=h;exact Zdo rfl (Zjx he hu (ho p (by simp [Op.operands]) q hq) hr pr) hn
  ·cases h
 case convert s d x=>
  simp only [aOp,Zaa,injEq,Prod.mk.injEq] at h;obtain ⟨u,hu,z,hz,rfl,rfl⟩:=h;exact Zdo rfl (Zj6 hz (ho x (by simp [Op.operands]) u hu) hr pr) hn
 case lookup t x i ok=>
  simp only [aOp,Zaa,injEq,Prod.mk.injEq] at h;obtain ⟨u,hu,u',hu',z,hz,rfl,rfl⟩:=h;exact Zdo rfl (Zgz hz (ho x (by simp [Op.operands]) u hu) (ho i (by simp [Op.operands]) u' hu') hr pr) hn
 case call c=>
  split at hc
  ·rename_i hcal;simp only [aOp,hcal] at h;simp only [Zaa] at h;obtain ⟨args,hevs,h⟩:=h;have:=Zg2 (ρ:=a.eval) hevs (fun x hx=>ho x (by simp only [Op.operands,Call.operands];simp;exact .inr (by simpa using hx)));obtain ⟨hv,hl⟩:=this;unfold Zbn at h;split at h
   ·rename_i x t ts _ hts;simp only [Zaa,injEq,Prod.mk.injEq] at h;obtain ⟨z,hz,rfl,rfl⟩:=h;have hva:∃ u,c.args.map a.eval=#[u]/\VR E x u:=by
     match hvl:c.args.toList.map a.eval,hv with
     | [],hv=>simp only [VRP] at hv
     | u::us,hv=>
      rw [VRP.cons_iff] at hv;have:us=[]:=by
       have h2:(c.args.toList.map a.eval).length=1:=by simpa using hl.symm
       rw [hvl] at h2;simpa using h2
      subst this;exact ⟨u,by apply Array.toList_inj.1;simpa using hvl,hv.1⟩
    obtain ⟨u,hvals,hxu⟩:=hva;have ht0:c.argTypes[0]?=some t:=by
     rw [<-Array.getElem?_toList,hts];rfl
    refine Zdo (s:=Builtin.len_ c.argTypes type (c.args.map a.eval)) ?_ (by rw [hvals];exact Zl7 type ht0 hz hxu hr pr) hn;simp only [execOp,resolve,hcal,pure_bind,invoke];rfl
   all_goals first | (cases h;done) | contradiction
  ·cases hc
  ·cases hc
  ·cases hc
  ·rename_i f _;cases hp:ZvS pol f<;>simp [hp] at hc
  ·cases hc
end
end Go.Eng
