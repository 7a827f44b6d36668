import Derived.Test.YtipafbfdjfbkbaaGreatDoorE2Rel
import Derived.Test.YtipafbfdjfbkbaaGreatDoorEngEq
set_option linter.unusedVariables false
set_option linter.unusedSectionVars false
open ByteArray (empty)
open List (append_assoc length_append)
namespace Go.Eng
def Zq8 (x:Option Ty) (w:Ty):Bool:=match x with
 | some v=>(Ty.eq? v w).isSome
 | none=>false
theorem Zbr {x:Option Ty} {w:Ty} (h:Zq8 x w=true):x=some w:=by
 cases x with
 | none=>cases h
 | some v=>
  simp only [Zq8] at h;cases he:Ty.eq? v w with
  | none=>rw [he] at h;cases h
  | some p=>rw [p.down]
def Z0b (x:Option Ty) (w:Ty):Bool:=Zq8 x w||(match w with | .tree k=>Zq8 x k.W | _=>false)
def Zrs (tt:TypeId->Option Ty):List Field->Ty->Nat->Bool
 | [],_,_=>false
 | [fd],u,off=>fd.offset.beq off&&Zq8 (tt fd.type) u&&!u.isProd
 | fd::g::fs,.prod a b,off=>fd.offset.beq off&&Zq8 (tt fd.type) a&&Zrs tt (g::fs) b (off+a.size)
 | _::_::_,_,_=>false
def Zi5 (x:Option Ty):Nat->Ty->Bool
 | 0,_=>false
 | 1,u=>Zq8 x u&&!u.isProd
 | n+2,.prod a b=>Zq8 x a&&Zi5 x (n+1) b
 | _+2,_=>false
def ZcJ (tt:TypeId->Option Ty) (str:Bool) (u:Ty) (d:TypeDesc):Bool:=match u,d with
 | .int k,.int j=>decide (k=j)
 | .bool,.bool=>true
 | .str,.string=>true
 | .list w,.slice el=>Z0b (tt el) w
 | .st w,.struct fs=>str&&Zrs tt fs.toList w 0
 | .st w,.array n el=>!str&&Zi5 (tt el) n w
 | .ptr _,.pointer _=>true
 | .optr _,.pointer _=>true
 | .opq _,d=>match d with
  | .slice _=>false
  | .string=>false
  | .struct _=>false
  | .array _ _=>false
  | .int _=>false
  | .bool=>false
  | _=>true
 | _,_=>false
def TK.zcv:TK->List AV
 | .sea=>[.int .i64 0,.int .i64 0,.nils]
 | .exp=>[.int .i64 0,.int .i64 0,.str empty,.int .i64 0,.nils]
 | .stm=>[.int .i64 0,.str empty,.str empty,.int .i64 0,.int .i64 0,.int .i64 0,.str empty,.int .i64 0,.nils,.int .i64 0,.int .i64 0,.str empty,.int .i64 0,.nils,.nils,.nils,.nils]
 | .pat=>[.int .i64 0,.int .i64 0,.int .i64 0,.int .i64 0,.nils]
 | .res=>[.int .i64 0,.nils,.nils,.int .i64 0,.int .i64 0,.int .i64 0,.int .i64 0,.nils]
def Ty.zcv:Ty->List AV
 | .int k=>[.int k 0]
 | .bool=>[.bool false]
 | .str=>[.str empty]
 | .tree k=>k.zcv
 | .list _=>[.nils]
 | .prod a b=>a.zcv++b.zcv
 | .st t=>t.zcv
 | .ptr _=>[.nilp]
 | .optr _=>[.nilp]
 | .opq 0=>[.nilf]
 | .opq 1=>[.nilm]
 | .opq _=>[.nilp]
structure Z0I (tt:TypeId->Option Ty) (str:Bool) (u:Ty) (e:TE):Prop where
 size:e.size=u.size
 agg:Zez e.und=u.agg
 bytes:e.bytes<=1000
 zero:e.zero.cells=u.zcv
 und:ZcJ tt str u e.und=true
structure TyR [Mx] (P:Program) (E:Zcn):Prop where
 ok:∀ t u,E.ty t=some u->∃ e,te P t=some e/\Z0I E.ty (E.str t) u e
 sf:∀ t a x,E.sf t a x=Mx.st t a x
 mt:∀ t k v,E.mt t=some (k,v)->∃ e ke et,te P t=some e/\Zjr e.und=some ke/\E.ty ke.1=some k/\te P ke.2=some et/\∀ z,zSc v=some z->et.zero=v.enc z
 ar:∀ t p,E.ar t=some p->Mx.ar t=true/\∃ e el,te P t=some e/\e.und=.array p.2 el/\E.ty el=some p.1/\∀ z,p.1.zden=some z->e.zero.cells=List.flatMap p.1.cells (List.replicate p.2 z)
 ar0:∀ t,E.ar t=none->Mx.ar t=false
 bt:∀ t,E.bt t=Mx.bt t
 fz:∀ g,Mx.fz g=(E.fz g).map fun m i=>(m i).isSome
 fzp:∀ g,E.pol g=true->E.fz g=none
theorem Ty.zcv_len:∀ t:Ty,t.zcv.length=t.size
 | .prod a b=>by simp only [Ty.zcv,length_append,Ty.size,Ty.zcv_len a,Ty.zcv_len b]
 | .st t=>Ty.zcv_len t
 | .int _=>rfl
 | .bool=>rfl
 | .str=>rfl
 | .tree k=>by cases k<;>rfl
 | .list _=>rfl
 | .ptr _=>rfl
 | .optr _=>rfl
 | .opq 0=>rfl
 | .opq 1=>rfl
 | .opq (_+2)=>rfl
theorem TK.zcv_eq:∀ k:TK,k.zcv=k.W.zcv
 | .sea=>rfl
 | .exp=>rfl
 | .stm=>rfl
 | .pat=>rfl
 | .res=>rfl
theorem TK.zc_eq:∀ k:TK,k.zc=k.W.zc
 | .sea=>rfl
 | .exp=>rfl
 | .stm=>rfl
 | .pat=>rfl
 | .res=>rfl
theorem Ty.zc_zcv {m:Nat} {a:Nat->AV}:∀ t:Ty,Zbl m a t.zc t.zcv
 | .prod p q=>Zbl.append (Ty.zc_zcv p) (Ty.zc_zcv q)
 | .st t=>Ty.zc_zcv t
 | .int _=>.cons (.dat (.mkint _ _)) .nil
 | .bool=>.cons (.dat (.mkbool _)) .nil
 | .str=>.cons (.dat (.mkstr _)) .nil
 | .tree k=>by
  show Zbl m a k.zc k.zcv;rw [TK.zc_eq,TK.zcv_eq];exact Ty.zc_zcv k.W
 | .list _=>.cons .nils .nil
 | .ptr _=>.cons .nilp .nil
 | .optr _=>.cons .nilp .nil
 | .opq 0=>.cons .nilf .nil
 | .opq 1=>.cons .nilm .nil
 | .opq (_+2)=>.cons .nilp .nil
termination_by t=>t.rk
decreasing_by all_goals first | exact TK.rk _ | (simp only [Ty.rk];omega)
theorem Ty.zden_zcv:∀ (t:Ty) (x:t.den),t.zden=some x->NRs (t.cells x) t.zcv
 | .prod p q,x,h=>by
  simp only [Ty.zden] at h;cases hp:p.zden with
  | none=>rw [hp] at h;cases h
  | some y=>
   cases hq:q.zden with
   | none=>rw [hp,hq] at h;cases h
   | some z=>
    rw [hp,hq] at h;cases h;exact NRs.append (Ty.zden_zcv p y hp) (Ty.zden_zcv q z hq)
 | .st t,x,h=>Ty.zden_zcv t x h
 | .int _,x,h=>by cases h;exact .refl _
 | .bool,x,h=>by cases h;exact .refl _
 | .str,x,h=>by cases h;exact .refl _
 | .tree k,x,h=>by
  cases k<;>first | cases h | skip
  rw [Ty.cells_tree];exact .cons (.refl _) (.cons (.inr ⟨rfl,rfl⟩) (.cons (.inr ⟨rfl,rfl⟩) (.cons (.refl _) (.cons (.refl _) (.cons (.refl _) (.cons (.refl _) (.cons (.inr ⟨rfl,rfl⟩) .nil)))))))
 | .list _,x,h=>by cases h;exact .cons (.inr ⟨rfl,rfl⟩) .nil
 | .ptr _,x,h=>by cases h
 | .optr _,x,h=>by cases h;exact .refl _
 | .opq _,x,h=>by cases h
theorem Zi6 {tt:TypeId->Option Ty}:∀ {fs:List Field} {u:Ty} {off:Nat},Zrs tt fs u off=true->∀ {f:Nat} {tf:Ty} {o:Nat},u.fld f=some (tf,o)->∃ fd,fs[f]?=some fd/\fd.offset=off+o/\tt fd.type=some tf
 | [],_,_,h,_,_,_,_=>by cases h
 | [fd],u,off,h,f,tf,o,hf=>by
  simp only [Zrs,Bool.and_eq_true,Bool.not_eq_true',Zad] at h;obtain ⟨⟨h1,h2⟩,h3⟩:=h;cases f with
  | zero=>
   have:u.fld 0=some (u,0):=by cases u<;>first | rfl | cases h3
   rw [this] at hf;cases hf;exact ⟨fd,rfl,by omega,Zbr h2⟩
  | succ f=>
   have:u.fld (f+1)=none:=by cases u<;>first | rfl | cases h3
   rw [this] at hf;cases hf
 | fd::g::fs,u,off,h,f,tf,o,hf=>by
  cases u with
  | prod a b=>
   simp only [Zrs,Bool.and_eq_true,Zad] at h;obtain ⟨⟨h1,h2⟩,h3⟩:=h;cases f with
   | zero=>cases hf;exact ⟨fd,rfl,by omega,Zbr h2⟩
   | succ f=>
    simp only [Ty.fld] at hf;cases hb:b.fld f with
    | none=>rw [hb] at hf;cases hf
    | some p=>
     obtain ⟨t',o'⟩:=p;rw [hb] at hf;cases hf;obtain ⟨fd',h4,h5,h6⟩:=Zi6 h3 hb;exact ⟨fd',by simpa using h4,by omega,h6⟩
  | _=>cases h
theorem ZgD {x:Option Ty}:∀ {n:Nat} {u:Ty},Zi5 x n u=true->∃ t,x=some t/\∀ {f:Nat} {tf:Ty} {o:Nat},u.fld f=some (tf,o)->tf=t/\o=f * t.size/\f < n
 | 0,_,h=>by cases h
 | 1,u,h=>by
  simp only [Zi5,Bool.and_eq_true,Bool.not_eq_true'] at h;refine ⟨u,Zbr h.1,fun {f tf o} hf=>?_⟩;cases f with
  | zero=>
   have:u.fld 0=some (u,0):=by cases u<;>first | rfl | cases h.2
   rw [this] at hf;cases hf;exact ⟨rfl,by omega,by omega⟩
  | succ f=>
   have:u.fld (f+1)=none:=by cases u<;>first | rfl | cases h.2
   rw [this] at hf;cases hf
 | n+2,u,h=>by
  cases u with
  | prod a b=>
   simp only [Zi5,Bool.and_eq_true] at h;obtain ⟨t,h1,h2⟩:=ZgD h.2;have h3:=Zbr h.1;rw [h1] at h3;cases h3;refine ⟨_,h1,fun {f tf o} hf=>?_⟩;cases f with
   | zero=>cases hf;exact ⟨rfl,by omega,by omega⟩
   | succ f=>
    simp only [Ty.fld] at hf;cases hb:b.fld f with
    | none=>rw [hb] at hf;cases hf
    | some p=>
     obtain ⟨t',o'⟩:=p;rw [hb] at hf;cases hf;obtain ⟨h4,h5,h6⟩:=h2 hb;exact ⟨h4,by rw [Nat.succ_mul];omega,by omega⟩
  | _=>cases h
theorem Ty.proj_cells:∀ {u:Ty} {f:Nat} {x:u.den} {d:D},u.proj f x=some d->∃ o,u.fld f=some (d.1,o)/\∃ l r,u.cells x=l++(d.1.cells d.2++r)/\l.length=o
 | .prod a b,0,x,d,h=>by cases h;exact ⟨0,rfl,[],b.cells x.2,rfl,rfl⟩
 | .prod a b,f+1,x,d,h=>by
  obtain ⟨o,h1,l,r,h2,h3⟩:=Ty.proj_cells (u:=b) (f:=f) (x:=x.2) (d:=d) h;refine ⟨a.size+o,by simp only [Ty.fld,h1],a.cells x.1++l,r,?_,?_⟩
  ·simp only [Ty.cells,h2,append_assoc]
  ·rw [length_append,Ty.cells_len,h3]
 | .int _,0,x,d,h=>by cases h;exact ⟨0,rfl,[],[],by simp,rfl⟩
 | .bool,0,x,d,h=>by cases h;exact ⟨0,rfl,[],[],by simp,rfl⟩
 | .str,0,x,d,h=>by cases h;exact ⟨0,rfl,[],[],by simp,rfl⟩
 | .tree _,0,x,d,h=>by cases h;exact ⟨0,rfl,[],[],by simp,rfl⟩
 | .list _,0,x,d,h=>by cases h;exact ⟨0,rfl,[],[],by simp,rfl⟩
 | .st _,0,x,d,h=>by cases h;exact ⟨0,rfl,[],[],by simp,rfl⟩
 | .ptr _,0,x,d,h=>by cases h;exact ⟨0,rfl,[],[],by simp,rfl⟩
 | .optr _,0,x,d,h=>by cases h;exact ⟨0,rfl,[],[],by simp,rfl⟩
 | .opq _,0,x,d,h=>nomatch x
 | .int _,_+1,_,_,h=>by cases h
 | .bool,_+1,_,_,h=>by cases h
 | .str,_+1,_,_,h=>by cases h
 | .tree _,_+1,_,_,h=>by cases h
 | .list _,_+1,_,_,h=>by cases h
 | .st _,_+1,_,_,h=>by cases h
 | .ptr _,_+1,_,_,h=>by cases h
 | .optr _,_+1,_,_,h=>by cases h
 | .opq _,_+1,x,_,h=>nomatch x
theorem ZgE:∀ {a b:Ty} {x:a.den} {y:b.den},Zrf a b x=some y->a.cells x=b.cells y:=by
 intro a b x y h;cases a with
 | tree k=>
  obtain ⟨e,h⟩:=Zal (show Za7 k.W b (k.unf x)=some y from h);rw [Ty.cells_tree];generalize k.unf x=z at h;generalize k.W=w at z e h;subst e;subst h;rfl
 | _=>
  obtain ⟨e,h⟩:=Zal h;subst e;subst h;rfl
theorem ZgF:∀ {a b:Ty} {x:a.den} {y:b.den},Zrg a b x=some y->b.cells y=a.cells x:=by
 intro a b x y h;cases b with
 | tree k=>
  obtain ⟨z,hz,h⟩:=Zaa.1 (show (Za7 a k.W x).ob (fun y=>some (k.fold y))=some y by cases a<;>exact h);cases h;obtain ⟨e,h⟩:=Zal hz;show k.cells (k.fold z)=_;rw [TK.fold_cells];have key:∀ {u w:Ty} {x:u.den} {z:w.den} (e:u=w),e▸x=z->w.cells z=u.cells x:=by
   intro u w x z e h;subst e;subst h;rfl
  exact key e h
 | _=>
  obtain ⟨e,h⟩:=Zal (show Za7 a _ x=some y by cases a<;>exact h);subst e;subst h;rfl
theorem Zny {a b:Ty} {x:a.den} {y:b.den} (h:Zrg a b x=some y):b.size=a.size:=by
 have:=congrArg List.length (ZgF h)
 rwa [Ty.cells_len,Ty.cells_len] at this
theorem ZeN {a b:Ty} {x:a.den} {β:Type} {f:β} {g:b.den->β}:(Za7 a b x).rec (motive:=fun _=>β) f g=match Za7 a b x with | none=>f | some y=>g y:=by cases Za7 a b x<;>rfl
theorem Ty.at_cells (t:Ty):∀ {u:Ty} {o:Nat} {x:u.den} {z:t.den},Ty.at t u o x=some z->∃ l r,u.cells x=l++(t.cells z++r)/\l.length=o:=by
 intro u;have leaf:∀ {u:Ty} {o:Nat} {x:u.den} {z:t.den},bc (o.beq 0) (Zrf u t x) none=some z->∃ l r,u.cells x=l++(t.cells z++r)/\l.length=o:=by
  intro u o x z h;cases ho:o.beq 0<;>rw [ho] at h
  ·cases h
  ·have:=Zad.1 ho;subst this;rw [Zag] at h;exact ⟨[],[],by rw [ZgE h];simp,rfl⟩
 have leaf2:∀ {u:Ty} {o:Nat} {x:u.den} {y z:t.den},Za7 u t x=some y->bc (o.beq 0) (some y) none=some z->∃ l r,u.cells x=l++(t.cells z++r)/\l.length=o:=by
  intro u o x y z hc h;cases ho:o.beq 0<;>rw [ho] at h
  ·cases h
  ·have:=Zad.1 ho;subst this;rw [Zag] at h;obtain rfl:=Option.some.inj h;obtain ⟨e,h⟩:=Zal hc;subst e;subst h;exact ⟨[],[],by simp,rfl⟩
 induction u with
 | prod a b iha ihb=>
  intro o x z h;rw [Ty.at,ZeN] at h;cases hc:Za7 (.prod a b) t x with
  | some y=>rw [hc] at h;exact leaf2 hc h
  | none=>
   rw [hc] at h;dsimp only at h;cases hb:Nat.blt o a.size<;>rw [hb] at h
   ·rw [Zan] at h;obtain ⟨l,r,h1,h2⟩:=ihb h;have:¬ o < a.size:=fun e=>by rw [Za6.2 e] at hb;cases hb
    refine ⟨a.cells x.1++l,r,by simp only [Ty.cells,h1,append_assoc],?_⟩;rw [length_append,Ty.cells_len,h2];omega
   ·rw [Zag] at h;obtain ⟨l,r,h1,h2⟩:=iha h;exact ⟨l,r++b.cells x.2,by simp only [Ty.cells,h1,append_assoc],h2⟩
 | st u ih=>
  intro o x z h;rw [Ty.at,ZeN] at h;cases hc:Za7 (.st u) t x with
  | some y=>rw [hc] at h;exact leaf2 hc h
  | none=>rw [hc] at h;exact ih h
 | _=>intro o x z h;exact leaf h
theorem Ty.upd_cells (t:Ty) (y:t.den):∀ {u:Ty} {o:Nat} {x x':u.den},Ty.upd t y u o x=some x'->∃ l c r,u.cells x=l++(c++r)/\l.length=o/\c.length=t.size/\u.cells x'=l++(t.cells y++r):=by
 intro u;have leaf:∀ {u:Ty} {o:Nat} {x x':u.den},bc (o.beq 0) (Zrg t u y) none=some x'->∃ l c r,u.cells x=l++(c++r)/\l.length=o/\c.length=t.size/\u.cells x'=l++(t.cells y++r):=by
  intro u o x x' h;cases ho:o.beq 0<;>rw [ho] at h
  ·cases h
  ·have:=Zad.1 ho;subst this;rw [Zag] at h;exact ⟨[],u.cells x,[],by simp,rfl,by rw [Ty.cells_len,Zny h],by rw [ZgF h];simp⟩
 have leaf2:∀ {u:Ty} {o:Nat} {x z x':u.den},Za7 t u y=some z->bc (o.beq 0) (some z) none=some x'->∃ l c r,u.cells x=l++(c++r)/\l.length=o/\c.length=t.size/\u.cells x'=l++(t.cells y++r):=by
  intro u o x z x' hc h;cases ho:o.beq 0<;>rw [ho] at h
  ·cases h
  ·have:=Zad.1 ho;subst this;rw [Zag] at h;obtain rfl:=Option.some.inj h;obtain ⟨e,h⟩:=Zal hc;subst e;subst h;exact ⟨[],t.cells x,[],by simp,rfl,Ty.cells_len t x,by simp⟩
 induction u with
 | prod a b iha ihb=>
  intro o x x' h;rw [Ty.upd,ZeN] at h;cases hc:Za7 t (.prod a b) y with
  | some z=>rw [hc] at h;exact leaf2 hc h
  | none=>
   rw [hc] at h;dsimp only at h;cases hb:Nat.blt o a.size<;>rw [hb] at h
   ·rw [Zan,Zaa] at h;obtain ⟨z,hz,h⟩:=h;cases h;obtain ⟨l,c,r,h1,h2,h3,h4⟩:=ihb hz;have:¬ o < a.size:=fun e=>by rw [Za6.2 e] at hb;cases hb
    refine ⟨a.cells x.1++l,c,r,by simp only [Ty.cells,h1,append_assoc],?_,h3,by simp only [Ty.cells,h4,append_assoc]⟩;rw [length_append,Ty.cells_len,h2];omega
   ·rw [Zag,Zaa] at h;obtain ⟨z,hz,h⟩:=h;cases h;obtain ⟨l,c,r,h1,h2,h3,h4⟩:=iha hz;exact ⟨l,c,r++b.cells x.2,by simp only [Ty.cells,h1,append_assoc],h2,h3,by simp only [Ty.cells,h4,append_assoc]⟩
 | st u ih=>
  intro o x x' h;rw [Ty.upd,ZeN] at h;cases hc:Za7 t (.st u) y with
  | some z=>rw [hc] at h;exact leaf2 hc h
  | none=>rw [hc] at h;exact ih h
 | _=>intro o x x' h;exact leaf h
theorem ZcA {m:Nat} {a:Nat->AV}:∀ (t:Ty) {l:List V2} {x:t.den} {cs:List AV},asm t l=some x->Zbl m a l cs->NRs (t.cells x) cs
 | .prod p q,l,x,cs,h,hv=>by
  simp only [asm,Zaa,Option.some.injEq] at h;obtain ⟨y,hy,z,hz,rfl⟩:=h;have h1:=ZcA p hy (hv.take p.size);have h2:=ZcA q hz (hv.drop p.size);have:=NRs.append h1 h2
  rwa [List.take_append_drop] at this
 | .st t,l,x,cs,h,hv=>ZcA t h hv
 | .list t,l,x,cs,h,hv=>by
  simp only [asm] at h;split at h
  ·cases h;cases hv with | cons h1 h2=>cases h1;cases h2;exact .cons (.inr ⟨rfl,rfl⟩) .nil
  ·cases hv with | cons h1 h2=>cases h2;cases h1 with
   | dat hd=>
    obtain ⟨e,h⟩:=Zal h;subst e;subst h;exact hd
  ·cases h
 | .int _,l,x,cs,h,hv=>by
  simp only [asm] at h;split at h
  ·cases hv with | cons h1 h2=>cases h2;cases h1 with
   | dat hd=>
    obtain ⟨e,h⟩:=Zal h;subst e;subst h;exact hd
  ·cases h
 | .bool,l,x,cs,h,hv=>by
  simp only [asm] at h;split at h
  ·cases hv with | cons h1 h2=>cases h2;cases h1 with
   | dat hd=>
    obtain ⟨e,h⟩:=Zal h;subst e;subst h;exact hd
  ·cases h
 | .tree k,l,x,cs,h,hv=>by
  rw [ZHH] at h;simp only [Zaa,Option.some.injEq] at h;obtain ⟨y,hy,rfl⟩:=h;show NRs (k.cells (k.fold y)) cs;rw [TK.fold_cells];exact ZcA k.W hy hv
 | .str,l,x,cs,h,hv=>by
  simp only [asm] at h;split at h
  ·cases hv with | cons h1 h2=>cases h2;cases h1 with
   | dat hd=>
    obtain ⟨e,h⟩:=Zal h;subst e;subst h;exact hd
  ·cases h
 | .ptr _,l,x,cs,h,hv=>by
  simp only [asm] at h;split at h
  ·cases hv with | cons h1 h2=>cases h2;cases h1 with
   | dat hd=>
    obtain ⟨e,h⟩:=Zal h;subst e;subst h;exact hd
  ·cases h
 | .optr _,l,x,cs,h,hv=>by
  simp only [asm] at h;split at h
  ·cases h;cases hv with | cons h1 h2=>cases h2;cases h1;exact .refl _
  ·cases hv with | cons h1 h2=>cases h2;cases h1 with
   | dat hd=>
    obtain ⟨e,h⟩:=Zal h;subst e;subst h;exact hd
  ·cases h
 | .opq _,l,x,cs,h,hv=>nomatch x
termination_by t=>t.rk
decreasing_by all_goals first | exact TK.rk _ | (simp only [Ty.rk];omega)
end Go.Eng
