import Derived.Test.YtipafbfdjfbkbaaGreatDoorE2Icall
import Derived.Test.YtipafbfdjfbkbaaGreatDoorE2Map
import Derived.Test.YtipafbfdjfbkbaaGreatDoorEngLoc
set_option linter.unusedVariables false
set_option linter.unusedSectionVars false
open Option.some (injEq inj)
namespace Go.Eng
section
variable [Gl] [Mx] {P:Program} {K:ZcY} {E:Zcn} {F:Fr} {a:Nat->AV} {fp:Nat->Nat->Prop} {s s0:S2} {T:Tm} {S S':St} {α:Type} {k:K2 α} {r:α}
theorem ZS0 (H:TyR P E) (R:Rel F a fp s T S) {t:TypeId} {x:Operand} {c:Nat} {i:Int} {z off:Nat} {w:Ty} {l:List (List w.den)} {e0:Int×Nat} (h1:ev2 s x=some (.el c i z off)) (h3:s.H.get c=some (.mix w l e0)) (h:ZSz E s t w l e0 i z off k=some r) :
 Res F a fp s T S (opK P K (.load t x) T S) k r:=by
 simp only [ZSz,Zaa,Zak,Bool.and_eq_true,Zad] at h;obtain ⟨u,h2,⟨hz,ho⟩,h⟩:=h;obtain ⟨y,hy,hfin⟩:=Option.bind_eq_some_iff.1 h;clear h;simp only [Zaa] at hfin;obtain ⟨y',hy',hfin⟩:=hfin;obtain ⟨e9,_⟩:=Zal hy';subst e9;subst hz;subst ho;rw [Zbm (x:=r)] at hfin;obtain ⟨hie,hfin⟩:=hfin;have hie:=of_decide_eq_true hie;obtain ⟨ei,d⟩:=e0;dsimp only at hie hfin;subst hie;obtain ⟨e,he,ok⟩:=H.ok _ _ h2;obtain ⟨c0,e1,r1⟩:=Zbd R h1;obtain ⟨g0,g1,g2⟩:=ZaI hy;obtain ⟨_,q,o,cap,cs,pre,post,hv,hq,hb,hpo,hcl,hd,hone,k1,k2⟩:=R.chunks _ _ h3;dsimp only at hd k1 k2;have hu0:c0=.mp q (o+i.toNat * 1+0):=by
  cases r1 with
  | el hc hb'=>rw [hv] at hb';cases hb';rfl
  | elf hc hb'=>rw [hv] at hb';cases hb'
 subst hu0;have hcs:i.toNat < cs.length:=by omega
 have hnth:nth (pre++(cs++post)) (o+i.toNat * 1+0)=some (a d):=by
  rw [Zlx,List.getElem?_append_right (by omega),show o+i.toNat * 1+0 - pre.length=i.toNat from by omega,List.getElem?_append_left hcs];exact k1
 have hload:opK P K (.load t x) T S=some (a d,S):=by
  have:Zd6 e S (.mp q (o+i.toNat * 1+0))=some (a d):=by
   simp only [Zd6,ZbR,hb,rdB,Zap,ZeF];rw [ok.agg];exact hnth
  simp only [opK,aOp,he,e1,Zap,this]
 exact Res.val R hload (.sl hd hone) hfin
theorem ZrA (H:TyR P E) (R:Rel F a fp s T S) {t:TypeId} {x:Operand} {c:Nat} {i:Int} {z off:Nat} {w:Ty} {l:List (List w.den)} {h':Option (Int×Nat)} (h1:ev2 s x=some (.el c i z off)) (h3:s.H.get c=some (.own2 w l h')) (h:Zrk E s t w l h' c i z off k=some r) :
 Res F a fp s T S (opK P K (.load t x) T S) k r:=by
 simp only [Zrk,Zaa,Zak,Bool.and_eq_true,Zad] at h;obtain ⟨u,h2,⟨⟨hz,ho⟩,hn⟩,h⟩:=h;obtain ⟨y,hy,hfin⟩:=Option.bind_eq_some_iff.1 h;clear h;simp only [Zaa] at hfin;obtain ⟨y',hy',hfin⟩:=hfin;obtain ⟨e9,_⟩:=Zal hy';subst e9;subst hz;subst ho;have hn:h'=none:=by simpa using hn
 subst hn;obtain ⟨e,he,ok⟩:=H.ok _ _ h2;obtain ⟨c0,e1,r1⟩:=Zbd R h1;obtain ⟨g0,g1,g2⟩:=ZaI hy;have hc:=R.nx _ _ h3;have hCk:=R.chunks _ _ h3;rcases hCk.2 with ⟨hl,_⟩ | ⟨q,o,cap,cs,pre,post,hv,hq,hb,hpo,hcl,_,fps,k1,k2,k3⟩
 ·subst hl;simp at g1
 ·obtain ⟨cv,m1,m2⟩:=k3 i.toNat y g2 (by simp);have hu0:c0=.mp q (o+i.toNat * 1+0):=by
   cases r1 with
   | el hc hb'=>rw [hv] at hb';cases hb';rfl
   | elf hc hb'=>rw [hv] at hb';cases hb'
  subst hu0;have hcs:i.toNat < cs.length:=by omega
  have hnth:nth (pre++(cs++post)) (o+i.toNat * 1+0)=some cv:=by
   rw [Zlx,List.getElem?_append_right (by omega),show o+i.toNat * 1+0 - pre.length=i.toNat from by omega,List.getElem?_append_left hcs];exact m1
  have hload:opK P K (.load t x) T S=some (cv,S):=by
   have:Zd6 e S (.mp q (o+i.toNat * 1+0))=some cv:=by
    simp only [Zd6,ZbR,hb,rdB,Zap,ZeF];rw [ok.agg];exact hnth
   simp only [opK,aOp,he,e1,Zap,this]
  rw [hload];have ha:∀ d,d < s.nx->(fun d=>if d=s.nx then cv else a d) d=a d:=fun d hd=>if_neg (by omega);have g:∀ d k,((s.H.put c (.own2 w l (some (i,s.nx)))).put s.nx (.own w y true)).get d=some k->(d=s.nx/\k=.own w y true)\/(d≠s.nx/\d=c/\k=.own2 w l (some (i,s.nx)))\/(d≠s.nx/\d≠c/\s.H.get d=some k):=by
   intro d k hk;rw [Tr.get_put] at hk;split at hk
   ·cases hk;exact .inl ⟨by assumption,rfl⟩
   ·rw [Tr.get_put] at hk;split at hk
    ·cases hk;exact .inr (.inl ⟨by assumption,by assumption,rfl⟩)
    ·exact .inr (.inr ⟨by assumption,by assumption,hk⟩)
  let fp3:Nat->Nat->Prop:=fun d n=>if d=s.nx then fps i.toNat n else if d=c then fp c n/\¬ fps i.toNat n else fp d n
  have f1:fp3 s.nx=fps i.toNat:=by funext n;exact if_pos rfl
  have f2:fp3 c=fun n=>fp c n/\¬ fps i.toNat n:=by funext n;show (if c=s.nx then _ else _)=_;rw [if_neg (by omega),if_pos rfl]
  have f3:∀ d,d≠s.nx->d≠c->fp3 d=fp d:=fun d h1 h2=>by funext n;show (if d=s.nx then _ else _)=_;rw [if_neg h1,if_neg h2]
  have low:∀ d k,((s.H.put c (.own2 w l (some (i,s.nx)))).put s.nx (.own w y true)).get d=some k->∃ d0 k0,s.H.get d0=some k0/\(k.w=true->k0.w=true)/\∀ n,fp3 d n->fp d0 n:=by
   intro d k hk;rcases g d k hk with ⟨rfl,rfl⟩ | ⟨_,rfl,rfl⟩ | ⟨n1,n2,hk⟩
   ·exact ⟨c,_,h3,fun _=>rfl,fun n hn=>by rw [f1] at hn;exact (k1 _ n hn).1⟩
   ·exact ⟨_,_,h3,fun _=>rfl,fun n hn=>by rw [f2] at hn;exact hn.1⟩
   ·exact ⟨d,k,hk,fun h=>h,fun n hn=>by rw [f3 d n1 n2] at hn;exact hn⟩
  refine ⟨.sl s.nx,cv,⟨s.T,(s.H.put c (.own2 w l (some (i,s.nx)))).put s.nx (.own w y true),s.nx+1⟩,fun d=>if d=s.nx then cv else a d,fp3,S,rfl,Nat.le_refl _,{ slots:=?_,chunks:=?_,dis:=?_,lt:=?_,nx:=?_,fex:=R.fex,fro:=R.fro,dex:=?_,dro:=?_ },rfl,?_,hfin,Nat.le_succ _,fun d hd=>⟨ha d hd,fun hnone=>f3 d (by omega) (fun e=>by rw [e,h3] at hnone;cases hnone)⟩⟩
  ·intro k v hk;obtain ⟨u,h1,h2⟩:=R.slots k v hk;exact ⟨u,h1,h2.mono (Nat.le_succ _) ha⟩
  ·intro d k hk;rcases g d k hk with ⟨rfl,rfl⟩ | ⟨n1,rfl,rfl⟩ | ⟨n1,n2,hk⟩
   ·rw [f1];show Znx S.heap (fps i.toNat) (if s.nx=s.nx then cv else _) w y true;rw [if_pos rfl];exact m2
   ·rw [f2];show ZgC (s.nx+1) (fun d=>if d=s.nx then cv else a d) S.heap _ (if _=s.nx then cv else a _) w l (some (i,s.nx));rw [if_neg n1];refine ⟨hCk.1,.inr ⟨q,o,cap,cs,pre,post,hv,⟨hq,fun hh=>(k1 _ q hh).2 rfl⟩,hb,hpo,hcl,(fun i' d' he=>by cases he;exact ⟨Nat.lt_succ_self _,by show cs[i.toNat]?=some (if s.nx=s.nx then cv else a s.nx);rw [if_pos rfl];exact m1⟩),fun j n=>j≠i.toNat/\fps j n,fun j n hj=>⟨⟨(k1 j n hj.2).1,fun hh=>k2 j i.toNat n hj.1 hj.2 hh⟩,(k1 j n hj.2).2⟩,fun j j' n hne hj hj'=>k2 j j' n hne hj.2 hj'.2,fun j x hx hj=>?_⟩⟩;obtain ⟨cj,p1,p2⟩:=k3 j x hx (by simp);have hji:j≠i.toNat:=fun e=>hj (by rw [e];show some i=_;congr 1;omega);exact ⟨cj,p1,p2.mono (fun n hn=>⟨hji,hn⟩) (fun _ _=>rfl)⟩
   ·rw [f3 d n1 n2];have hd:=R.nx d k hk;show Zcr F.pn (s.nx+1) _ S.heap (fp d) (if d=s.nx then cv else a d) k;rw [if_neg n1];exact (R.chunks d k hk).mono (Nat.le_succ _) ha (fun _ _=>rfl)
  ·intro d d' kd kd' hk hk' hne hw n hf hf';replace hk:=g d kd hk;replace hk':=g d' kd' hk';rcases hk with ⟨rfl,rfl⟩ | ⟨n1,rfl,rfl⟩ | ⟨n1,n2,hk⟩<;>rcases hk' with ⟨rfl,rfl⟩ | ⟨n1',rfl,rfl⟩ | ⟨n1',n2',hk'⟩
   ·exact hne rfl
   ·rw [f1] at hf;rw [f2] at hf';exact hf'.2 hf
   ·rw [f1] at hf;rw [f3 _ n1' n2'] at hf';exact R.dis c d' _ kd' h3 hk' (fun e=>n2' e.symm) (.inl rfl) n (k1 _ n hf).1 hf'
   ·rw [f2] at hf;rw [f1] at hf';exact hf.2 hf'
   ·exact hne rfl
   ·rw [f2] at hf;rw [f3 _ n1' n2'] at hf';exact R.dis _ d' _ kd' h3 hk' (fun e=>n2' e.symm) (.inl rfl) n hf.1 hf'
   ·rw [f1] at hf';rw [f3 _ n1 n2] at hf;exact R.dis d c kd _ hk h3 n2 (.inr rfl) n hf (k1 _ n hf').1
   ·rw [f2] at hf';rw [f3 _ n1 n2] at hf;exact R.dis d _ kd _ hk h3 n2 (.inr rfl) n hf hf'.1
   ·rw [f3 _ n1 n2] at hf;rw [f3 _ n1' n2'] at hf';exact R.dis d d' kd kd' hk hk' hne hw n hf hf'
  ·intro d k hk n hn;obtain ⟨d0,k0,p1,_,p3⟩:=low d k hk;exact R.lt d0 k0 p1 n (p3 n hn)
  ·intro d k hk;show d < s.nx+1;rcases g d k hk with ⟨rfl,_⟩ | ⟨_,rfl,_⟩ | ⟨_,_,hk⟩
   ·omega
   ·omega
   ·have:=R.nx d k hk;omega
  ·intro d k hk n hn;obtain ⟨d0,k0,p1,_,p3⟩:=low d k hk;exact R.dex d0 k0 p1 n (p3 n hn)
  ·intro d k hk hw n hn;obtain ⟨d0,k0,p1,p2,p3⟩:=low d k hk;exact R.dro d0 k0 p1 (p2 hw) n (p3 n hn)
  ·have:VR2 (s.nx+1) (fun d=>if d=s.nx then cv else a d) (.sl s.nx) ((fun d=>if d=s.nx then cv else a d) s.nx):=.sl (Nat.lt_succ_self _) (by show (if s.nx=s.nx then cv else _).one=true;rw [if_pos rfl];exact m2.1);simpa using this
theorem Zuw (H:TyR P E) (R:Rel F a fp s T S) {t:TypeId} {x:Operand} (h:op2 E (.load t x) s k=some r):Res F a fp s T S (opK P K (.load t x) T S) k r:=by
 simp only [op2,Zaa] at h;obtain ⟨p,h1,h⟩:=h;have Zlw:Zg9 E s t p k=some r->Res F a fp s T S (opK P K (.load t x) T S) k r:=fun h=>Zrv H R (by rw [h1];exact h);split at h
 ·split at h
  ·exact ZrA H R h1 (by assumption) h
  ·exact ZS0 H R h1 (by assumption) h
  ·exact Zlw h
 ·exact Zlw h
def Fr.re (F:Fr) (pn:Nat->Nat->AV):Fr:=⟨F.ex,F.ro,F.h,pn⟩
theorem Zcr.repin {ρ ρ':Nat->Nat->AV} {m:Nat} {a:Nat->AV} {h:Tr AB} {fp:Nat->Prop} {v:AV} (e:∀ n,fp n->ρ' n=ρ n):∀ {ck:C2},Zcr ρ m a h fp v ck->Zcr ρ' m a h fp v ck
 | .box l w,⟨n,cs,h1,h2,h3,h4,h5⟩=>⟨n,cs,h1,h2,h3,h4,fun o ho=>by rw [e n h2];exact h5 o ho⟩
 | .own ..,h=>h
 | .lit ..,h=>h
 | .map ..,h=>h
 | .own2 ..,h=>h
 | .mix ..,h=>h
 | .arr ..,h=>h
 | .lnk ..,h=>h
theorem Rel.repin (R:Rel F a fp s T S) {pn':Nat->Nat->AV} {c n:Nat} {l l':List V2} (hc:s.H.get c=some (.box l true)) (hn:a c=.mp n 0) (hl:∀ cs,S.heap.get n=some (.cells cs)->Zbl s.nx a l cs->ZGF F.pn n l cs->Zbl s.nx a l' cs/\ZGF pn' n l' cs) (ho:∀ n',n'≠n->pn' n'=F.pn n') :
 Rel (F.re pn') a fp ⟨s.T,s.H.put c (.box l' true),s.nx⟩ T S:=by
 have g:∀ c' k,(s.H.put c (.box l' true)).get c'=some k->∃ k0,s.H.get c'=some k0/\k.w=k0.w/\((k=k0/\c'≠c)\/(c'=c/\k=.box l' true)):=by
  intro c' k h;rw [Tr.get_put] at h;split at h
  ·rename_i e;cases h;subst e;exact ⟨_,hc,rfl,.inr ⟨rfl,rfl⟩⟩
  ·rename_i e;exact ⟨k,h,rfl,.inl ⟨rfl,e⟩⟩
 obtain ⟨n0,cs,g1,g2,g3,g4,g5⟩:=R.chunks _ _ hc;rw [hn] at g1;cases g1;refine { slots:=R.slots,chunks:=?_,dis:=?_,lt:=?_,nx:=?_,fex:=R.fex,fro:=R.fro,dex:=?_,dro:=?_ }
 ·intro c' k h;obtain ⟨k0,h0,_,h2⟩:=g c' k h;rcases h2 with ⟨rfl,hne⟩ | ⟨rfl,rfl⟩
  ·refine (R.chunks _ _ h0).repin fun n' hf=>ho n' fun e=>?_;subst e;exact R.dis c' c _ _ h0 hc hne (.inr rfl) _ hf g2
  ·obtain ⟨i1,i2⟩:=hl cs g3 g4 g5;exact ⟨n,cs,hn,g2,g3,i1,i2⟩
 ·intro c1 c2 k1 k2 i1 i2 hne hw n hn;obtain ⟨j1,a1,b1,_⟩:=g c1 k1 i1;obtain ⟨j2,a2,b2,_⟩:=g c2 k2 i2;exact R.dis c1 c2 j1 j2 a1 a2 hne (by rw [<-b1,<-b2];exact hw) n hn
 ·intro c' k h n hn;obtain ⟨k0,h0,_,_⟩:=g c' k h;exact R.lt _ _ h0 n hn
 ·intro c' k h;obtain ⟨k0,h0,_,_⟩:=g c' k h;exact R.nx _ _ h0
 ·intro c' k h n hn;obtain ⟨k0,h0,_,_⟩:=g c' k h;exact R.dex _ _ h0 n hn
 ·intro c' k h hw n hn;obtain ⟨k0,h0,h1,_⟩:=g c' k h;exact R.dro _ _ h0 (by rw [<-h1];exact hw) n hn
theorem Zbl.setPin {m:Nat} {a:Nat->AV}:∀ {l:List V2} {cs:List AV} {o:Nat} {v:V2},Zbl m a l cs->l[o]?=some v->(v.one||isPin v)=true->Zbl m a (l.set o .pin) cs
 | _,_,0,v,.cons h i,hv,ho=>by
  simp only [List.getElem?_cons_zero,injEq] at hv;subst hv;rw [Bool.or_eq_true] at ho;rcases ho with ho | ho
  ·exact .cons (.pin (h.one ho)) i
  ·rename_i w _ _ _;cases w<;>first | (exact .cons h i) | cases ho
 | _,_,o+1,v,.cons h i,hv,ho=>.cons h (Zbl.setPin i (by simpa using hv) ho)
 | _,_,_,_,.nil,hv,_=>by simp at hv
theorem ZHh {m:Nat} {a:Nat->AV} {cs:List AV}:∀ (os:List Nat) {l l':List V2},ZI8 os l=some l'->Zbl m a l cs->Zbl m a l' cs
 | [],l,l',h,hv=>by cases h;exact hv
 | o::os,l,l',h,hv=>by
  simp only [ZI8,Zaa,Zak] at h;obtain ⟨v,h1,h2,h⟩:=h;exact ZHh os h (hv.setPin h1 h2)
theorem Zbl.setV {m:Nat} {a:Nat->AV}:∀ {l:List V2} {cs:List AV} {o:Nat} {v:V2},Zbl m a l cs->(∀ u,cs[o]?=some u->VR2 m a v u)->Zbl m a (l.set o v) cs
 | _,_,0,v,.cons h i,hv=>.cons (hv _ rfl) i
 | _,_,o+1,v,.cons h i,hv=>.cons h (Zbl.setV i fun u hu=>hv u (by simpa using hu))
 | _,_,_,_,.nil,hv=>.nil
theorem ZHk:∀ {l m:List V2},ZHq l m=true->∀ o:Nat,m[o]?=some V2.pin->l[o]?=some V2.pin
 | v::l,x::m,h,0,ho=>by
  simp only [ZHq,Bool.and_eq_true] at h;simp only [List.getElem?_cons_zero,injEq] at ho |-
  subst ho;have:=h.1;cases v<;>first | rfl | cases this
 | v::l,x::m,h,o+1,ho=>by
  simp only [ZHq,Bool.and_eq_true] at h;simp only [List.getElem?_cons_succ] at ho |-
  exact ZHk h.2 o ho
 | [],m,h,o,ho=>by
  have h:(m.all fun x=>!isPin x)=true:=by cases m<;>exact h
  have:=List.all_eq_true.1 h _ (List.mem_of_getElem? ho);cases this
 | _::_,[],_,o,ho=>by simp at ho
theorem ZHc {m:Nat} {a:Nat->AV} {cs:List AV} {l:List V2}:∀ (os:List Nat) {x x':List V2},ZG6 os l x=some x'->Zbl m a x cs->(∀ (o:Nat) v u,x[o]?=some V2.pin->l[o]?=some v->cs[o]?=some u->VR2 m a v u)->Zbl m a x' cs/\∀ o:Nat,x'[o]?=some V2.pin->x[o]?=some V2.pin/\l[o]?=some V2.pin
 | [],x,x',h,hv,hp=>by
  simp only [ZG6,Zak,injEq] at h;obtain ⟨h1,rfl⟩:=h;exact ⟨hv,fun o ho=>⟨ho,ZHk h1 o ho⟩⟩
 | o::os,x,x',h,hv,hp=>by
  simp only [ZG6,Zaa,Zak] at h;obtain ⟨v,h1,y,h2,h3,h⟩:=h;have h2':x[o]?=some V2.pin:=by cases y<;>first | exact h2 | cases h3
  obtain ⟨q1,q2⟩:=ZHc os h (hv.setV fun u hu=>hp o v u h2' h1 hu) fun o' w u hx hl hu=>by
   by_cases e:o'=o
   ·subst e;exact hp _ _ _ h2' hl hu
   ·rw [List.getElem?_set_ne (by omega)] at hx;exact hp _ _ _ hx hl hu
  refine ⟨q1,fun o' ho'=>?_⟩;obtain ⟨i1,i2⟩:=q2 o' ho';refine ⟨?_,i2⟩;by_cases e:o'=o
  ·rw [e];exact h2'
  ·rwa [List.getElem?_set_ne (by omega)] at i1
theorem ZGG (H:TyR P E) (HK:KOk E K) (R:Rel F a fp s T S) {g:FuncId} {vs:List V2} {us:List AV} (hp:E.pol g=false) (rv:Zbl s.nx a vs us) (h:ZFE E s g vs k=some r):Res F a fp s T S ((ZFn g S us).ob fun q=>K g q.1 q.2) k r:=by
 unfold ZFE at h;cases hz:E.fz g with
 | none=>
  rw [hz] at h;have hz':Mx.fz g=none:=by rw [H.fz,hz];rfl
  simp only [ZFn,hz',Zap];exact (Zmi HK R hp rv h).1
 | some m=>
  rw [hz] at h;dsimp only at h;simp only [Zaa] at h;obtain ⟨⟨vs',H'⟩,h5,h⟩:=h;obtain ⟨us',S1,f1,f2,R1,r5,f3⟩:=ZFG m R rv h5;have hz':Mx.fz g=some fun i=>(m i).isSome:=by rw [H.fz,hz];rfl
  simp only [ZFn,hz',f1,Zap];obtain ⟨v',u',s',a',fp',S',g1,g2,g3,g4,g5,g6,g7,g8⟩:=(Zmi HK R1 hp r5 h).1;exact ⟨v',u',s',a',fp',S',g1,by rw [<-f2];exact g2,g3,g4,g5,g6,g7,fun c hc=>⟨(g8 c hc).1,fun hn=>(g8 c hc).2 (f3 c hn)⟩⟩
theorem ZHr (R:Rel F a fp s T S) {c:Nat} {os:List Nat} {l l':List V2} (hc:s.H.get c=some (.box l true)) (hl:ZI8 os l=some l'):∃ n cs,a c=.mp n 0/\S.heap.get n=some (.cells cs)/\Zbl s.nx a l cs/\fp c n /\
 Rel (F.re fun n' o=>if n'=n then (cs[o]?).getD .nilp else F.pn n' o) a fp ⟨s.T,s.H.put c (.box l' true),s.nx⟩ T S/\ZGF F.pn n l cs:=by
 obtain ⟨n,cs,g1,g2,g3,g4,g5⟩:=R.chunks _ _ hc;have g3:S.heap.get n=some (.cells cs):=g3;refine ⟨n,cs,g1,g3,g4,g2,R.repin hc g1 (fun cs' e hv hp=>?_) (fun n' hn=>by funext o;rw [if_neg hn]),g5⟩;rw [g3] at e;cases e;refine ⟨ZHh os hl hv,fun o ho=>?_⟩;show cs[o]?=some (if n=n then (cs[o]?).getD .nilp else F.pn n o);rw [if_pos rfl];have hlen:=(ZHh os hl hv).length;have hlt:o < cs.length:=by rw [hlen];exact (List.getElem?_eq_some_iff.1 ho).1
 rw [List.getElem?_eq_getElem hlt];rfl
theorem ZHs (H:TyR P E) (HK:KOk E K) (R:Rel F a fp s T S) {g:FuncId} {vs:List V2} {us:List AV} (hp:E.pol g=false) (rv:Zbl s.nx a vs us) (h:ZGE E s g vs k=some r):Res F a fp s T S ((ZFn g S us).ob fun q=>K g q.1 q.2) k r:=by
 unfold ZGE at h;split at h
 ·exact ZGG H HK R hp rv h
 ·split at h
  ·rename_i c tl;simp only [Zaa] at h;obtain ⟨ck,hc,h⟩:=h;split at h
   ·rename_i l;simp only [Zaa] at h;obtain ⟨l',hl,h⟩:=h;obtain ⟨n,cs,e1,e2,e3,e4,R1,e5⟩:=ZHr R hc hl;obtain ⟨v',u',s',a',fp',S',g1,g2,g3,g4,g5,g6,g7,g8⟩:=ZGG H HK R1 hp rv h;simp only [Zaa] at g6;obtain ⟨ck',hc',g6⟩:=g6;split at g6
    ·rename_i m;simp only [Zaa] at g6;obtain ⟨m',hm,g6⟩:=g6;have hcn:c < s.nx:=R.nx _ _ hc;have e1':a' c=.mp n 0:=by rw [(g8 c hcn).1,e1]
     have R2:=g3.repin (pn':=F.pn) (l':=m') hc' e1' (fun cs' e hv hpin=>by
      obtain ⟨q1,q2⟩:=ZHc (l:=l) (E.pn g) hm hv fun o v u hx hlv hu=>by
       have:=hpin o hx;rw [hu] at this;have this:u=(if n=n then (cs[o]?).getD .nilp else F.pn n o):=inj this;rw [if_pos rfl] at this;obtain ⟨u0,hu0,hvr⟩:=e3.get hlv;rw [hu0] at this;have this:u=u0:=this;subst this;exact hvr.mono g7 fun c hc=>(g8 c hc).1
      refine ⟨q1,fun o ho=>?_⟩;obtain ⟨i1,i2⟩:=q2 o ho;have j1:=hpin o i1;rw [j1];show some (if n=n then (cs[o]?).getD .nilp else F.pn n o)=some (F.pn n o);rw [if_pos rfl,e5 o i2];rfl) fun n' hn=>by
       show F.pn n'=fun o=>if n'=n then _ else _
       funext o;rw [if_neg hn]
     exact ⟨v',u',_,a',fp',S',g1,g2,R2,g4,g5,g6,g7,fun c0 hc0=>⟨(g8 c0 hc0).1,fun hn=>(g8 c0 hc0).2 (by
      show (s.H.put c (.box l' true)).get c0=none;rw [Tr.get_put,if_neg (fun e=>by subst e;rw [hc] at hn;cases hn)];exact hn)⟩⟩
    ·cases g6
   ·cases h
  ·cases h
theorem ZGP {l:List V2}:∀ (os:List Nat) {x x':List V2},ZG6 os l x=some x'->∀ o∈os,x[o]?=some V2.pin
 | [],_,_,_,o,ho=>by cases ho
 | o::os,x,x',h,o',ho'=>by
  simp only [ZG6,Zaa,Zak] at h;obtain ⟨v,h1,y,h2,h3,h⟩:=h;have h2':x[o]?=some V2.pin:=by cases y<;>first | exact h2 | cases h3
  by_cases e:o'=o
  ·rw [e];exact h2'
  ·rcases List.mem_cons.1 ho' with ho' | ho'
   ·exact absurd ho' e
   ·have:=ZGP os h o' ho'
    rwa [List.getElem?_set_ne (by omega)] at this
theorem ZHi (H:TyR P E) (HK:KOk E K) (R:Rel F a fp s T S) {g:FuncId} {c:Nat} {tl:List V2} {us:List AV} (hp:E.pol g=false) (rv:Zbl s.nx a (.bx c 0::tl) us) (h:ZGE E s g (.bx c 0::tl) k=some r) {u:AV} (ho:((ZFn g S us).ob fun q=>K g q.1 q.2)=some (u,S')) {o n:Nat} (hm:o∈E.pn g) (hn:a c=.mp n 0) {cs:List AV} (hcs:rdB (S.heap.get n)=some cs):∃ cs',rdB (S'.heap.get n)=some cs'/\cs'[o]?=cs[o]?:=by
 unfold ZGE at h;split at h
 ·rename_i he;rw [he] at hm;cases hm
 ·simp only [Zaa] at h;obtain ⟨ck,hc,h⟩:=h;split at h
  ·rename_i l;simp only [Zaa] at h;obtain ⟨l',hl,h⟩:=h;obtain ⟨n0,cs0,e1,e2,e3,e4,R1,_⟩:=ZHr R hc hl;rw [hn] at e1;cases e1;rw [e2] at hcs;have hcs:cs0=cs:=inj hcs;subst hcs;obtain ⟨v',u',s',a',fp',S2',g1,g2,g3,g4,g5,g6,g7,g8⟩:=ZGG H HK R1 hp rv h;rw [ho] at g1;cases g1;simp only [Zaa] at g6;obtain ⟨ck',hc',g6⟩:=g6;split at g6
   ·rename_i m;simp only [Zaa] at g6;obtain ⟨m',hm',g6⟩:=g6;have hcn:c < s.nx:=R.nx _ _ hc;obtain ⟨n1,cs1,i1,i2,i3,i4,i5⟩:=g3.chunks _ _ hc';rw [(g8 c hcn).1,hn] at i1;cases i1;have i3:S'.heap.get n=some (.cells cs1):=i3;refine ⟨cs1,by rw [i3];rfl,?_⟩;have hpin:=ZGP (E.pn g) hm' o hm;have:=i5 o hpin;rw [this];show some (if n=n then (cs0[o]?).getD .nilp else F.pn n o)=_;rw [if_pos rfl];have hlt:o < m.length:=(List.getElem?_eq_some_iff.1 hpin).1;have hl0:o < l.length:=by
     cases hq:l[o]? with
     | some v=>exact (List.getElem?_eq_some_iff.1 hq).1
     | none=>
      exfalso;have:∀ (os:List Nat) (x x':List V2),ZG6 os l x=some x'->∀ o∈os,l[o]?≠none:=by
       intro os
       induction os with
       | nil=>intro _ _ _ o ho;cases ho
       | cons o1 os ih=>
        intro x x' h o ho;simp only [ZG6,Zaa,Zak] at h;obtain ⟨v,h1,y,h2,h3,h⟩:=h;rcases List.mem_cons.1 ho with rfl | ho
        ·rw [h1];simp
        ·exact ih _ _ h o ho
      exact this _ _ _ hm' o hm hq
    have hlen:=e3.length;rw [List.getElem?_eq_getElem (show o < cs0.length by omega)];rfl
   ·cases g6
  ·cases h
theorem ZhM (H:TyR P E) (HK:KOk E K) (R:Rel F a fp s T S) {o:Op} (h:op2 E o s k=some r):Res F a fp s T S (opK P K o T S) k r:=by
 cases o<;>try (cases h;done)
 case move x=>exact ZoS R h
 case assign x=>exact ZoS (P:=P) (K:=K) R h
 case pick=>exact Zuq R h
 case alloc=>exact Zru H R h
 case box=>exact Zwx H R h
 case build=>exact Zr1 H R h
 case buildSlice=>exact ZiF H R h
 case load=>exact Zuw H R h
 case store=>exact Zr5 H R h
 case nilCheck=>exact ZkY R h
 case binOp=>exact Zww H R h
 case unOp=>exact Z0J R h
 case convert=>exact Zn2 H R h
 case makeFunc=>exact ZkZ R h
 case makeSlice=>exact Zkb H R h
 case makeMap=>exact Zn3 H R h
 case lookup=>exact Zpn H R h
 case mapUpdate=>exact Zpo H R h
 case slice=>exact Zrz H R h
 case fieldAddr=>exact ZjZ H R h
 case field=>exact Zrw H R h
 case indexAddr=>exact Zka H R h
 case index=>exact Zrx H R h
 case extract=>exact Znz R h
 case call c=>
  obtain ⟨callee,args,ts⟩:=c;simp only [op2] at h;split at h
  ·split at h
   ·rename_i x hx;split at h
    ·rename_i t ht;exact Zw0 H R hx ht h
    ·cases h
   ·cases h
  ·split at h
   ·rename_i x y hx;split at h
    ·rename_i t u ht;exact Zpf H R hx ht h
    ·cases h
   ·cases h
  ·simp only [Zaa] at h;obtain ⟨l,h1,h⟩:=h;obtain ⟨us,e1,r1⟩:=ZeO R h1;split at h
   ·simp only [Zaa] at h;obtain ⟨n,h2,h⟩:=h;cases r1 with | cons r2 r3=>
    cases r2 with | dat d=>
    have:=DR.int d;subst this;refine Zbs R ?_ h;simp only [opK,e1,Zap,Zbn,Z06];rw [ZoV R r3 h2,Zap]
   ·cases h
  ·simp only [Zaa] at h;obtain ⟨l,h1,h⟩:=h;obtain ⟨us,e1,r1⟩:=ZeO R h1;split at h
   ·simp only [Zaa] at h;obtain ⟨n,h2,h⟩:=h;cases r1 with | cons r2 r3=>
    cases r2 with | dat d=>
    have:=DR.int d;subst this;refine Zbs R ?_ h;simp only [opK,e1,Zap,Zbn,Z07];rw [ZoW R r3 h2,Zap]
   ·cases h
  ·rename_i f;simp only [Zaa] at h;obtain ⟨l,h1,v,h2,h⟩:=h;obtain ⟨us,e1,r1⟩:=ZeO R h1;obtain ⟨u,e2,r2⟩:=Zbd R h2;split at h
   ·cases r2 with | fn h3 h4=>
    rename_i gg _ _ x' y';simp only [opK,e1,e2,Zap];cases hp:E.pol gg<;>rw [hp] at h
    ·rw [Zan] at h;exact ZHs H HK R hp ((h3.append r1).append h4) h
    ·have hz':Mx.fz gg=none:=by rw [H.fz,H.fzp gg hp];rfl
     simp only [ZFn,hz',Zap];exact Zr3 HK R hp ((h3.append r1).append h4) h
   ·cases h
  ·cases h
theorem Zdw {nt:Nat} {dst:Option Tmp} {v:V2} {u:AV} {k:S2->Option α} (R:Rel F a fp s T S) (hv:VR2 s.nx a v u) (h:ZoJ nt dst v s k=some r) :
 ∃ T' s',ZdI nt T dst u=some T'/\Rel F a fp s' T' S/\k s'=some r/\s'.H=s.H/\s'.nx=s.nx/\(∀ t,dst≠some t->T'.get t=T.get t):=by
 unfold ZoJ at h;cases dst with
 | none=>exact ⟨T,s,rfl,R,h,rfl,rfl,fun _ _=>rfl⟩
 | some d=>
  dsimp only at h;rw [Zak] at h;refine ⟨T.put d u,⟨s.T.put d v,s.H,s.nx⟩,?_,R.put hv,h.2,rfl,rfl,fun t ht=>?_⟩
  ·simp only [ZdI,h.1,chk,Zag,Zap]
  ·rw [Tr.get_put,if_neg (fun e=>ht (by rw [e]))]
theorem Zpp (R:Rel F a fp s T S) {d:Tmp} {b:Bool} (h:s.T.get d=some (.dat .bool b)):Rel F a fp ⟨s.T.put d (.dat .bool b),s.H,s.nx⟩ T S:=by
 refine R.less ?_;intro k v hk;rw [Tr.get_put] at hk;split at hk
 ·rename_i e;cases hk;subst e;exact R.slots _ _ h
 ·exact R.slots k v hk
theorem Zmj {g:Gd} {y n:S2->Option α} (R:Rel F a fp s T S) (h:ZjW g s y n=some r) :
 (Zhz g T=some true/\∃ s',Rel F a fp s' T S/\y s'=some r/\s'.H=s.H/\s'.nx=s.nx)\/(Zhz g T=some false/\∃ s',Rel F a fp s' T S/\n s'=some r/\s'.H=s.H/\s'.nx=s.nx):=by
 cases g with
 | yes=>exact .inl ⟨rfl,s,R,h,rfl,rfl⟩
 | no=>exact .inr ⟨rfl,s,R,h,rfl,rfl⟩
 | «at» d w=>
  simp only [ZjW,Zaa] at h;obtain ⟨v,hv,h⟩:=h;obtain ⟨u,e1,r1⟩:=R.slots d v hv;split at h
  ·rename_i b;cases r1 with | dat dd=>
   have:=DR.bool dd;subst this;have Rk:=Zpp R hv;cases b
   ·rw [cond_false] at h;cases w
    ·exact .inl ⟨by simp [Zhz,e1,Zap],_,Rk,h,rfl,rfl⟩
    ·exact .inr ⟨by simp [Zhz,e1,Zap],_,Rk,h,rfl,rfl⟩
   ·rw [cond_true] at h;cases w
    ·exact .inr ⟨by simp [Zhz,e1,Zap],_,Rk,h,rfl,rfl⟩
    ·exact .inl ⟨by simp [Zhz,e1,Zap],_,Rk,h,rfl,rfl⟩
  ·cases r1 with | tup _=>
   exact .inr ⟨by simp [Zhz,e1,Zap],s,R,h,rfl,rfl⟩
  ·cases h
def Run (F:Fr) (S:St) (nt:Nat) (T:Tm) (P1:Tm->St->Prop) (k:S2->Option α) (r:α):Prop:=∃ s' T' S' a' fp',P1 T' S'/\S.next<=S'.next/\Rel F a' fp' s' T' S'/\k s'=some r
theorem ZaQ {d:Option Tmp} {l:List (Option Tmp)} {t:Tmp} (h:Zun (d::l) t=false):d≠some t/\Zun l t=false:=by
 unfold Zun at h;rw [List.any_cons,Bool.or_eq_false_iff] at h;refine ⟨fun e=>?_,h.2⟩;subst e;have:=h.1;simp only [Nat.beq_refl] at this;cases this
theorem Zle (H:TyR P E) (HK:KOk E K) {nt:Nat}:∀ (l:List CO) {s:S2} {T:Tm} {S:St} {a:Nat->AV} {fp:Nat->Nat->Prop} {k:S2->Option α},Rel F a fp s T S->Zwo E nt l s k=some r ->
 ∃ s' T' S' a' fp',Zrd P K nt l T S=some (T',S')/\S.next<=S'.next/\Rel F a' fp' s' T' S'/\k s'=some r/\∀ t,Zun (l.map (·.dst)) t=false->T'.get t=T.get t
 | [],s,T,S,a,fp,k,R,h=>⟨s,T,S,a,fp,rfl,Nat.le_refl _,R,h,fun _ _=>rfl⟩
 | o::l,s,T,S,a,fp,k,R,h=>by
  simp only [Zwo] at h;rcases Zmj R h with ⟨hw,s1,R1,h,_,_⟩ | ⟨hw,s1,R1,h,_,_⟩
  ·obtain ⟨v,u,s2,a2,fp2,S2',e1,n1,R2,_,r2,h,_,_⟩:=ZhM H HK R1 h;obtain ⟨T3,s3,e2,R3,h,_,_,hd⟩:=Zdw R2 r2 h;obtain ⟨s4,T4,S4,a4,fp4,e3,n3,R4,h,hg⟩:=Zle H HK l R3 h;refine ⟨s4,T4,S4,a4,fp4,?_,Nat.le_trans n1 n3,R4,h,fun t ht=>by rw [hg t (ZaQ ht).2,hd t (ZaQ ht).1]⟩;simp only [Zrd,hw,Zap,Zag,e1,Zah.2 n1,chk,e2,e3]
  ·obtain ⟨T3,s3,e2,R3,h,_,_,hd⟩:=Zdw R1 (.tup .nil) h;obtain ⟨s4,T4,S4,a4,fp4,e3,n3,R4,h,hg⟩:=Zle H HK l R3 h;refine ⟨s4,T4,S4,a4,fp4,?_,n3,R4,h,fun t ht=>by rw [hg t (ZaQ ht).2,hd t (ZaQ ht).1]⟩;simp only [Zrd,hw,Zap,Zan,e2,e3]
theorem ZsO {o:Op} (ho:ZlQ o=true) {u:AV} (h:opK P K o T S=some (u,S')):S'=S:=by
 have fin:∀ {β:Type} {x:Option β} {g:β->AV},x.ob (fun v=>some (g v,S))=some (u,S')->S'=S:=by
  intro β x g h;simp only [Zaa,injEq,Prod.mk.injEq] at h;obtain ⟨_,_,_,rfl⟩:=h;rfl
 cases o<;>try (cases ho;done)
 case move=>exact fin (g:=id) h
 case assign=>exact fin (g:=id) h
 case pick c x y=>
  simp only [opK,aOp,Zaa] at h;obtain ⟨c,_,h⟩:=h;split at h
  ·exact fin (g:=id) h
  ·exact fin (g:=id) h
  ·cases h
 case build=>simp only [opK,aOp,Zaa] at h;obtain ⟨_,_,h⟩:=h;obtain ⟨_,_,h⟩:=h;cases h;rfl
 case load t x=>
  simp only [opK,aOp] at h;cases ht:te P t<;>rw [ht] at h
  ·cases h
  ·simp only [Zaa] at h;obtain ⟨_,_,h⟩:=h;obtain ⟨_,_,h⟩:=h;cases h;rfl
 case nilCheck x=>
  simp only [opK,aOp,Zaa] at h;obtain ⟨v,_,h⟩:=h;split at h<;>first | (cases h;done) | (cases h;rfl)
 case binOp=>simp only [opK,aOp,Zaa] at h;obtain ⟨_,_,_,_,_,_,h⟩:=h;cases h;rfl
 case unOp=>simp only [opK,aOp,Zaa] at h;obtain ⟨_,_,_,_,h⟩:=h;cases h;rfl
 case convert=>simp only [opK,aOp,Zaa] at h;obtain ⟨_,_,_,_,h⟩:=h;cases h;rfl
 case makeFunc fn f c=>
  simp only [opK,aOp] at h;split at h
  ·simp only [Zaa] at h;obtain ⟨_,_,_,_,h⟩:=h;cases h;rfl
  ·cases h
 case slice=>simp only [opK,aOp,Zaa] at h;obtain ⟨_,_,_,_,h⟩:=h;cases h;rfl
 case fieldAddr=>simp only [opK,aOp,Zaa] at h;obtain ⟨_,_,_,_,h⟩:=h;cases h;rfl
 case field=>simp only [opK,aOp,Zaa] at h;obtain ⟨_,_,_,_,h⟩:=h;cases h;rfl
 case indexAddr=>simp only [opK,aOp,Zaa] at h;obtain ⟨_,_,_,_,_,_,h⟩:=h;cases h;rfl
 case index=>simp only [opK,aOp,Zaa] at h;obtain ⟨_,_,_,_,_,_,h⟩:=h;cases h;rfl
 case extract=>
  simp only [opK,aOp,Zaa] at h;obtain ⟨v,_,h⟩:=h;split at h
  ·simp only [Zaa] at h;obtain ⟨_,_,h⟩:=h;cases h;rfl
  ·cases h
 case call c=>
  obtain ⟨callee,args,ts⟩:=c;simp only [ZlQ] at ho;split at ho<;>try (cases ho;done)
  all_goals
   simp only [opK,Zaa] at h;obtain ⟨us,_,h⟩:=h;unfold Zbn at h;split at h<;>simp_all only [Zaa,injEq,Prod.mk.injEq,reduceCtorEq]
   all_goals
    first
    | (obtain ⟨_,_,_,h⟩:=h;exact h.symm)
    | (cases ‹Builtin.len=_›)
    | (cases ‹Builtin.max=_›)
    | (cases ‹Builtin.min=_›)
    | skip
theorem Zux (H:TyR P E) {o:Op} (ho:ZoK o=true) (hna:Zul E o=true) {u:AV} (h:opK P K o T S=some (u,S')):∃ b,S'=ZcW S b/\Za8 u=[S.next]:=by
 cases o<;>try (cases ho;done)
 case alloc t=>
  simp only [opK,aOp] at h;have hm:Mx.ar t=false:=H.ar0 t (by simpa [Zul] using hna);cases ht:te P t<;>rw [ht] at h
  ·cases h
  ·dsimp only at h;rw [hm] at h;cases h;exact ⟨_,rfl,rfl⟩
 case box t x=>
  simp only [opK,aOp] at h;cases ht:te P t<;>rw [ht] at h
  ·cases h
  ·simp only [Zaa] at h;obtain ⟨_,_,h⟩:=h;cases h;exact ⟨_,rfl,rfl⟩
 case buildSlice=>
  simp only [opK,aOp,Zaa] at h;obtain ⟨_,_,h⟩:=h;simp only [Zul,Bool.not_eq_true',H.bt] at hna;simp only [hna,Zan,Zb4,Zaa] at h;obtain ⟨_,_,_,_,_,_,_,_,_,_,h⟩:=h;cases h;exact ⟨_,rfl,rfl⟩
 case makeSlice=>
  simp only [opK,aOp,Zb8,Zaa] at h;obtain ⟨_,_,_,_,_,_,_,_,_,_,_,_,_,_,_,_,h⟩:=h;cases h;exact ⟨_,rfl,rfl⟩
theorem ZiK {f:St->AV->Option (AV×St)} (hf:∀ (v:AV) (S S':St) (q:AV),f S v=some (q,S')->S'.next=S.next/\∀ m,rdB (S'.heap.get m)=rdB (S.heap.get m)) :
 ∀ (l:List AV) (S S':St) (q:List AV),ZbN f S l=some (q,S')->S'.next=S.next/\∀ m,rdB (S'.heap.get m)=rdB (S.heap.get m)
 | [],S,S',q,h=>by cases h;exact ⟨rfl,fun _=>rfl⟩
 | v::l,S,S',q,h=>by
  simp only [ZbN,Zaa,injEq,Prod.mk.injEq] at h;obtain ⟨⟨v1,S1⟩,h1,⟨q1,S2'⟩,h2,_,rfl⟩:=h;obtain ⟨n1,e1⟩:=hf v S S1 v1 h1;obtain ⟨n2,e2⟩:=ZiK hf l S1 S2' q1 h2;exact ⟨by rw [n2,n1],fun m=>by rw [e2 m,e1 m]⟩
theorem ZsP {h:Tr AB} {n:Nat} {c:List AV} (hc:h.get n=some (.cells c)) (m:Nat):rdB ((h.put n (.ice c)).get m)=rdB (h.get m):=by
 rw [Tr.get_put];split
 ·rename_i e;subst e;rw [hc];rfl
 ·rfl
theorem Zkg:∀ (n:Nat) (v:AV) (S S':St) (q:AV),frz n S v=some (q,S')->S'.next=S.next/\∀ m,rdB (S'.heap.get m)=rdB (S.heap.get m)
 | 0,v,S,S',q,h=>by cases h
 | n+1,v,S,S',q,h=>by
  have ih:=ZiK (Zkg n);cases v<;>simp only [frz] at h
  case mp b off=>
   simp only [Zaa] at h;obtain ⟨bk,hb,h⟩:=h;cases bk<;>simp only [Zaa,reduceCtorEq] at h
   ·obtain ⟨⟨q1,S1⟩,h1,h⟩:=h;cases h;obtain ⟨n1,e1⟩:=ih _ _ _ _ h1;exact ⟨n1,fun m=>by rw [e1 m];exact ZsP hb m⟩
   ·obtain ⟨⟨q1,S1⟩,h1,h⟩:=h;cases h;exact ih _ _ _ _ h1
  case ms b off len cap z=>
   simp only [Zaa] at h;obtain ⟨bk,hb,h⟩:=h;cases bk<;>simp only [Zaa,reduceCtorEq] at h
   ·obtain ⟨rr,_,⟨q1,S1⟩,h1,h⟩:=h;cases h;obtain ⟨n1,e1⟩:=ih _ _ _ _ h1;exact ⟨n1,fun m=>by rw [e1 m];exact ZsP hb m⟩
   ·obtain ⟨rr,_,⟨q1,S1⟩,h1,h⟩:=h;cases h;exact ih _ _ _ _ h1
  case func g x y=>
   simp only [Zaa] at h;obtain ⟨⟨q1,S1⟩,h1,⟨q2,S2'⟩,h2,h⟩:=h;cases h;obtain ⟨n1,e1⟩:=ih _ _ _ _ h1;obtain ⟨n2,e2⟩:=ih _ _ _ _ h2;exact ⟨by rw [n2,n1],fun m=>by rw [e2 m,e1 m]⟩
  case iface t x=>
   simp only [Zaa] at h;obtain ⟨⟨q1,S1⟩,h1,h⟩:=h;cases h;exact Zkg n _ _ _ _ h1
  case agg cs=>
   simp only [Zaa] at h;obtain ⟨⟨q1,S1⟩,h1,h⟩:=h;cases h;exact ih _ _ _ _ h1
  case tup cs=>
   simp only [Zaa] at h;obtain ⟨⟨q1,S1⟩,h1,h⟩:=h;cases h;exact ih _ _ _ _ h1
  case map=>cases h
  case pa=>cases h
  all_goals (cases h;exact ⟨rfl,fun _=>rfl⟩)
theorem ZHt:∀ (l:List (Nat×AV)) (S S':St) (q:List (Nat×AV)),ZFY S l=some (q,S')->S'.next=S.next/\∀ m,rdB (S'.heap.get m)=rdB (S.heap.get m)
 | [],S,S',q,h=>by cases h;exact ⟨rfl,fun _=>rfl⟩
 | p::l,S,S',q,h=>by
  simp only [ZFY,Zaa,injEq,Prod.mk.injEq] at h;obtain ⟨⟨v1,S1⟩,h1,⟨q1,S2'⟩,h2,_,rfl⟩:=h;obtain ⟨n1,e1⟩:=Zkg _ p.2 S S1 v1 h1;obtain ⟨n2,e2⟩:=ZHt l S1 S2' q1 h2;exact ⟨by rw [n2,n1],fun m=>by rw [e2 m,e1 m]⟩
end
end Go.Eng
