import Derived.Test.YtipafbfdjfbkbaaGreatDoorE2Top
set_option linter.unusedVariables false
set_option linter.unusedSectionVars false
open Option.some (injEq)
open Bool (and_eq_true)
namespace Go.Eng
section
variable [Gl] [Mx] {P:Program} {K:ZcY} {E:Zcn}
noncomputable def Z1Y (P:Program) (l:List (TypeId×Ty)) (str:TypeId->Bool) (p:TypeId×Ty):Bool:=match te P p.1 with
 | some e=>e.size.beq p.2.size&&(Zez e.und==p.2.agg)&&Nat.ble e.bytes 1000&&Zdl e.zero.cells p.2.zcv&&ZcJ (tyL l) (str p.1) p.2 e.und
 | none=>false
theorem Zpu:∀ {l:List (TypeId×Ty)} {t:TypeId} {u:Ty},tyL l t=some u->(t,u)∈l
 | [],_,_,h=>by cases h
 | p::l,t,u,h=>by
  simp only [tyL] at h;cases hb:p.1.beq t<;>rw [hb] at h
  ·exact List.mem_cons_of_mem _ (Zpu h)
  ·cases h;have:p.1=t:=Zad.1 hb;subst this;simp
mutual
theorem Zlg:∀ (a b:AV),same a b=true->a=b
 | .bool a,b,h=>by cases b<;>simp [same] at h;subst h;rfl
 | .int k a,b,h=>by cases b<;>simp [same] at h;obtain ⟨rfl,rfl⟩:=h;rfl
 | .str a,b,h=>by cases b<;>simp [same] at h;subst h;rfl
 | .nilp,b,h=>by cases b<;>simp [same] at h;rfl
 | .mp n o,b,h=>by cases b<;>simp [same] at h;obtain ⟨rfl,rfl⟩:=h;rfl
 | .fp a,b,h=>by cases b<;>simp [same] at h;rw [Zcy _ _ h]
 | .nils,b,h=>by cases b<;>simp [same] at h;rfl
 | .ms n o l c z,b,h=>by cases b<;>simp [same] at h;obtain ⟨⟨⟨⟨rfl,rfl⟩,rfl⟩,rfl⟩,rfl⟩:=h;rfl
 | .fs a l,b,h=>by cases b<;>simp [same] at h;obtain ⟨rfl,h⟩:=h;rw [Zcy _ _ h]
 | .pa n l z,b,h=>by cases b<;>simp [same] at h;obtain ⟨⟨rfl,rfl⟩,rfl⟩:=h;rfl
 | .nilm,b,h=>by cases b<;>simp [same] at h;rfl
 | .map n,b,h=>by cases b<;>simp [same] at h;subst h;rfl
 | .nilf,b,h=>by cases b<;>simp [same] at h;rfl
 | .func f a c,b,h=>by cases b<;>simp [same] at h;obtain ⟨⟨rfl,h1⟩,h2⟩:=h;rw [Zcy _ _ h1,Zcy _ _ h2]
 | .nili,b,h=>by cases b<;>simp [same] at h;rfl
 | .iface t x,b,h=>by cases b<;>simp [same] at h;obtain ⟨rfl,h⟩:=h;rw [Zlg _ _ h]
 | .agg a,b,h=>by cases b<;>simp [same] at h;rw [Zcy _ _ h]
 | .tup a,b,h=>by cases b<;>simp [same] at h;rw [Zcy _ _ h]
theorem Zcy:∀ (a b:List AV),Zdl a b=true->a=b
 | [],b,h=>by cases b<;>simp [Zdl] at h;rfl
 | x::xs,b,h=>by
  cases b with
  | nil=>simp [Zdl] at h
  | cons y ys=>simp [Zdl] at h;rw [Zlg _ _ h.1,Zcy _ _ h.2]
end
def mtL:List (TypeId×Ty×Ty)->TypeId->Option (Ty×Ty)
 | [],_=>none
 | p::l,t=>bif p.1.beq t then some p.2 else mtL l t
theorem Zpv:∀ {l:List (TypeId×Ty×Ty)} {t:TypeId} {u:Ty×Ty},mtL l t=some u->(t,u)∈l
 | [],_,_,h=>by cases h
 | p::l,t,u,h=>by
  simp only [mtL] at h;cases hb:p.1.beq t<;>rw [hb] at h
  ·exact List.mem_cons_of_mem _ (Zpv h)
  ·cases h;have:p.1=t:=Zad.1 hb;subst this;simp
noncomputable def Zw9 (P:Program) (l:List (TypeId×Ty)) (p:TypeId×Ty×Ty):Bool:=match te P p.1 with
 | some e=>match Zjr e.und with
  | some ke=>match te P ke.2 with
   | some et=>Zq8 (tyL l ke.1) p.2.1&&(match zSc p.2.2 with | some z=>same et.zero (p.2.2.enc z) | none=>true)
   | none=>false
  | none=>false
 | none=>false
def arL:List (TypeId×Ty×Nat)->TypeId->Option (Ty×Nat)
 | [],_=>none
 | p::l,t=>bif p.1.beq t then some p.2 else arL l t
theorem Zpw:∀ {l:List (TypeId×Ty×Nat)} {t:TypeId} {u:Ty×Nat},arL l t=some u->(t,u)∈l
 | [],_,_,h=>by cases h
 | p::l,t,u,h=>by
  simp only [arL] at h;cases hb:p.1.beq t<;>rw [hb] at h
  ·exact List.mem_cons_of_mem _ (Zpw h)
  ·cases h;have:p.1=t:=Zad.1 hb;subst this;simp
noncomputable def ZwA (P:Program) (l:List (TypeId×Ty)) (p:TypeId×Ty×Nat):Bool:=match te P p.1 with
 | some e=>match e.und with
  | .array n el=>n.beq p.2.2&&Zq8 (tyL l el) p.2.1&&(match p.2.1.zden with | some z=>Zdl e.zero.cells (List.flatMap p.2.1.cells (List.replicate p.2.2 z)) | none=>true)
  | _=>false
 | none=>false
def ZGe:List (FuncId×List (Option Ty))->FuncId->Option (Nat->Option Ty)
 | [],_=>none
 | p::l,g=>bif p.1.beq g then some (fun i=>p.2.getD i none) else ZGe l g
theorem ZF0 {pol:FuncId->Bool}:∀ {l:List (FuncId×List (Option Ty))},(l.all fun p=>!pol p.1)=true->∀ g,pol g=true->ZGe l g=none
 | [],_,_,_=>rfl
 | p::l,h,g,hg=>by
  rw [List.all_cons,and_eq_true,Bool.not_eq_true'] at h;unfold ZGe;cases hb:p.1.beq g
  ·exact ZF0 h.2 g hg
  ·rw [Zad.1 hb,hg] at h;cases h.1
theorem ZwB {l:List (TypeId×Ty)} {ml:List (TypeId×Ty×Ty)} {al:List (TypeId×Ty×Nat)} {str:TypeId->Bool} (hE:E.ty=tyL l) (hs:E.str=str) (hf:E.sf=Mx.st) (hm:E.mt=mtL ml) (ha:E.ar=arL al) (hma:∀ t,Mx.ar t=(arL al t).isSome) (hbt:E.bt=Mx.bt) (hfz:∀ g,Mx.fz g=(E.fz g).map fun m i=>(m i).isSome) (hfp:∀ g,E.pol g=true->E.fz g=none) (h3:(al.all fun p=>ZwA P l p)=true) (h:(l.all fun p=>Z1Y P l str p)=true) (h2:(ml.all fun p=>Zw9 P l p)=true):TyR P E:=by
 refine ⟨fun t u ht=>?_,fun t a x=>by rw [hf],fun t k v ht=>?_,fun t p ht=>?_,fun t ht=>by rw [hma,<-ha,ht];rfl,fun t=>by rw [hbt],hfz,hfp⟩
 ·rw [hE] at ht;have:=List.all_eq_true.1 h _ (Zpu ht);unfold Z1Y at this;dsimp only at this;split at this
  ·rename_i e he;simp only [and_eq_true,Zad,Zah,beq_iff_eq] at this;obtain ⟨⟨⟨⟨h1,h2⟩,h3⟩,h4⟩,h5⟩:=this;exact ⟨e,he,h1,h2,h3,Zcy _ _ h4,by rw [hE,hs];exact h5⟩
  ·cases this
 ·rw [hm] at ht;have:=List.all_eq_true.1 h2 _ (Zpv ht);unfold Zw9 at this;dsimp only at this;split at this
  ·rename_i e he;split at this
   ·rename_i ke hke;split at this
    ·rename_i et het;rw [and_eq_true] at this;refine ⟨e,ke,et,he,hke,by rw [hE];exact Zbr this.1,het,fun z hz=>?_⟩;have h3:=this.2;rw [hz] at h3;exact Zlg _ _ h3
    ·cases this
   ·cases this
  ·cases this
 ·rw [ha] at ht;refine ⟨by rw [hma,ht];rfl,?_⟩;have:=List.all_eq_true.1 h3 _ (Zpw ht);unfold ZwA at this;dsimp only at this;split at this
  ·rename_i e he;split at this
   ·rename_i n el hu;simp only [and_eq_true,Zad] at this;obtain ⟨⟨hn,hel⟩,hz⟩:=this;subst hn;refine ⟨e,el,he,hu,by rw [hE];exact Zbr hel,fun z hzz=>?_⟩;rw [hzz] at hz;exact Zcy _ _ hz
   ·cases this
  ·cases this
def Zbk (pol:FuncId->Bool) (P:Program) (g:FuncId) (sp:FSp):Prop:=∀ x r,sp.f x=some r->ZeH P (Zc8 pol (Zaf pol) P) g (Zjm sp.dom x)=some (ZvU sp.cod r)
theorem Zpx {pol:FuncId->Bool}:∀ {l:List (FuncId×FSp)},(∀ p∈l,Zbk pol P p.1 p.2)->∀ {g:FuncId} {sp:FSp},spL l g=some sp->Zbk pol P g sp
 | [],_,_,_,h=>by cases h
 | p::l,ha,g,sp,h=>by
  simp only [spL] at h;cases hb:p.1.beq g<;>rw [hb] at h
  ·exact Zpx (fun q hq=>ha q (List.mem_cons_of_mem _ hq)) h
  ·cases h;have:=ha p (by simp)
   rwa [Zad.1 hb] at this
theorem ZrE (cod:List Ty) (r:Zfj cod) (h:(cod.all fun t=>!t.isProd)=true):Zwf (ZvU cod r)=ZlO cod:=by
 match cod,r,h with
 | [],_,_=>rfl
 | t::u::ts,_,_=>cases t<;>rfl
 | [t],r,h=>
  cases t<;>first | rfl | skip
  case optr t=>cases r<;>rfl
  ·simp [Ty.isProd] at h
  ·exact nomatch r
theorem ZFv:∀ (ts:List Ty) (x:Zfj ts),(ts.all fun t=>!t.isProd)=true->(Zjm ts x).all Zwf=ts.all fun t=>ZlO [t]
 | [],_,_=>rfl
 | [t],x,h=>by
  have:=ZrE [t] x h;show (Zwf (t.enc x)&&true)=(ZlO [t]&&true)
  rw [<-this];rfl
 | t::u::ts,x,h=>by
  rw [List.all_cons,and_eq_true] at h;have h1:([t].all fun t=>!t.isProd)=true:=by rw [List.all_cons,h.1];rfl
  have:=ZrE [t] x.1 h1;show (Zwf (t.enc x.1)&&(Zjm (u::ts) x.2).all Zwf)=(ZlO [t]&&(u::ts).all fun t=>ZlO [t])
  rw [ZFv (u::ts) x.2 h.2,<-this];rfl
theorem ZFH (cod:List Ty) (r:Zfj cod) (h:(cod.all fun t=>!t.isProd)=true):ZF7 (ZvU cod r)=ZFS cod:=by
 match cod,r,h with
 | [],_,_=>rfl
 | t::u::ts,r,h=>exact ZFv (t::u::ts) r h
 | [t],r,h=>
  cases t<;>first | rfl | skip
  case optr t=>cases r<;>rfl
  ·simp [Ty.isProd] at h
  ·exact nomatch r
def ZdA (pol:FuncId->Bool) (P:Program) (g:FuncId) (sp:Zbc):Prop:=sp.ok=true/\sp.inSh.ok=true/\sp.outSh.ok=true/\IOk (Zch pol P (Zc8 pol (Zaf pol) P)) g sp
theorem Zpy {pol:FuncId->Bool}:∀ {l:List (FuncId×Zbc)},(∀ p∈l,ZdA pol P p.1 p.2)->∀ {g:FuncId} {vs:List V2} {sp:Zbc},imL l g vs=some sp->ZdA pol P g sp
 | [],_,_,_,_,h=>by cases h
 | p::l,ha,g,vs,sp,h=>by
  simp only [imL] at h;cases hb:(p.1.beq g&&Zrr p.2.ins vs)<;>rw [hb] at h
  ·exact Zpy (fun q hq=>ha q (List.mem_cons_of_mem _ hq)) h
  ·cases h;have:=ha p (by simp);rw [and_eq_true] at hb
   rwa [Zad.1 hb.1] at this
theorem kOk {pol:FuncId->Bool} {l:List (FuncId×FSp)} {m:List (FuncId×Zbc)} (hp:E.pol=pol) (hE:E.sp=spL l) (hI:E.im=imL m) (hln:E.ln=Mx.ln) (ha:∀ p∈l,Zbk pol P p.1 p.2) (hb:∀ p∈m,ZdA pol P p.1 p.2):KOk E (Zch pol P (Zc8 pol (Zaf pol) P)):=by
 refine ⟨fun g vs sp _ hg=>Zpy hb (by rw [<-hI];exact hg),?_,?_⟩
 ·intro g sp hg hsp hc x r hx args S S1 hm;rw [hp] at hg;rw [hE] at hsp;have h1:=Zpx ha hsp x r hx;unfold Zch;rw [hg,cond_true];unfold ZfN;rw [show ZbW=1000 from rfl,hm,Zap];dsimp only;rw [h1,Zap,ZrE _ _ hc,ZFH _ _ hc,hln]
 ·intro g hg args S u S' h;rw [hp] at hg;unfold Zch at h;rw [hg,cond_true] at h;unfold ZfN at h;simp only [Zaa,injEq,Prod.mk.injEq] at h;obtain ⟨⟨as,S1⟩,h1,q,_,_,h2⟩:=h;have:=ZiK (Zkg ZbW) _ _ _ _ h1;dsimp only at h2;cases hf:(Zwf q||(Mx.ln g&&ZF7 q))<;>rw [hf] at h2
  ·rw [cond_false] at h2;subst h2;exact this
  ·rw [cond_true] at h2;subst h2;exact ⟨rfl,fun _=>rfl⟩
structure ZqA (P:Program) (pol:FuncId->Bool) (pl:List Oper->Option (List PS)) (f:FuncId) (np:Nat) (d:FA):Prop where
 body:∃ fn c,P.funcs[f]?=some fn/\fn.body=some c/\fn.ntmps=d.nt/\fn.results.toList=d.rs/\Znu pl c=some d.c.er
 np:np<=d.nt
theorem ZiP:∀ (ts:List Ty) (x:Zfj ts),(Zjm ts x).length=ts.length
 | [],_=>rfl
 | [_],_=>rfl
 | t::u::ts,x=>by
  show (Zjm (u::ts) x.2).length+1=_;rw [ZiP (u::ts) x.2];rfl
theorem Zmo {f:St->AV->Option (AV×St)}:∀ (l:List AV) {S S':St} {q:List AV},ZbN f S l=some (q,S')->q.length=l.length
 | [],S,S',q,h=>by cases h;rfl
 | x::l,S,S',q,h=>by
  simp only [ZbN,Zaa,injEq,Prod.mk.injEq] at h;obtain ⟨_,_,⟨q1,S1⟩,h1,rfl,_⟩:=h;simp [Zmo l h1]
theorem ZwC (cod:List Ty) (r:Zfj cod) (us:List AV) (S S1:St) (h:ZbN (frz (ZoN cod)) S us=some (Zjm cod r,S1)):frz ZbW S (ZqE us)=some (ZvU cod r,S1):=by
 have hl:=Zmo _ h;rw [ZiP] at hl
 match cod,r,h,hl with
 | [t],r,h,hl=>
  match us,hl with
  | [u],_=>
   simp only [ZbN,Zaa,injEq,Prod.mk.injEq] at h;obtain ⟨⟨q,S3⟩,e4,⟨q2,S4⟩,e5,e6,e7⟩:=h;cases e5;dsimp only at e6 e7;subst e7;show frz 1000 S u=_;have e8:frz 1000 S u=some (q,S3):=e4;rw [e8];have:q=t.enc r:=by
    have:q::[]=[t.enc r]:=e6;injection this
   rw [this];rfl
 | [],r,h,hl=>
  match us,hl with
  | [],_=>
   have e:frz ZbW S (ZqE [])=(ZbN (frz 999) S []).ob fun q=>some (.tup q.1,q.2):=rfl;have h':ZbN (frz 999) S []=some (Zjm [] r,S1):=h;rw [e,h',Zap];rfl
 | t::u::ts,r,h,hl=>
  match us,hl with
  | x::y::us,_=>
   show (ZbN (frz 999) S (x::y::us)).ob _=_;have h':ZbN (frz 999) S (x::y::us)=some (Zjm (t::u::ts) r,S1):=h;rw [h',Zap];rfl
theorem ZwD {pol:FuncId->Bool} {f:FuncId} {np:Nat} {d:FA} (hf:ZqA P pol (Zaf pol) f np d) (hx:∀ args,Mx.x f args=none) (H:TyR P E) (HK:KOk E (Zch pol P (Zc8 pol (Zaf pol) P))) (hok:d.c.ok=true)
 {dom cod:List Ty} (hd:(dom.all fun t=>!t.isProd)=true) (hn:dom.length=np) {x:Zfj dom} {r:Zfj cod} (h:Z0G E d dom cod x=some r) :
 ZeH P (Zc8 pol (Zaf pol) P) f (Zjm dom x)=some (ZvU cod r):=by
 unfold Z0G at h;have R:Rel ⟨fun _=>False,fun _=>False,.lf,fun _ _=>.nilp⟩ (fun _=>.nils) (fun _ _=>False) ⟨ZkV dom x 0,.lf,0⟩ (ZcP (Zjm dom x) 0) ⟨.lf,0⟩:=
  {slots:=Zmn dom x 0 hd
   chunks:=fun c ck h=>by simp at h
   dis:=fun c c' ck ck' h=>by simp at h
   lt:=fun c ck h=>by simp at h
   nx:=fun c ck h=>by simp at h
   fex:=fun _ h=>h.elim
   fro:=fun _ h=>h.elim
   dex:=fun c ck h=>by simp at h
   dro:=fun c ck h=>by simp at h }
 obtain ⟨y,T',S',s',a',fp',e1,n1,R',_,h⟩:=Zpt H HK d.c hok R h;have hy:y.back=true:=by cases y<;>first | rfl | cases h
 have hr:(ZkW E s' d.rs).ob (fun vs=>(fzL (fzV (ZoN cod)) cod vs s'.H).ob fun p=>some p.1)=some r:=by cases y with
  | n=>exact h
  | e i=>cases h
  | r=>exact h
 simp only [Zaa,injEq] at hr;obtain ⟨vs,h1,⟨r',H'⟩,h2,rfl⟩:=hr;obtain ⟨us,e2,r2⟩:=Zlf H R' h1;obtain ⟨S2',e3,_,_⟩:=Zma (ZdN _) cod R' h2 r2;obtain ⟨⟨fn,c,hfn,hb,hnt,hrs,hsl⟩,hnp⟩:=hf;have hcall:Zd8 P (Zc8 pol (Zaf pol) P) f (Zjm dom x) ⟨.lf,0⟩=some (ZqE us,S'):=by
  unfold Zd8;rw [hfn,Zap,hb,Zap];have hle:Nat.ble (Zjm dom x).length fn.ntmps=true:=Zah.2 (by rw [ZiP,hn,hnt];exact hnp);rw [hle,Znq,Zap,ZlM c _ hsl,hnt,e1,Zap,hy,Znq,Zap];dsimp only;rw [hrs,e2,Zap]
 unfold ZeH;rw [hx];dsimp only;rw [hcall,Zap];dsimp only;rw [ZwC cod r' us S' S2' e3,Zap]
theorem Zpz {F:Fr} {a:Nat->AV} {fp:Nat->Nat->Prop} {s:S2} {T:Tm} {S:St} (R:Rel F a fp s T S) {us:List AV}:∀ {anc:List (Nat×SV)} {ws:List V2},(∀ q∈anc,T.get q.1=(ZcP us 0).get q.1)->Zwq s.T anc=some ws->Zbl s.nx a ws (anc.map fun q=>us.getD q.1 .nils)
 | [],ws,_,h=>by cases h;exact .nil
 | q::qs,ws,hT,h=>by
  simp only [Zwq,Zaa,injEq] at h;obtain ⟨v,h1,vs,h2,rfl⟩:=h;obtain ⟨u,e1,r1⟩:=R.slots _ _ h1;rw [hT q (by simp)] at e1;have e2:=Zc4 us 0 q.1;rw [Nat.zero_add] at e2;rw [e2] at e1;refine .cons ?_ (Zpz R (fun p hp=>hT p (by simp [hp])) h2);show VR2 s.nx a v (us.getD q.1 .nils);rw [List.getD_eq_getElem?_getD,e1];exact r1
theorem Zu1 {pol:FuncId->Bool} {f:FuncId} {np:Nat} {d:FA} (hf:ZqA P pol (Zaf pol) f np d) (hpol:pol f=false) (H:TyR P E) (HK:KOk E (Zch pol P (Zc8 pol (Zaf pol) P))) (hok:d.c.ok=true)
 {sp:Zbc} (hs:sp.ok=true) (hin:sp.inSh.ok=true) (hout:sp.outSh.ok=true) (hn:sp.ins.length=np) (hr:d.rs.length=sp.outs.length) (ha:(sp.anc.all fun q=>!d.c.asg q.1)=true)
 (h:∀ x,Zwr E d sp.ins sp.cks sp.outs sp.anc sp.couts x=sp.f x):ZdA pol P f sp:=by
 refine ⟨hs,hin,hout,?_⟩;intro F a fp us S x y R hul hy;rw [<-h x] at hy;obtain ⟨z,T',S',s',a',fp',e1,n1,R',hasg,hy⟩:=Zpt H HK d.c hok R hy;have hz:z.back=true:=by cases z<;>first | rfl | cases hy
 have hr2:(ZkW E s' d.rs).ob (fun vs=>(Zwq s'.T sp.anc).ob fun ws=>prj sp.outSh ⟨Zg8 (vs++ws) 0,s'.H,s'.nx⟩)=some y:=by cases z with
  | n=>exact hy
  | e i=>cases hy
  | r=>exact hy
 simp only [Zaa] at hr2;obtain ⟨vs,h1,ws,h2,h3⟩:=hr2;obtain ⟨us',e2,r2⟩:=Zlf H R' h1;have r3:=Zpz R' (us:=us) (fun q hq=>by
  have:=List.all_eq_true.1 ha q hq;rw [Bool.not_eq_true'] at this;exact hasg q.1 this) h2
 have hl:us'.length=sp.outs.length:=by
  have:∀ (rs:List ResultVar) (us':List AV),Zhq P T' S' rs=some us'->us'.length=rs.length:=by
   intro rs
   induction rs with
   | nil=>intro us' h;cases h;rfl
   | cons q rs ih=>
    intro us' h;simp only [Zhq,Zaa,injEq] at h;obtain ⟨_,_,_,h5,rfl⟩:=h;simp [ih _ h5]
  rw [this _ _ e2,hr]
 have hv:=r2.append r3;have R0:Rel F a fp ⟨.lf,.lf,0⟩ (ZcP (us'++sp.anc.map fun q=>us.getD q.1 .nils) 0) S':=
  {slots:=fun k v h=>by simp at h
   chunks:=fun k v h=>by simp at h
   dis:=fun k v _ _ h=>by simp at h
   lt:=fun k v h=>by simp at h
   nx:=fun k v h=>by simp at h
   fex:=R'.fex
   fro:=R'.fro
   dex:=fun k v h=>by simp at h
   dro:=fun k v h=>by simp at h }
 have Ra:Rel (F.fix ⟨.lf,.lf,0⟩ fp sp.outSh.fixed S') a' fp' ⟨Zg8 (vs++ws) 0,s'.H,s'.nx⟩ (ZcP (us'++sp.anc.map fun q=>us.getD q.1 .nils) 0) S':=
  {slots:=by
    intro k v h;obtain ⟨j,rfl,hj⟩:=ZgK _ 0 k v h;obtain ⟨u,h1,h2⟩:=hv.get hj;exact ⟨u,by rw [Zc4];exact h1,h2⟩
   chunks:=R'.chunks
   dis:=R'.dis
   lt:=R'.lt
   nx:=R'.nx
   fex:=fun n hn=>⟨rfl,(R'.fex n hn).2⟩
   fro:=by
    rintro n (hn | ⟨c,⟨k,hk,_⟩,_⟩)
    ·exact ⟨rfl,(R'.fro n hn).2⟩
    ·exact nomatch hk
   dex:=R'.dex
   dro:=by
    rintro c ck hc hw n hf (hn | ⟨c,⟨k,hk,_⟩,_⟩)
    ·exact R'.dro c ck hc hw n hf hn
    ·exact nomatch hk }
 obtain ⟨a2,fp2,R2⟩:=ZiG R0 hout Ra (fun k hk=>nomatch hk) (Nat.le_refl _) h3;have R3:=R0.unfix R2 (Nat.le_refl _);obtain ⟨⟨fn,c,hfn,hb,hnt,hrs,hsl⟩,hnp⟩:=hf;refine ⟨us',S',a2,fp2,?_,hl,n1,R3⟩;unfold Zch;rw [hpol,cond_false];unfold Zd8;rw [hfn,Zap,hb,Zap];have hle:Nat.ble us.length fn.ntmps=true:=Zah.2 (by rw [hul,hn,hnt];exact hnp);rw [hle,Znq,Zap,ZlM c _ hsl,hnt,e1,Zap,hz,Znq,Zap];dsimp only;rw [hrs,e2,Zap]
end
end Go.Eng
