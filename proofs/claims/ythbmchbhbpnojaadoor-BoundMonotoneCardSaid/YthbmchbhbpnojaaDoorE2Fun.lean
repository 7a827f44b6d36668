/-
 The second engine: whole functions, and the tables of a program.
-/
import Derived.Test.YthbmchbhbpnojaaDoorE2Top
namespace Go.Eng
set_option linter.unusedVariables false
set_option linter.unusedSectionVars false
section
variable [Gl] [Mx] {P:Program} {K:CallK} {E:Env2}

noncomputable def tokE (P:Program) (l:List (TypeId×Ty)) (str:TypeId->Bool) (p:TypeId×Ty):Bool:=match te P p.1 with
 | some e=>e.size.beq p.2.size&&(isAggD e.und==p.2.agg)&&Nat.ble e.bytes 1000&&sames e.zero.cells p.2.zcv&&undOk (tyL l) (str p.1) p.2 e.und
 | none=>false
theorem tyL_mem:∀ {l:List (TypeId×Ty)} {t:TypeId} {u:Ty},tyL l t=some u->(t,u)∈l
 | [],_,_,h=>by cases h
 | p::l,t,u,h=>by
  simp only [tyL] at h
  cases hb:p.1.beq t<;>rw [hb] at h
  ·exact List.mem_cons_of_mem _ (tyL_mem h)
  ·cases h
   have:p.1=t:=nbeq_iff.1 hb
   subst this
   simp
mutual
theorem same_eq:∀ (a b:AV),same a b=true->a=b
 | .bool a,b,h=>by cases b<;>simp [same] at h;subst h;rfl
 | .int k a,b,h=>by cases b<;>simp [same] at h;obtain ⟨rfl,rfl⟩:=h;rfl
 | .str a,b,h=>by cases b<;>simp [same] at h;subst h;rfl
 | .nilp,b,h=>by cases b<;>simp [same] at h;rfl
 | .mp n o,b,h=>by cases b<;>simp [same] at h;obtain ⟨rfl,rfl⟩:=h;rfl
 | .fp a,b,h=>by cases b<;>simp [same] at h;rw [sames_eq _ _ h]
 | .nils,b,h=>by cases b<;>simp [same] at h;rfl
 | .ms n o l c z,b,h=>by cases b<;>simp [same] at h;obtain ⟨⟨⟨⟨rfl,rfl⟩,rfl⟩,rfl⟩,rfl⟩:=h;rfl
 | .fs a l,b,h=>by cases b<;>simp [same] at h;obtain ⟨rfl,h⟩:=h;rw [sames_eq _ _ h]
 | .pa n l z,b,h=>by cases b<;>simp [same] at h;obtain ⟨⟨rfl,rfl⟩,rfl⟩:=h;rfl
 | .nilm,b,h=>by cases b<;>simp [same] at h;rfl
 | .map n,b,h=>by cases b<;>simp [same] at h;subst h;rfl
 | .nilf,b,h=>by cases b<;>simp [same] at h;rfl
 | .func f a c,b,h=>by cases b<;>simp [same] at h;obtain ⟨⟨rfl,h1⟩,h2⟩:=h;rw [sames_eq _ _ h1,sames_eq _ _ h2]
 | .nili,b,h=>by cases b<;>simp [same] at h;rfl
 | .iface t x,b,h=>by cases b<;>simp [same] at h;obtain ⟨rfl,h⟩:=h;rw [same_eq _ _ h]
 | .agg a,b,h=>by cases b<;>simp [same] at h;rw [sames_eq _ _ h]
 | .tup a,b,h=>by cases b<;>simp [same] at h;rw [sames_eq _ _ h]
theorem sames_eq:∀ (a b:List AV),sames a b=true->a=b
 | [],b,h=>by cases b<;>simp [sames] at h;rfl
 | x::xs,b,h=>by
  cases b with
  | nil=>simp [sames] at h
  | cons y ys=>simp [sames] at h;rw [same_eq _ _ h.1,sames_eq _ _ h.2]
end
def mtL:List (TypeId×Ty×Ty)->TypeId->Option (Ty×Ty)
 | [],_=>none
 | p::l,t=>bif p.1.beq t then some p.2 else mtL l t
theorem mtL_mem:∀ {l:List (TypeId×Ty×Ty)} {t:TypeId} {u:Ty×Ty},mtL l t=some u->(t,u)∈l
 | [],_,_,h=>by cases h
 | p::l,t,u,h=>by
  simp only [mtL] at h
  cases hb:p.1.beq t<;>rw [hb] at h
  ·exact List.mem_cons_of_mem _ (mtL_mem h)
  ·cases h
   have:p.1=t:=nbeq_iff.1 hb
   subst this
   simp
noncomputable def mtokE (P:Program) (l:List (TypeId×Ty)) (p:TypeId×Ty×Ty):Bool:=match te P p.1 with
 | some e=>match mapOf e.und with
  | some ke=>match te P ke.2 with
   | some et=>tyEq (tyL l ke.1) p.2.1&&(match zSc p.2.2 with | some z=>same et.zero (p.2.2.enc z) | none=>true)
   | none=>false
  | none=>false
 | none=>false
def arL:List (TypeId×Ty×Nat)->TypeId->Option (Ty×Nat)
 | [],_=>none
 | p::l,t=>bif p.1.beq t then some p.2 else arL l t
theorem arL_mem:∀ {l:List (TypeId×Ty×Nat)} {t:TypeId} {u:Ty×Nat},arL l t=some u->(t,u)∈l
 | [],_,_,h=>by cases h
 | p::l,t,u,h=>by
  simp only [arL] at h
  cases hb:p.1.beq t<;>rw [hb] at h
  ·exact List.mem_cons_of_mem _ (arL_mem h)
  ·cases h
   have:p.1=t:=nbeq_iff.1 hb
   subst this
   simp
noncomputable def arokE (P:Program) (l:List (TypeId×Ty)) (p:TypeId×Ty×Nat):Bool:=match te P p.1 with
 | some e=>match e.und with
  | .array n el=>n.beq p.2.2&&tyEq (tyL l el) p.2.1&&(match p.2.1.zden with | some z=>sames e.zero.cells (List.flatMap p.2.1.cells (List.replicate p.2.2 z)) | none=>true)
  | _=>false
 | none=>false
theorem tyR_of {l:List (TypeId×Ty)} {ml:List (TypeId×Ty×Ty)} {al:List (TypeId×Ty×Nat)} {str:TypeId->Bool} (hE:E.ty=tyL l) (hs:E.str=str) (hf:E.sf=Mx.st) (hm:E.mt=mtL ml) (ha:E.ar=arL al) (hma:∀ t,Mx.ar t=(arL al t).isSome) (h3:(al.all fun p=>arokE P l p)=true) (h:(l.all fun p=>tokE P l str p)=true) (h2:(ml.all fun p=>mtokE P l p)=true):TyR P E:=by
 refine ⟨fun t u ht=>?_,fun t a x=>by rw [hf],fun t k v ht=>?_,fun t p ht=>?_,fun t ht=>by rw [hma,<-ha,ht];rfl⟩
 ·rw [hE] at ht
  have:=List.all_eq_true.1 h _ (tyL_mem ht)
  unfold tokE at this
  dsimp only at this
  split at this
  ·rename_i e he
   simp only [Bool.and_eq_true,nbeq_iff,nble_iff,beq_iff_eq] at this
   obtain ⟨⟨⟨⟨h1,h2⟩,h3⟩,h4⟩,h5⟩:=this
   exact ⟨e,he,h1,h2,h3,sames_eq _ _ h4,by rw [hE,hs];exact h5⟩
  ·cases this
 ·rw [hm] at ht
  have:=List.all_eq_true.1 h2 _ (mtL_mem ht)
  unfold mtokE at this
  dsimp only at this
  split at this
  ·rename_i e he
   split at this
   ·rename_i ke hke
    split at this
    ·rename_i et het
     rw [Bool.and_eq_true] at this
     refine ⟨e,ke,et,he,hke,by rw [hE];exact tyEq_some this.1,het,fun z hz=>?_⟩
     have h3:=this.2
     rw [hz] at h3
     exact same_eq _ _ h3
    ·cases this
   ·cases this
  ·cases this
 ·rw [ha] at ht
  refine ⟨by rw [hma,ht];rfl,?_⟩
  have:=List.all_eq_true.1 h3 _ (arL_mem ht)
  unfold arokE at this
  dsimp only at this
  split at this
  ·rename_i e he
   split at this
   ·rename_i n el hu
    simp only [Bool.and_eq_true,nbeq_iff] at this
    obtain ⟨⟨hn,hel⟩,hz⟩:=this
    subst hn
    refine ⟨e,el,he,hu,by rw [hE];exact tyEq_some hel,fun z hzz=>?_⟩
    rw [hzz] at hz
    exact sames_eq _ _ hz
   ·cases this
  ·cases this

def SpOk (pol:FuncId->Bool) (P:Program) (g:FuncId) (sp:FSp):Prop:=∀ x r,sp.f x=some r->pureF P (runI pol (planOf pol) P) g (encL sp.dom x)=some (encR sp.cod r)
theorem spL_get {pol:FuncId->Bool}:∀ {l:List (FuncId×FSp)},(∀ p∈l,SpOk pol P p.1 p.2)->∀ {g:FuncId} {sp:FSp},spL l g=some sp->SpOk pol P g sp
 | [],_,_,_,h=>by cases h
 | p::l,ha,g,sp,h=>by
  simp only [spL] at h
  cases hb:p.1.beq g<;>rw [hb] at h
  ·exact spL_get (fun q hq=>ha q (List.mem_cons_of_mem _ hq)) h
  ·cases h
   have:=ha p (by simp)
   rwa [nbeq_iff.1 hb] at this
theorem flat_enc (cod:List Ty) (r:denL cod) (h:(cod.all fun t=>!t.isProd)=true):flat (encR cod r)=isFlat cod:=by
 match cod,r,h with
 | [],_,_=>rfl
 | t::u::ts,_,_=>cases t<;>rfl
 | [t],r,h=>
  cases t<;>first | rfl | skip
  case optr t=>cases r<;>rfl
  ·simp [Ty.isProd] at h
  ·exact nomatch r
def ImOk (pol:FuncId->Bool) (P:Program) (g:FuncId) (sp:ISpec):Prop:=sp.ok=true/\sp.inSh.ok=true/\sp.outSh.ok=true/\IOk (callA pol P (runI pol (planOf pol) P)) g sp
theorem imL_get {pol:FuncId->Bool}:∀ {l:List (FuncId×ISpec)},(∀ p∈l,ImOk pol P p.1 p.2)->∀ {g:FuncId} {vs:List V2} {sp:ISpec},imL l g vs=some sp->ImOk pol P g sp
 | [],_,_,_,_,h=>by cases h
 | p::l,ha,g,vs,sp,h=>by
  simp only [imL] at h
  cases hb:(p.1.beq g&&fnFit p.2.ins vs)<;>rw [hb] at h
  ·exact imL_get (fun q hq=>ha q (List.mem_cons_of_mem _ hq)) h
  ·cases h
   have:=ha p (by simp)
   rw [Bool.and_eq_true] at hb
   rwa [nbeq_iff.1 hb.1] at this
theorem kOk {pol:FuncId->Bool} {l:List (FuncId×FSp)} {m:List (FuncId×ISpec)} (hp:E.pol=pol) (hE:E.sp=spL l) (hI:E.im=imL m) (ha:∀ p∈l,SpOk pol P p.1 p.2) (hb:∀ p∈m,ImOk pol P p.1 p.2):KOk E (callA pol P (runI pol (planOf pol) P)):=by
 refine ⟨fun g vs sp _ hg=>imL_get hb (by rw [<-hI];exact hg),?_,?_⟩
 ·intro g sp hg hsp hc x r hx args S S1 hm
  rw [hp] at hg
  rw [hE] at hsp
  have h1:=spL_get ha hsp x r hx
  unfold callA
  rw [hg,cond_true]
  unfold callP
  rw [show frzFuel=1000 from rfl,hm,ob_s]
  dsimp only
  rw [h1,ob_s,flat_enc _ _ hc]
 ·intro g hg args S u S' h
  rw [hp] at hg
  unfold callA at h
  rw [hg,cond_true] at h
  unfold callP at h
  simp only [ob_some,Option.some.injEq,Prod.mk.injEq] at h
  obtain ⟨⟨as,S1⟩,h1,q,_,_,h2⟩:=h
  have:=mapS_rd (frz_rd frzFuel) _ _ _ _ h1
  dsimp only at h2
  cases hf:flat q<;>rw [hf] at h2
  ·rw [cond_false] at h2;subst h2;exact this
  ·rw [cond_true] at h2;subst h2;exact ⟨rfl,fun _=>rfl⟩
structure IsFA (P:Program) (pol:FuncId->Bool) (pl:List Oper->Option (List PS)) (f:FuncId) (np:Nat) (d:FA):Prop where
 body:∃ fn c,P.funcs[f]?=some fn/\fn.body=some c/\fn.ntmps=d.nt/\fn.results.toList=d.rs/\slim pl c=some d.c.er
 np:np<=d.nt
theorem encL_len:∀ (ts:List Ty) (x:denL ts),(encL ts x).length=ts.length
 | [],_=>rfl
 | [_],_=>rfl
 | t::u::ts,x=>by
  show (encL (u::ts) x.2).length+1=_
  rw [encL_len (u::ts) x.2];rfl
theorem mapS_len {f:St->AV->Option (AV×St)}:∀ (l:List AV) {S S':St} {q:List AV},mapS f S l=some (q,S')->q.length=l.length
 | [],S,S',q,h=>by cases h;rfl
 | x::l,S,S',q,h=>by
  simp only [mapS,ob_some,Option.some.injEq,Prod.mk.injEq] at h
  obtain ⟨_,_,⟨q1,S1⟩,h1,rfl,_⟩:=h
  simp [mapS_len l h1]
theorem fz_tup (cod:List Ty) (r:denL cod) (us:List AV) (S S1:St) (h:mapS (frz (fuelOf cod)) S us=some (encL cod r,S1)):frz frzFuel S (tupR us)=some (encR cod r,S1):=by
 have hl:=mapS_len _ h
 rw [encL_len] at hl
 match cod,r,h,hl with
 | [t],r,h,hl=>
  match us,hl with
  | [u],_=>
   simp only [mapS,ob_some,Option.some.injEq,Prod.mk.injEq] at h
   obtain ⟨⟨q,S3⟩,e4,⟨q2,S4⟩,e5,e6,e7⟩:=h
   cases e5
   dsimp only at e6 e7
   subst e7
   show frz 1000 S u=_
   have e8:frz 1000 S u=some (q,S3):=e4
   rw [e8]
   have:q=t.enc r:=by
    have:q::[]=[t.enc r]:=e6
    injection this
   rw [this];rfl
 | [],r,h,hl=>
  match us,hl with
  | [],_=>
   have e:frz frzFuel S (tupR [])=(mapS (frz 999) S []).ob fun q=>some (.tup q.1,q.2):=rfl
   have h':mapS (frz 999) S []=some (encL [] r,S1):=h
   rw [e,h',ob_s];rfl
 | t::u::ts,r,h,hl=>
  match us,hl with
  | x::y::us,_=>
   show (mapS (frz 999) S (x::y::us)).ob _=_
   have h':mapS (frz 999) S (x::y::us)=some (encL (t::u::ts) r,S1):=h
   rw [h',ob_s];rfl
theorem fun_ok {pol:FuncId->Bool} {f:FuncId} {np:Nat} {d:FA} (hf:IsFA P pol (planOf pol) f np d) (hx:∀ args,Mx.x f args=none) (H:TyR P E) (HK:KOk E (callA pol P (runI pol (planOf pol) P))) (hok:d.c.ok=true)
 {dom cod:List Ty} (hd:(dom.all fun t=>!t.isProd)=true) (hn:dom.length=np) {x:denL dom} {r:denL cod} (h:fun2 E d dom cod x=some r) :
 pureF P (runI pol (planOf pol) P) f (encL dom x)=some (encR cod r):=by
 unfold fun2 at h
 have R:Rel ⟨fun _=>False,fun _=>False,.lf⟩ (fun _=>.nils) (fun _ _=>False) ⟨args2 dom x 0,.lf,0⟩ (argsT (encL dom x) 0) ⟨.lf,0⟩:=
  {slots:=args2_ok dom x 0 hd
   chunks:=fun c ck h=>by simp at h
   dis:=fun c c' ck ck' h=>by simp at h
   lt:=fun c ck h=>by simp at h
   nx:=fun c ck h=>by simp at h
   fex:=fun _ h=>h.elim
   fro:=fun _ h=>h.elim
   dex:=fun c ck h=>by simp at h
   dro:=fun c ck h=>by simp at h }
 obtain ⟨y,T',S',s',a',fp',e1,n1,R',_,h⟩:=run2_ok H HK d.c hok R h
 have hy:y.back=true:=by cases y<;>first | rfl | cases h
 have hr:(ress2 E s' d.rs).ob (fun vs=>(fzL (fzV (fuelOf cod)) cod vs s'.H).ob fun p=>some p.1)=some r:=by cases y with
  | n=>exact h
  | e i=>cases h
  | r=>exact h
 simp only [ob_some,Option.some.injEq] at hr
 obtain ⟨vs,h1,⟨r',H'⟩,h2,rfl⟩:=hr
 obtain ⟨us,e2,r2⟩:=ress_ok H R' h1
 obtain ⟨S2',e3,_,_⟩:=fzL_ok (fzV_ok _) cod R' h2 r2
 obtain ⟨⟨fn,c,hfn,hb,hnt,hrs,hsl⟩,hnp⟩:=hf
 have hcall:callN P (runI pol (planOf pol) P) f (encL dom x) ⟨.lf,0⟩=some (tupR us,S'):=by
  unfold callN
  rw [hfn,ob_s,hb,ob_s]
  have hle:Nat.ble (encL dom x).length fn.ntmps=true:=nble_iff.2 (by rw [encL_len,hn,hnt];exact hnp)
  rw [hle,chk_t,ob_s,slim_run c _ hsl,hnt,e1,ob_s,hy,chk_t,ob_s]
  dsimp only
  rw [hrs,e2,ob_s]
 unfold pureF
 rw [hx]
 dsimp only
 rw [hcall,ob_s]
 dsimp only
 rw [fz_tup cod r' us S' S2' e3,ob_s]
theorem anc2_ok {F:Fr} {a:Nat->AV} {fp:Nat->Nat->Prop} {s:S2} {T:Tm} {S:St} (R:Rel F a fp s T S) {us:List AV}:∀ {anc:List (Nat×SV)} {ws:List V2},(∀ q∈anc,T.get q.1=(argsT us 0).get q.1)->anc2 s.T anc=some ws->VRs2 s.nx a ws (anc.map fun q=>us.getD q.1 .nils)
 | [],ws,_,h=>by cases h;exact .nil
 | q::qs,ws,hT,h=>by
  simp only [anc2,ob_some,Option.some.injEq] at h
  obtain ⟨v,h1,vs,h2,rfl⟩:=h
  obtain ⟨u,e1,r1⟩:=R.slots _ _ h1
  rw [hT q (by simp)] at e1
  have e2:=argsT_getI us 0 q.1
  rw [Nat.zero_add] at e2
  rw [e2] at e1
  refine .cons ?_ (anc2_ok R (fun p hp=>hT p (by simp [hp])) h2)
  show VR2 s.nx a v (us.getD q.1 .nils)
  rw [List.getD_eq_getElem?_getD,e1]
  exact r1
theorem ifun_ok {pol:FuncId->Bool} {f:FuncId} {np:Nat} {d:FA} (hf:IsFA P pol (planOf pol) f np d) (hpol:pol f=false) (H:TyR P E) (HK:KOk E (callA pol P (runI pol (planOf pol) P))) (hok:d.c.ok=true)
 {sp:ISpec} (hs:sp.ok=true) (hin:sp.inSh.ok=true) (hout:sp.outSh.ok=true) (hn:sp.ins.length=np) (hr:d.rs.length=sp.outs.length) (ha:(sp.anc.all fun q=>!d.c.asg q.1)=true)
 (h:∀ x,ifun2 E d sp.ins sp.cks sp.outs sp.anc sp.couts x=sp.f x):ImOk pol P f sp:=by
 refine ⟨hs,hin,hout,?_⟩
 intro F a fp us S x y R hul hy
 rw [<-h x] at hy
 obtain ⟨z,T',S',s',a',fp',e1,n1,R',hasg,hy⟩:=run2_ok H HK d.c hok R hy
 have hz:z.back=true:=by cases z<;>first | rfl | cases hy
 have hr2:(ress2 E s' d.rs).ob (fun vs=>(anc2 s'.T sp.anc).ob fun ws=>prj sp.outSh ⟨listT (vs++ws) 0,s'.H,s'.nx⟩)=some y:=by cases z with
  | n=>exact hy
  | e i=>cases hy
  | r=>exact hy
 simp only [ob_some] at hr2
 obtain ⟨vs,h1,ws,h2,h3⟩:=hr2
 obtain ⟨us',e2,r2⟩:=ress_ok H R' h1
 have r3:=anc2_ok R' (us:=us) (fun q hq=>by
  have:=List.all_eq_true.1 ha q hq
  rw [Bool.not_eq_true'] at this
  exact hasg q.1 this) h2
 have hl:us'.length=sp.outs.length:=by
  have:∀ (rs:List ResultVar) (us':List AV),ressA P T' S' rs=some us'->us'.length=rs.length:=by
   intro rs
   induction rs with
   | nil=>intro us' h;cases h;rfl
   | cons q rs ih=>
    intro us' h
    simp only [ressA,ob_some,Option.some.injEq] at h
    obtain ⟨_,_,_,h5,rfl⟩:=h
    simp [ih _ h5]
  rw [this _ _ e2,hr]
 have hv:=r2.append r3
 have R0:Rel F a fp ⟨.lf,.lf,0⟩ (argsT (us'++sp.anc.map fun q=>us.getD q.1 .nils) 0) S':=
  {slots:=fun k v h=>by simp at h
   chunks:=fun k v h=>by simp at h
   dis:=fun k v _ _ h=>by simp at h
   lt:=fun k v h=>by simp at h
   nx:=fun k v h=>by simp at h
   fex:=R'.fex
   fro:=R'.fro
   dex:=fun k v h=>by simp at h
   dro:=fun k v h=>by simp at h }
 have Ra:Rel (F.fix ⟨.lf,.lf,0⟩ fp sp.outSh.fixed S') a' fp' ⟨listT (vs++ws) 0,s'.H,s'.nx⟩ (argsT (us'++sp.anc.map fun q=>us.getD q.1 .nils) 0) S':=
  {slots:=by
    intro k v h
    obtain ⟨j,rfl,hj⟩:=listT_get _ 0 k v h
    obtain ⟨u,h1,h2⟩:=hv.get hj
    exact ⟨u,by rw [argsT_getI];exact h1,h2⟩
   chunks:=R'.chunks
   dis:=R'.dis
   lt:=R'.lt
   nx:=R'.nx
   fex:=fun n hn=>⟨rfl,(R'.fex n hn).2⟩
   fro:=by
    rintro n (hn | ⟨c,⟨k,hk,_⟩,_⟩)
    ·exact ⟨rfl,(R'.fro n hn).2⟩
    ·exact nomatch hk
   dex:=R'.dex
   dro:=by
    rintro c ck hc hw n hf (hn | ⟨c,⟨k,hk,_⟩,_⟩)
    ·exact R'.dro c ck hc hw n hf hn
    ·exact nomatch hk }
 obtain ⟨a2,fp2,R2⟩:=prj_emb R0 hout Ra (fun k hk=>nomatch hk) (Nat.le_refl _) h3
 have R3:=R0.unfix R2 (Nat.le_refl _)
 obtain ⟨⟨fn,c,hfn,hb,hnt,hrs,hsl⟩,hnp⟩:=hf
 refine ⟨us',S',a2,fp2,?_,hl,n1,R3⟩
 unfold callA
 rw [hpol,cond_false]
 unfold callN
 rw [hfn,ob_s,hb,ob_s]
 have hle:Nat.ble us.length fn.ntmps=true:=nble_iff.2 (by rw [hul,hn,hnt];exact hnp)
 rw [hle,chk_t,ob_s,slim_run c _ hsl,hnt,e1,ob_s,hz,chk_t,ob_s]
 dsimp only
 rw [hrs,e2,ob_s]
end
end Go.Eng
