import Derived.Test.YtipafbfdjfbkbaaGreatDoorE2Plan2
import Derived.Test.YtipafbfdjfbkbaaGreatDoorEngPlan
set_option linter.unusedSimpArgs false
set_option linter.unusedVariables false
set_option linter.unusedSectionVars false
open List (mem_singleton all_eq_true mem_append isEmpty_iff)
open Bool (and_eq_true not_eq_true')
open Option.some (injEq)
open Nat (lt_of_lt_of_le le_refl le_trans)
namespace Go.Eng
section
variable [Gl] [Mx] {P:Program} {K:ZcY} {E:Zcn} {F:Fr} {a:Nat->AV} {fp:Nat->Nat->Prop} {s s0:S2} {T:Tm} {S S':St} {α:Type} {r:α}
noncomputable def bOf:AV->List Nat
 | .pa q _ _=>[q]
 | v=>Za8 v
theorem Zpq {v:AV} {n:Nat} (h:n∈Za8 v):n∈bOf v:=by cases v<;>first | exact h | simp [Za8] at h
theorem Zcr.names {ρ:Nat->Nat->AV} {m:Nat} {h:Tr AB} {fpc:Nat->Prop} {v:AV}:∀ {ck:C2},Zcr ρ m a h fpc v ck->ck.isLnk=false->∀ n∈bOf v,fpc n
 | .box l w,⟨n,cs,h1,h2,_⟩,_,m,hm=>by subst h1;simp [bOf,Za8] at hm;subst hm;exact h2
 | .own t l w,⟨_,h⟩,_,m,hm=>by
  rcases h with ⟨_,h⟩ | ⟨_,h⟩ | ⟨q,o,cap,cs,pre,post,h1,h2⟩
  ·subst h;simp [bOf,Za8] at hm
  ·subst h;simp [bOf,Za8] at hm
  ·subst h1;simp [bOf,Za8] at hm;subst hm;exact h2.fp
 | .lit t n l w,⟨q,cs,h1,h2,_⟩,_,m,hm=>by subst h1;simp [bOf,Za8] at hm;subst hm;exact h2
 | .map k v' es,⟨n,cs,clk,h1,h2,_⟩,_,m,hm=>by subst h1;simp [bOf,Za8] at hm;subst hm;exact h2
 | .arr t l,⟨q,cs,h1,h2,_⟩,_,m,hm=>by subst h1;simp [bOf] at hm;subst hm;exact h2
 | .lnk d _ n z,_,hl,m,hm=>by cases hl
 | .mix t l e,⟨_,q,o,cap,cs,pre,post,h1,h2,_⟩,_,m,hm=>by subst h1;simp [bOf,Za8] at hm;subst hm;exact h2
 | .own2 t l e,h0,_,m,hm=>by
  rcases h0.2 with ⟨_,h⟩ | ⟨q,o,cap,cs,pre,post,h1,h2,_⟩
  ·subst h;simp [bOf,Za8] at hm
  ·subst h1;simp [bOf,Za8] at hm;subst hm;exact h2
theorem VR2.names {m:Nat} {v:V2} {u:AV} (h:VR2 m a v u) (hp:isPin v=false):∀ n∈Za8 u,∃ c∈v.cks,n∈bOf (a c):=by
 intro n hn;cases h with
 | pin _=>cases hp
 | dat d=>
  rename_i t x;exfalso;cases t
  case st=>obtain ⟨_,rfl,_⟩:=DR.st.1 d;simp [Za8] at hn
  case tree k=>obtain ⟨_,rfl,_⟩:=(show ∃ cs,u=.agg cs/\NRs (Ty.cells (.tree k) x) cs from d);simp [Za8] at hn
  case prod=>exact ZkX d
  case int=>have:=DR.int d;subst this;simp [Za8] at hn
  case bool=>have:=DR.bool d;subst this;simp [Za8] at hn
  case str=>have:=DR.str d;subst this;simp [Za8] at hn
  case ptr=>have:=DR.ptr d;subst this;simp [Za8] at hn
  case optr=>rcases DR.optr d with ⟨_,e⟩ | ⟨_,_,e⟩<;>subst e<;>simp [Za8] at hn
  case list=>rcases DR.list d with e | ⟨_,e⟩<;>subst e<;>simp [Za8] at hn
  case opq=>exact nomatch x
 | sl hc ho=>exact ⟨_,mem_singleton.2 rfl,Zpq hn⟩
 | mp hc ho=>exact ⟨_,mem_singleton.2 rfl,Zpq hn⟩
 | ea hc hb=>exact ⟨_,mem_singleton.2 rfl,by rw [hb];exact hn⟩
 | bx hc hb=>exact ⟨_,mem_singleton.2 rfl,by rw [hb];exact hn⟩
 | el hc hb=>exact ⟨_,mem_singleton.2 rfl,by rw [hb];exact hn⟩
 | elf hc hb=>simp [Za8] at hn
 | nsl h1 h2=>
  rename_i z _ _;cases z
  ·rw [(h2 rfl).2] at hn;simp [Za8] at hn
  ·rw [(h1 rfl).2] at hn;simp [Za8] at hn
 | _=>simp [Za8] at hn
theorem ZhN (R:Rel F a fp s T S) {x:Operand} {v:V2} (hv:ev2 s x=some v) {u:AV} (hu:ev T x=some u) (hl:ZoM s.H (ZnO s x)=true) (hp:isPin v=false):∀ n∈Za8 u,∃ c∈ZnO s x,∃ ck,s.H.get c=some ck/\ck.isLnk=false/\n∈bOf (a c):=by
 intro n hn;obtain ⟨u',e1,r1⟩:=Zbd R hv;rw [hu] at e1;cases e1;obtain ⟨c,hc,hm⟩:=r1.names hp n hn;have hk:c∈ZnO s x:=by unfold ZnO;rw [hv];exact hc
 have:=all_eq_true.1 hl c hk;cases hg:s.H.get c with
 | none=>rw [hg] at this;cases this
 | some ck=>rw [hg] at this;exact ⟨c,hk,ck,hg,by simpa using this,hm⟩
theorem ZHu {α:Type} {k:K2 α} (t1 t2:TypeId):Zrn E s t1 t2 .pin k=none:=by
 unfold Zrn;cases E.ty t1 with
 | none=>rfl
 | some u=>cases E.ty t2 with
  | none=>rfl
  | some w=>cases u with
   | list t=>cases t with
    | int j=>cases j<;>cases w<;>rfl
    | _=>cases w<;>rfl
   | _=>cases w<;>rfl
theorem ZIA (H':Tr C2) (n:Nat) (x:Operand):ev2 ⟨s.T,H',n⟩ x=ev2 s x:=by cases x<;>rfl
theorem ZIa (H':Tr C2) (n:Nat):∀ l:List Operand,ZoD ⟨s.T,H',n⟩ l=ZoD s l
 | []=>rfl
 | x::l=>by simp only [ZoD,ZIA,ZIa H' n l]
theorem ZHK (H':Tr C2) (n:Nat) (o:Op):ZG1 E ⟨s.T,H',n⟩ o=ZG1 E s o:=by
 unfold ZG1;cases o<;>try rfl
 rename_i c;obtain ⟨callee,args,ts⟩:=c;cases callee<;>try rfl
 dsimp only;rw [ZIa,ZIA]
theorem Zn6 {o:Op} {rd:List Nat} {k:K2 α} (H:TyR P E) (R:Rel F a fp s T S) (hr:rd2 s o=some rd) (h:op2 E o s k=some r) (hl:ZoM s.H rd=true) {u:AV} (ho:opK P K o T S=some (u,S')) :
 (∀ n∈Zdg T o,∃ c∈rd,∃ ck,s.H.get c=some ck/\ck.isLnk=false/\n∈bOf (a c)) /\
 ∀ (h':Tr AB) (m:Nat),(∀ n∈Zdg T o,rdB (h'.get n)=rdB (S.heap.get n))->∃ S'',opK P (fun _ _ _=>none) o T ⟨h',m⟩=some (u,S''):=by
 cases o<;>try (cases hr;done)
 case load t x=>
  cases hr;have h0:∃ v,ev2 s x=some v/\isPin v=false/\∃ w,E.ty t=some w:=by
   simp only [op2,Zaa] at h;obtain ⟨p,h1,h⟩:=h;refine ⟨p,h1,by cases p<;>first | rfl | (simp only [Zg9,Zaa] at h;obtain ⟨_,_,h⟩:=h;cases h),?_⟩;split at h
   ·split at h
    ·simp only [Zrk,Zaa] at h;obtain ⟨u,h2,_⟩:=h;exact ⟨u,h2⟩
    ·simp only [ZSz,Zaa] at h;obtain ⟨u,h2,_⟩:=h;exact ⟨u,h2⟩
    ·simp only [Zg9,Zaa] at h;obtain ⟨u,h2,_⟩:=h;exact ⟨u,h2⟩
   ·simp only [Zg9,Zaa] at h;obtain ⟨u,h2,_⟩:=h;exact ⟨u,h2⟩
  obtain ⟨v,h1,hpv,w,h2⟩:=h0;obtain ⟨e,he,ok⟩:=H.ok _ _ h2;obtain ⟨c,e1,r1⟩:=Zbd R h1;refine ⟨?_,?_⟩
  ·simp only [Zdg,e1];exact ZhN R h1 e1 hl hpv
  ·intro h' m hh;simp only [Zdg,e1] at hh;simp only [opK,aOp,he,e1,Zap,Zaa,injEq,Prod.mk.injEq] at ho |-
   obtain ⟨u',ho,rfl,_⟩:=ho;refine ⟨_,u',?_,rfl,rfl⟩;cases c<;>simp only [Zd6,reduceCtorEq] at ho |-
   ·rename_i n off;rw [ZbR] at ho |-
    rw [hh n (by simp [Za8])];exact ho
   ·exact ho
 case convert t1 t2 x=>
  cases hr;simp only [op2,Zaa] at h;obtain ⟨v,h1,hcv⟩:=h;have hpv:isPin v=false:=by
   cases v<;>first | rfl | skip
   rw [ZHu] at hcv;cases hcv
  obtain ⟨c,e1,r1⟩:=Zbd R h1;refine ⟨?_,?_⟩
  ·simp only [Zdg,e1];exact ZhN R h1 e1 hl hpv
  ·intro h' m hh;simp only [Zdg,e1] at hh;simp only [opK,aOp,e1,Zap,Zaa,injEq,Prod.mk.injEq] at ho |-
   obtain ⟨u',ho,rfl,_⟩:=ho;refine ⟨_,u',?_,rfl,rfl⟩;have hs:∀ {n o l z cap},c=.ms n o l cap z->Zl0 ⟨h',m⟩ 1 (.ms n o l cap z)=Zl0 S 1 (.ms n o l cap z):=by
    intro n o l z cap hc;subst hc;show (ZcK _ n).ob _=(ZcK S n).ob _;rw [ZbR,ZbR,hh n (by simp [Za8])]
   simp only [Zfm,Zaa] at ho |-
   obtain ⟨s1,h3,d1,h4,ho⟩:=ho;refine ⟨s1,h3,d1,h4,?_⟩;split at ho
   ·exact ho
   ·exact ho
   ·simp only [Zaa] at ho |-
    obtain ⟨g,hg,ho⟩:=ho;refine ⟨g,hg,?_⟩;split at ho
    ·exact ho
    ·rw [hs rfl];exact ho
    ·exact ho
    ·cases ho
   ·cases ho
 case call cl=>
  obtain ⟨callee,args,ts⟩:=cl;cases callee<;>try (cases hr;done)
  rename_i b;cases b<;>try (cases hr;done)
  cases hr;dsimp only [op2] at h;split at h
  ·rename_i x hargs;split at h
   ·rename_i t hts;simp only [Zaa] at h;obtain ⟨w,h2,v,h1,h⟩:=h;obtain ⟨c,e1,r1⟩:=Zbd R h1;have hnm:∀ n,c≠.map n:=by
     intro n hc;unfold Zrl at h;split at h
     ·cases r1;cases hc
     ·cases r1 with | dat d=>rcases DR.list d with e | ⟨_,e⟩<;>rw [e] at hc<;>cases hc
     ·cases r1 with | dat d=>have:=DR.str d;rw [this] at hc;cases hc
     ·simp only [Zaa] at h;obtain ⟨ck,h3,h⟩:=h;cases r1 with | sl hc0 hone=>
      have hck:=R.chunks _ _ h3;cases ck<;>(try dsimp only at h)<;>try (cases h;done)
      ·rcases hck.2 with ⟨_,e⟩ | ⟨_,e⟩ | ⟨_,_,_,_,_,_,e,_⟩<;>rw [e] at hc<;>cases hc
      ·obtain ⟨_,_,e,_⟩:=hck;rw [e] at hc;cases hc
      ·rcases hck.2 with ⟨_,e⟩ | ⟨_,_,_,_,_,_,e,_⟩<;>rw [e] at hc<;>cases hc
     ·cases h
    have hf:Zdg T (.call ⟨.builtin .len,args,ts⟩)=[]:=by
     simp only [Zdg,hargs,e1];cases c<;>first | rfl | exact absurd rfl (hnm _)
    refine ⟨by rw [hf];simp,?_⟩;intro h' m _;simp only [opK,hargs,hts,evs,e1,Zap,Zbn,Zaa,injEq,Prod.mk.injEq] at ho |-
    obtain ⟨u',ho,rfl,_⟩:=ho;refine ⟨_,u',?_,rfl,rfl⟩;simp only [Zjl,Zaa] at ho |-
    obtain ⟨e,he,ho⟩:=ho;refine ⟨e,he,?_⟩;split at ho<;>first | exact ho | (exact absurd rfl (hnm _)) | cases ho
   ·cases h
  ·cases h
mutual
theorem ZgN:∀ a:AV,same a a=true
 | .bool b=>by simp [same]
 | .int k n=>by simp [same]
 | .str s=>by simp [same]
 | .nilp=>by simp [same]
 | .mp n o=>by simp [same]
 | .fp l=>by simp [same,Zcb l]
 | .nils=>by simp [same]
 | .ms n o l c z=>by simp [same]
 | .fs l n=>by simp [same,Zcb l]
 | .pa ..=>by simp [same]
 | .nilm=>by simp [same]
 | .map n=>by simp [same]
 | .nilf=>by simp [same]
 | .func f a c=>by simp [same,Zcb a,Zcb c]
 | .nili=>by simp [same]
 | .iface t x=>by simp [same,ZgN x]
 | .agg l=>by simp [same,Zcb l]
 | .tup l=>by simp [same,Zcb l]
theorem Zcb:∀ l:List AV,Zdl l l=true
 | []=>by simp [Zdl]
 | x::l=>by simp [Zdl,ZgN x,Zcb l]
end
def ZJB (a:Nat->AV) (S:St) (ns:List Nat) (f:Tr AB->Bool) (q:Nat×List Nat×Nat):Prop:=
 ∃ c n off,q.2=([c],3+off)/\a c=.mp n 0/\ns=[n]/\∀ h,(∀ cs,rdB (S.heap.get n)=some cs->∃ cs',rdB (h.get n)=some cs'/\cs'[off]?=cs[off]?)->f h=true
def Z0d (a:Nat->AV) (nx:Nat) (S:St) (e:LE) (q:Nat×List Nat×Nat):Prop:=
 e.i=q.1/\(∀ n∈e.ns,n < S.next)/\(∀ c∈q.2.1,c < nx) /\
 ((q.2.2=0/\e.re=none/\∀ n∈e.ns,∃ c∈q.2.1,n∈bOf (a c)) \/
  (∃ f,e.re=some f/\(q.2.2=2\/(q.2.2=1/\(∀ h,(∀ n∈e.ns,rdB (h.get n)=rdB (S.heap.get n))->f h=true)/\∀ n∈e.ns,∃ c∈q.2.1,n∈bOf (a c))\/ZJB a S e.ns f q)))
inductive ZiL (a:Nat->AV) (nx:Nat) (S:St):List LE->L2->Prop
 | nil:ZiL a nx S [] []
 | cons {e:LE} {q:Nat×List Nat×Nat} {l:List LE} {m:L2}:Z0d a nx S e q->ZiL a nx S l m->ZiL a nx S (e::l) (q::m)
theorem ZiL.map {nx nx':Nat} {a':Nat->AV} (g:Nat×List Nat×Nat->Nat×List Nat×Nat) (hg:∀ e q,Z0d a nx S e q->Z0d a' nx' S' e (g q)):∀ {l:List LE} {m:L2},ZiL a nx S l m->ZiL a' nx' S' l (m.map g)
 | _,_,.nil=>.nil
 | _,_,.cons h i=>.cons (hg _ _ h) (ZiL.map g hg i)
theorem ZiL.step {nx nx':Nat} {a':Nat->AV} {l:List LE} {m:L2} (L:ZiL a nx S l m) (hn:S.next<=S'.next) (hx:nx<=nx') (hf:∀ c,c < nx->a' c=a c) (hr:∀ n,n < S.next->rdB (S'.heap.get n)=rdB (S.heap.get n)):ZiL a' nx' S' l m:=by
 have:=L.map (a':=a') (nx':=nx') (S':=S') id (by
  rintro e q ⟨h1,h2,h3,h4⟩;refine ⟨h1,fun n hn'=>lt_of_lt_of_le (h2 n hn') hn,fun c hc=>lt_of_lt_of_le (h3 c hc) hx,?_⟩;rcases h4 with ⟨h5,h6,h7⟩ | ⟨f,h5,h6⟩
  ·exact .inl ⟨h5,h6,fun n hn=>by obtain ⟨c,hc,hp⟩:=h7 n hn;exact ⟨c,hc,by rw [hf c (h3 c hc)];exact hp⟩⟩
  ·refine .inr ⟨f,h5,?_⟩;rcases h6 with h6 | ⟨h6,h7,h8⟩ | ⟨c,n,off,k1,k2,k3,k4⟩
   ·exact .inl h6
   ·exact .inr (.inl ⟨h6,fun h hh=>h7 h (fun n hn=>by rw [hh n hn,hr n (h2 n hn)]),fun n hn=>by obtain ⟨c,hc,hp⟩:=h8 n hn;exact ⟨c,hc,by rw [hf c (h3 c hc)];exact hp⟩⟩)
   ·refine .inr (.inr ⟨c,n,off,k1,by rw [hf c (h3 c (by rw [k1];simp))];exact k2,k3,fun h hh=>k4 h fun cs hcs=>hh cs ?_⟩);rw [hr n (h2 n (by rw [k3];simp))];exact hcs)
 simpa using this
theorem ZiM (q:Nat×List Nat×Nat) (m:L2) (hide:List Nat) (kd:Nat):hid (q::m) hide kd=(bif hide.contains q.1&&q.2.2.beq kd then q.2.1 else [])++hid m hide kd:=by
 unfold hid;rw [List.filter_cons];cases hb:(hide.contains q.1&&q.2.2.beq kd)<;>simp [hb]
theorem ZgM {nx:Nat} {hide:List Nat}:∀ {l:List LE} {m:L2},ZiL a nx S l m->∀ n∈ZaT l hide,n < S.next/\∃ c∈hid m hide 0,n∈bOf (a c)
 | _,_,.nil,n,hn=>by simp [ZaT] at hn
 | e::l,q::m,.cons h i,n,hn=>by
  have hl:ZaT (e::l) hide=(bif hide.contains e.i&&e.re.isNone then e.ns else [])++ZaT l hide:=by
   unfold ZaT;rw [List.filter_cons];cases hb:(hide.contains e.i&&e.re.isNone)<;>simp [hb]
  rw [hl,mem_append] at hn;rw [ZiM];rcases hn with hn | hn
  ·cases hb:(hide.contains e.i&&e.re.isNone)<;>rw [hb] at hn
   ·simp at hn
   ·rw [cond_true] at hn;simp only [and_eq_true] at hb;obtain ⟨h1,h2,h3,h4⟩:=h;rcases h4 with ⟨h5,h6,h7⟩ | ⟨f,h5,_⟩
    ·refine ⟨h2 n hn,?_⟩;obtain ⟨c,hc,hp⟩:=h7 n hn;refine ⟨c,mem_append.2 (.inl ?_),hp⟩;rw [<-h1,hb.1,h5];exact hc
    ·rw [h5] at hb;cases hb.2
  ·obtain ⟨h1,c,hc,hp⟩:=ZgM i n hn;exact ⟨h1,c,mem_append.2 (.inr hc),hp⟩
theorem ZiN {nx:Nat} {hide:List Nat} {h':Tr AB}:∀ {l:List LE} {m:L2},ZiL a nx S l m->ZgA m hide=true->(∀ n,n < S.next->(∃ c∈hid m hide 1,n∈bOf (a c))->rdB (h'.get n)=rdB (S.heap.get n))->(∀ q∈m,hide.contains q.1=true->∀ c n off,q.2=([c],3+off)->a c=.mp n 0->n < S.next->∀ cs,rdB (S.heap.get n)=some cs->∃ cs',rdB (h'.get n)=some cs'/\cs'[off]?=cs[off]?)->reads l hide h'=true
 | _,_,.nil,_,_,_=>rfl
 | e::l,q::m,.cons h i,hs,hh,hq=>by
  have hsp:ZgA (q::m) hide=(!(hide.contains q.1&&q.2.2.beq 2)&&ZgA m hide):=rfl;rw [hsp,and_eq_true,not_eq_true'] at hs;have ih:reads l hide h'=true:=ZiN i hs.2 (fun n hn ⟨c,hc,hp⟩=>hh n hn ⟨c,by rw [ZiM];exact mem_append.2 (.inr hc),hp⟩) (fun q' hq'=>hq q' (List.mem_cons_of_mem _ hq'));have hr:reads (e::l) hide h'=((match e.re with | some r=>!hide.contains e.i||r h' | none=>true)&&reads l hide h'):=rfl;rw [hr,ih,Bool.and_true];obtain ⟨h1,h2,h3,h4⟩:=h;rcases h4 with ⟨h5,h6,h7⟩ | ⟨f,h5,h6⟩
  ·rw [h6]
  ·rw [h5];dsimp only;cases hb:hide.contains e.i
   ·rfl
   ·rw [h1] at hb;rcases h6 with h6 | ⟨h6,h7,h8⟩ | ⟨c,n,off,k1,k2,k3,k4⟩
    ·exfalso;have:=hs.1;rw [hb,h6] at this;cases this
    ·rw [Bool.not_true,Bool.false_or];refine h7 h' (fun n hn=>hh n (h2 n hn) ?_);obtain ⟨c,hc,hp⟩:=h8 n hn;refine ⟨c,?_,hp⟩;rw [ZiM,hb,h6];exact mem_append.2 (.inl hc)
    ·rw [Bool.not_true,Bool.false_or];exact k4 h' fun cs hcs=>hq q (by simp) hb c n off k1 k2 (h2 n (by rw [k3];simp)) cs hcs
theorem Zpr {nx:Nat} {hide:List Nat}:∀ {l:List LE} {m:L2},ZiL a nx S l m->old l hide S.next=true
 | _,_,.nil=>rfl
 | e::l,q::m,.cons h i=>by
  have hr:old (e::l) hide S.next=((!hide.contains e.i||e.ns.all fun n=>Nat.blt n S.next)&&old l hide S.next):=rfl;rw [hr,Zpr i,Bool.and_true,Bool.or_eq_true];exact .inr (all_eq_true.2 (fun n hn=>Za6.2 (h.2.1 n hn)))
theorem ZbT {H:Tr C2} {cs:List Nat} (h:ZoL H cs=true) {c:Nat} (hc:c∈cs):∃ ck,H.get c=some ck/\ck.w=true:=by
 have:=all_eq_true.1 h c hc;cases hg:H.get c with
 | none=>rw [hg] at this;cases this
 | some ck=>rw [hg] at this;exact ⟨ck,rfl,this⟩
theorem Zge {H:Tr C2} {cs:List Nat} (h:ZoM H cs=true) {c:Nat} (hc:c∈cs):∃ ck,H.get c=some ck/\ck.isLnk=false:=by
 have:=all_eq_true.1 h c hc;cases hg:H.get c with
 | none=>rw [hg] at this;cases this
 | some ck=>rw [hg] at this;exact ⟨ck,rfl,by simpa using this⟩
theorem Zps {ck:C2} (h:ck.w=true):ck.isLnk=false:=by cases ck<;>first | rfl | cases h
theorem ZiO {x y:List Nat} (h:ZfG x y=true) {c d:Nat} (hc:c∈x) (hd:d∈y):c≠d:=by
 intro e;subst e;have:=all_eq_true.1 h c hc;rw [not_eq_true'] at this;have h2:y.contains c=true:=by rw [List.contains_iff_mem];exact hd
 rw [h2] at this;cases this
theorem Zgf (H:Tr C2):∀ (cs:List Nat) (c:Nat),(Zrp H cs).get c=if c∈cs then none else H.get c
 | [],c=>by simp [Zrp]
 | d::cs,c=>by
  rw [Zrp,Tr.get_del,Zgf H cs c];by_cases e:c=d
  ·subst e;simp
  ·simp [e]
theorem Zmk (old H:Tr C2):∀ (cs:List Nat) (c:Nat),(∀ c∈cs,(old.get c).isSome=true)->(ZsF old H cs).get c=if c∈cs then old.get c else H.get c
 | [],c,_=>by simp [ZsF]
 | d::cs,c,h=>by
  have hd:=h d (by simp);have ih:=Zmk old H cs c (fun c hc=>h c (by simp [hc]));rw [ZsF];cases hg:old.get d with
  | none=>rw [hg] at hd;cases hd
  | some ck=>
   dsimp only;rw [Tr.get_put,ih];by_cases e:c=d
   ·subst e;simp [hg]
   ·simp [e]
theorem ZIl (H:TyR P E) (R:Rel F a fp s T S) {o:Op} {cc:Nat×Nat} (hc:ZHa E s o=some cc) {u:AV} {S':St} (ho:opK P K o T S=some (u,S')):∃ n,cc.1 < s.nx/\a cc.1=.mp n 0/\Zdg T o=[n]/\∀ (h':Tr AB) (m:Nat),(∀ cs,rdB (S'.heap.get n)=some cs->∃ cs',rdB (h'.get n)=some cs'/\cs'[cc.2]?=cs[cc.2]?)->reK P (fun _ _ _=>none) o T [n] m u h'=true:=by
 cases o<;>try (cases hc;done)
 rename_i t x;unfold ZHa at hc;dsimp only at hc;split at hc
 ·rename_i c off w h1 h2;rw [Zi8] at hc;obtain ⟨hag,hc⟩:=hc;cases hc;obtain ⟨v,e1,r1⟩:=Zbd R h1;cases r1 with | bx hcx hb=>
  rename_i n;obtain ⟨e,he,ok⟩:=H.ok _ _ h2;refine ⟨n,hcx,hb,by simp only [Zdg,e1,Za8],fun h' m hh=>?_⟩;simp only [opK,aOp,he,e1,Zap,Zaa,injEq,Prod.mk.injEq] at ho;obtain ⟨u',ho,rfl,rfl⟩:=ho;simp only [Zd6,ZbR,Zaa,ZeF,ok.agg,hag,Zan] at ho;obtain ⟨cs,hcs,ho⟩:=ho;obtain ⟨cs',k1,k2⟩:=hh cs hcs;unfold reK;simp only [opK,aOp,he,e1,Zap,Zd6,ZbR];rw [ZaL,if_pos (mem_singleton.2 rfl),k1,Zap];simp only [ZeF,ok.agg,hag,Zan];rw [Zlx] at ho |-
  rw [k2,ho,Zap];exact ZgN _
 ·cases hc
theorem ZHL (H:TyR P E) (HK:KOk E K) (R:Rel F a fp s T S) {α:Type} {k:K2 α} {r:α} {o:Op} (h:op2 E o s k=some r) {u:AV} {S':St} (ho:opK P K o T S=some (u,S')) {c off:Nat} (hp:(c,off)∈ZG1 E s o) {n:Nat} (hn:a c=.mp n 0) {cs:List AV} (hcs:rdB (S.heap.get n)=some cs):∃ cs',rdB (S'.heap.get n)=some cs'/\cs'[off]?=cs[off]?:=by
 unfold ZG1 at hp;split at hp
 ·rename_i cl;obtain ⟨callee,args,ts⟩:=cl;dsimp only at hp;split at hp
  ·rename_i f;split at hp
   ·rename_i vs g first cap h1 h2
    cases hpol:E.pol g<;>rw [hpol] at hp
    ·rw [Zan] at hp;obtain ⟨us',e2,r1⟩:=ZeO R h1;obtain ⟨fu,e3,r3⟩:=Zbd R h2;cases r3 with | fn rf rc=>
     rename_i first' cap';simp only [opK,e2,e3,Zap] at ho;have rv:=(rf.append r1).append rc;dsimp only [op2] at h;rw [h1,Zap,h2,Zap] at h;dsimp only at h;rw [hpol,Zan] at h;generalize first++vs++cap=av at *
     split at hp
     ·rename_i c' tl;obtain ⟨o',ho',e⟩:=List.mem_map.1 hp;cases e;exact ZHi H HK R hpol rv h ho ho' hn hcs
     ·cases hp
    ·rw [Zag] at hp;cases hp
   ·cases hp
  ·cases hp
 ·cases hp
theorem Rel.aside (R:Rel F a fp s T S) {cs:List Nat} {ns:List Nat} (hw:ZoL s.H cs=true) (hn:∀ n∈ns,∃ c∈cs,fp c n) :
 Rel ⟨fun n=>F.ex n\/∃ c∈cs,fp c n,F.ro,ZkE S.heap ns,F.pn⟩ a fp ⟨s.T,Zrp s.H cs,s.nx⟩ T ⟨ZkE S.heap ns,S.next⟩:=by
 have g:∀ c ck,(Zrp s.H cs).get c=some ck->s.H.get c=some ck/\c∉cs:=by
  intro c ck h;rw [Zgf] at h;split at h
  ·cases h
  ·exact ⟨h,by assumption⟩
 have ap:∀ c ck,s.H.get c=some ck->c∉cs->∀ n,fp c n->∀ d∈cs,¬ fp d n:=by
  intro c ck hc hcn n hf d hd;obtain ⟨dk,h1,h2⟩:=ZbT hw hd;exact R.dis c d ck dk hc h1 (fun e=>hcn (by rw [e];exact hd)) (.inr h2) n hf
 refine { R with chunks:=?_,dis:=?_,lt:=?_,nx:=?_,fex:=?_,fro:=?_,dex:=?_,dro:=?_ }
 ·intro c ck h;obtain ⟨h1,h2⟩:=g c ck h;refine (R.chunks c ck h1).mono (le_refl _) (fun _ _=>rfl) (fun n hf=>?_);show (ZkE S.heap ns).get n=_;rw [Zce,if_neg (fun hm=>by obtain ⟨d,hd,hp⟩:=hn n hm;exact ap c ck h1 h2 n hf d hd hp)]
 ·intro c c' ck ck' h h';exact R.dis c c' ck ck' (g c ck h).1 (g c' ck' h').1
 ·intro c ck h;exact R.lt c ck (g c ck h).1
 ·intro c ck h;exact R.nx c ck (g c ck h).1
 ·rintro n (hn | ⟨c,hc,hf⟩)
  ·exact ⟨rfl,(R.fex n hn).2⟩
  ·obtain ⟨ck,h1,_⟩:=ZbT hw hc;exact ⟨rfl,R.lt c ck h1 n hf⟩
 ·intro n hn;exact ⟨rfl,(R.fro n hn).2⟩
 ·intro c ck h n hf;obtain ⟨h1,h2⟩:=g c ck h;rintro (he | ⟨d,hd,hp⟩)
  ·exact R.dex c ck h1 n hf he
  ·exact ap c ck h1 h2 n hf d hd hp
 ·intro c ck h;exact R.dro c ck (g c ck h).1
theorem Rel.restore (R:Rel F a fp s T S) {cs:List Nat} {ns:List Nat} (hw:ZoL s.H cs=true) (hn:∀ n∈ns,∃ c∈cs,fp c n) {a':Nat->AV} {fp':Nat->Nat->Prop} {s':S2} {T':Tm} {S':St}
 (R':Rel ⟨fun n=>F.ex n\/∃ c∈cs,fp c n,F.ro,ZkE S.heap ns,F.pn⟩ a' fp' s' T' S') (hnx:s.nx<=s'.nx) (hN:S.next<=S'.next) (ag:∀ c,c < s.nx->a' c=a c) (agf:∀ c∈cs,fp' c=fp c) :
 Rel F a' fp' ⟨s'.T,ZsF s.H s'.H cs,s'.nx⟩ T' ⟨back S.heap S'.heap ns,S'.next⟩:=by
 have hs:∀ c∈cs,(s.H.get c).isSome=true:=fun c hc=>by obtain ⟨ck,h,_⟩:=ZbT hw hc;rw [h];rfl
 have g:∀ c ck,(ZsF s.H s'.H cs).get c=some ck->(c∈cs/\s.H.get c=some ck/\ck.w=true)\/(c∉cs/\s'.H.get c=some ck):=by
  intro c ck h;rw [Zmk _ _ _ _ hs] at h;split at h
  ·rename_i hc;obtain ⟨ck',h1,h2⟩:=ZbT hw hc;rw [h] at h1;cases h1;exact .inl ⟨hc,h,h2⟩
  ·exact .inr ⟨by assumption,h⟩
 have hb:∀ n,(back S.heap S'.heap ns).get n=if n∈ns then S.heap.get n else S'.heap.get n:=Zdp _ _ _
 have hF:∀ n,n∉ns->(F.ex n\/∃ c∈cs,fp c n)->(back S.heap S'.heap ns).get n=S.heap.get n:=by
  intro n hnn he;rw [hb,if_neg hnn];rw [(R'.fex n he).1];show (ZkE S.heap ns).get n=_;rw [Zce,if_neg hnn]
 have hfc:∀ c∈cs,∀ n,fp c n->(back S.heap S'.heap ns).get n=S.heap.get n:=by
  intro c hc n hf;by_cases hm:n∈ns
  ·rw [hb,if_pos hm]
  ·exact hF n hm (.inr ⟨c,hc,hf⟩)
 have hex:∀ n,F.ex n->n∉ns:=by
  intro n he hm;obtain ⟨c,hc,hf⟩:=hn n hm;obtain ⟨ck,h1,_⟩:=ZbT hw hc;exact R.dex c ck h1 n hf he
 have hro:∀ n,F.ro n->n∉ns:=by
  intro n he hm;obtain ⟨c,hc,hf⟩:=hn n hm;obtain ⟨ck,h1,h2⟩:=ZbT hw hc;exact R.dro c ck h1 h2 n hf he
 refine { R' with chunks:=?_,dis:=?_,lt:=?_,nx:=?_,fex:=?_,fro:=?_,dex:=?_,dro:=?_ }
 ·intro c ck h;rcases g c ck h with ⟨hc,h1,_⟩ | ⟨hc,h1⟩
  ·have hx:=R.nx c ck h1;rw [agf c hc,ag c hx];exact (R.chunks c ck h1).mono hnx ag (fun n hf=>hfc c hc n hf)
  ·refine (R'.chunks c ck h1).mono (le_refl _) (fun _ _=>rfl) (fun n hf=>?_);rw [hb,if_neg];intro hm;obtain ⟨d,hd,hp⟩:=hn n hm;exact R'.dex c ck h1 n hf (.inr ⟨d,hd,hp⟩)
 ·intro c c' ck ck' h h' hne hww n hf hf';rcases g c ck h with ⟨hc,h1,w1⟩ | ⟨hc,h1⟩<;>rcases g c' ck' h' with ⟨hc',h2,w2⟩ | ⟨hc',h2⟩
  ·rw [agf c hc] at hf;rw [agf c' hc'] at hf';exact R.dis c c' ck ck' h1 h2 hne hww n hf hf'
  ·rw [agf c hc] at hf;exact R'.dex c' ck' h2 n hf' (.inr ⟨c,hc,hf⟩)
  ·rw [agf c' hc'] at hf';exact R'.dex c ck h1 n hf (.inr ⟨c',hc',hf'⟩)
  ·exact R'.dis c c' ck ck' h1 h2 hne hww n hf hf'
 ·intro c ck h n hf;rcases g c ck h with ⟨hc,h1,_⟩ | ⟨hc,h1⟩
  ·rw [agf c hc] at hf;exact lt_of_lt_of_le (R.lt c ck h1 n hf) hN
  ·exact R'.lt c ck h1 n hf
 ·intro c ck h;rcases g c ck h with ⟨hc,h1,_⟩ | ⟨hc,h1⟩
  ·exact lt_of_lt_of_le (R.nx c ck h1) hnx
  ·exact R'.nx c ck h1
 ·intro n he;obtain ⟨e,l⟩:=R.fex n he;exact ⟨by show (back S.heap S'.heap ns).get n=_;rw [hF n (hex n he) (.inl he),e],lt_of_lt_of_le l hN⟩
 ·intro n he;obtain ⟨e,l⟩:=R.fro n he;obtain ⟨e',_⟩:=R'.fro n he;refine ⟨?_,lt_of_lt_of_le l hN⟩;show rdB ((back S.heap S'.heap ns).get n)=_;rw [hb,if_neg (hro n he),e'];show rdB ((ZkE S.heap ns).get n)=_;rw [Zce,if_neg (hro n he),e]
 ·intro c ck h n hf he;rcases g c ck h with ⟨hc,h1,_⟩ | ⟨hc,h1⟩
  ·rw [agf c hc] at hf;exact R.dex c ck h1 n hf he
  ·exact R'.dex c ck h1 n hf (.inl he)
 ·intro c ck h hww n hf he;rcases g c ck h with ⟨hc,h1,w1⟩ | ⟨hc,h1⟩
  ·rw [agf c hc] at hf;exact R.dro c ck h1 w1 n hf he
  ·exact R'.dro c ck h1 hww n hf he
theorem Zei {b:Option AB} {cs:List AV} (h:rdB b=some cs):b.isSome=true:=by cases b<;>first | cases h;done | rfl
theorem Znx.shrink {h:Tr AB} {fpc:Nat->Prop} {v:AV} {t:Ty} {l:List t.den} {w:Bool} (r:Znx h fpc v t l w):Znx h (fun n=>fpc n/\(h.get n).isSome=true) v t l w:=by
 refine ⟨r.1,?_⟩;rcases r.2 with h | h | ⟨q,o,cap,cs,pre,post,h1,h2⟩
 ·exact .inl h
 ·exact .inr (.inl h)
 ·exact .inr (.inr ⟨q,o,cap,cs,pre,post,h1,⟨h2.fp,Zei h2.blk.rd⟩,h2.blk,h2.off,h2.nr,h2.cap⟩)
theorem Zcr.shrink {ρ:Nat->Nat->AV} {m:Nat} {h:Tr AB} {fpc:Nat->Prop} {v:AV}:∀ {ck:C2},Zcr ρ m a h fpc v ck->Zcr ρ m a h (fun n=>fpc n/\(h.get n).isSome=true) v ck
 | .box l w,⟨n,cs,h1,h2,h3,h4,h5⟩=>⟨n,cs,h1,⟨h2,Zei h3.rd⟩,h3,h4,h5⟩
 | .own t l w,h=>by
  refine ⟨h.1,?_⟩;rcases h.2 with h | h | ⟨q,o,cap,cs,pre,post,h1,h2⟩
  ·exact .inl h
  ·exact .inr (.inl h)
  ·exact .inr (.inr ⟨q,o,cap,cs,pre,post,h1,⟨h2.fp,Zei h2.blk.rd⟩,h2.blk,h2.off,h2.nr,h2.cap⟩)
 | .lit t n l w,⟨q,cs,h1,h2,h3,h4,h5⟩=>⟨q,cs,h1,⟨h2,Zei h3.rd⟩,h3,h4,h5⟩
 | .map k v' es,⟨n,cs,clk,h1,h2,h3,h4⟩=>⟨n,cs,clk,h1,⟨h2,by rw [h3];rfl⟩,h3,h4⟩
 | .arr t l,⟨q,cs,h1,h2,h3,h4⟩=>⟨q,cs,h1,⟨h2,by rw [h3];rfl⟩,h3,h4⟩
 | .lnk ..,h=>h
 | .mix t l e,⟨h0,q,o,cap,cs,pre,post,h1,h2,h3,h4⟩=>⟨h0,q,o,cap,cs,pre,post,h1,⟨h2,by rw [h3];rfl⟩,h3,h4⟩
 | .own2 t l e,r=>by
  refine ⟨r.1,?_⟩;rcases r.2 with h | ⟨q,o,cap,cs,pre,post,h1,h2,h3,h4,h5,h9,fps,h6,h7,h8⟩
  ·exact .inl h
  ·refine .inr ⟨q,o,cap,cs,pre,post,h1,⟨h2,by rw [h3];rfl⟩,h3,h4,h5,h9,fun i n=>fps i n/\(h.get n).isSome=true,fun i n hn=>⟨⟨(h6 i n hn.1).1,hn.2⟩,(h6 i n hn.1).2⟩,fun i j n hne hn hn'=>h7 i j n hne hn.1 hn'.1,fun i x hx he=>?_⟩;obtain ⟨c,g1,g2⟩:=h8 i x hx he;exact ⟨c,g1,g2.shrink⟩
theorem Rel.beside (R:Rel F a fp s T S) {a2:Nat->AV} {fp2:Nat->Nat->Prop} {s2:S2} {T2:Tm} {S3:St} (R2:Rel ⟨fun n=>n < S.next,fun _=>False,.lf,F.pn⟩ a2 fp2 s2 T2 S3) {h':Tr AB}
 (hh:∀ n,h'.get n=if (S.next<=n/\n < S3.next)/\(S3.heap.get n).isSome=true then S3.heap.get n else S.heap.get n) (hn:S.next<=S3.next) (ha:∀ c,c < s.nx->a2 c=a c) {ck:C2} (hg:s2.H.get s.nx=some ck) :
 Rel F a2 (fun c n=>if c=s.nx then fp2 s.nx n/\(S3.heap.get n).isSome=true else fp c n) ⟨s.T,s.H.put s.nx ck,s2.nx⟩ T ⟨h',S3.next⟩:=by
 have hx:=R2.nx _ _ hg;have ho:∀ n,n < S.next->h'.get n=S.heap.get n:=fun n h=>by rw [hh,if_neg (by omega)]
 have hne:∀ n,fp2 s.nx n->S.next<=n:=fun n h=>by
  have:=R2.dex _ _ hg n h;have:¬ n < S.next:=this;omega
 have hnew:∀ n,fp2 s.nx n/\(S3.heap.get n).isSome=true->h'.get n=S3.heap.get n:=fun n h=>by
  rw [hh,if_pos ⟨⟨hne n h.1,R2.lt _ _ hg n h.1⟩,h.2⟩]
 have g:∀ c k,(s.H.put s.nx ck).get c=some k->(c=s.nx/\k=ck)\/(c≠s.nx/\s.H.get c=some k):=by
  intro c k h;rw [Tr.get_put] at h;split at h
  ·cases h;exact .inl ⟨by assumption,rfl⟩
  ·exact .inr ⟨by assumption,h⟩
 refine { slots:=?_,chunks:=?_,dis:=?_,lt:=?_,nx:=?_,fex:=?_,fro:=?_,dex:=?_,dro:=?_ }
 ·intro k v h;obtain ⟨u,h1,h2⟩:=R.slots k v h;exact ⟨u,h1,h2.mono (Nat.le_of_lt hx) ha⟩
 ·intro c k h;rcases g c k h with ⟨rfl,rfl⟩ | ⟨e,h⟩
  ·simp only [if_true];exact (R2.chunks _ _ hg).shrink.mono (le_refl _) (fun _ _=>rfl) hnew
  ·simp only [if_neg e];show Zcr F.pn s2.nx a2 h' (fp c) (a2 c) k;rw [ha c (R.nx c k h)];exact (R.chunks c k h).mono (Nat.le_of_lt hx) ha (fun n hf=>ho n (R.lt c k h n hf))
 ·intro c c' k k' h h' hcc hw n hf hf';replace h:=g c k h;replace h':=g c' k' h';rcases h with ⟨rfl,rfl⟩ | ⟨e,h⟩<;>rcases h' with ⟨rfl,rfl⟩ | ⟨e',h'⟩
  ·exact hcc rfl
  ·simp only [if_true,if_neg e'] at hf hf';have:=R.lt c' k' h' n hf';have:=hne n hf.1;omega
  ·simp only [if_true,if_neg e] at hf hf';have:=R.lt c k h n hf;have:=hne n hf'.1;omega
  ·simp only [if_neg e,if_neg e'] at hf hf';exact R.dis c c' k k' h h' hcc hw n hf hf'
 ·intro c k h n hf;rcases g c k h with ⟨rfl,rfl⟩ | ⟨e,h⟩
  ·simp only [if_true] at hf;exact R2.lt _ _ hg n hf.1
  ·simp only [if_neg e] at hf;exact lt_of_lt_of_le (R.lt c k h n hf) hn
 ·intro c k h;rcases g c k h with ⟨rfl,rfl⟩ | ⟨e,h⟩
  ·exact hx
  ·exact Nat.lt_trans (R.nx c k h) hx
 ·intro n h;obtain ⟨e,l⟩:=R.fex n h;exact ⟨by show h'.get n=_;rw [ho n l,e],lt_of_lt_of_le l hn⟩
 ·intro n h;obtain ⟨e,l⟩:=R.fro n h;exact ⟨by show rdB (h'.get n)=_;rw [ho n l,e],lt_of_lt_of_le l hn⟩
 ·intro c k h n hf he;rcases g c k h with ⟨rfl,rfl⟩ | ⟨e,h⟩
  ·simp only [if_true] at hf;have:=(R.fex n he).2;have:=hne n hf.1;omega
  ·simp only [if_neg e] at hf;exact R.dex c k h n hf he
 ·intro c k h hw n hf he;rcases g c k h with ⟨rfl,rfl⟩ | ⟨e,h⟩
  ·simp only [if_true] at hf;have:=(R.fro n he).2;have:=hne n hf.1;omega
  ·simp only [if_neg e] at hf;exact R.dro c k h hw n hf he
theorem Zml {m:Nat}:∀ {vs:List V2} {us:List AV},Zbl m a vs us->(vs.all fun v=>v.cks.isEmpty&&!isPin v)=true->us.flatMap Za8=[]
 | [],us,h,_=>by cases h;rfl
 | v::vs,us,h,hc=>by
  rw [List.all_cons,and_eq_true] at hc;cases h with | cons h1 h2=>
  rw [List.flatMap_cons,Zml h2 hc.2,List.append_nil];refine List.eq_nil_iff_forall_not_mem.2 (fun n hn=>?_);obtain ⟨hc1,hc2⟩:=hc;rw [and_eq_true] at hc1;obtain ⟨c,hcc,_⟩:=h1.names (by simpa using hc1.2) n hn;rw [isEmpty_iff.1 hc1.1] at hcc;exact nomatch hcc
theorem ZcN (H:TyR P E) (HK:KOk E K) {nt:Nat}:∀ (l:List PO) {s:S2} {T:Tm} {S:St} {a:Nat->AV} {fp:Nat->Nat->Prop} {k:S2->Option α} {log:List LE} {log2:L2},Rel F a fp s T S->ZiL a s.nx S log log2->Zh1 E nt l log2 s k=some r ->
 ∃ s' T' S' a' fp',Zdt P K nt l log T S=some (T',S')/\S.next<=S'.next/\Rel F a' fp' s' T' S'/\k s'=some r/\∀ t,Zun (l.map (·.dst)) t=false->T'.get t=T.get t
 | [],s,T,S,a,fp,k,log,log2,R,L,h=>⟨s,T,S,a,fp,rfl,le_refl _,R,h,fun _ _=>rfl⟩
 | o::l,s,T,S,a,fp,k,log,log2,R,L,h=>by
  simp only [Zh1] at h;rcases Zmj R h with ⟨hw,s1,R1,h,hH,hx⟩ | ⟨hw,s1,R1,h,hH,hx⟩
  ·have L1:ZiL a s1.nx S log log2:=by rw [hx];exact L
   cases hc:o.c<;>rw [hc] at h<;>dsimp only at h
   case pure=>
    rw [Zak] at h;obtain ⟨hs,h⟩:=h;obtain ⟨v,u,s2,a2,fp2,S2',e1,n1,R2,_,r2,h,nx2,ag⟩:=ZhM H HK R1 h;have:=ZsO hs e1;subst this;obtain ⟨T3,s3,e2,R3,h,hH3,hx3,hd⟩:=Zdw R2 r2 h;obtain ⟨s4,T4,S4,a4,fp4,e3,n3,R4,h,hg⟩:=ZcN H HK l R3 (by rw [hx3];exact L1.step (le_refl _) nx2 (fun c hc=>(ag c hc).1) (fun _ _=>rfl)) h;exact ⟨s4,T4,S4,a4,fp4,by simp only [Zdt,hw,Zap,Zag,hc,e1,e2,e3],n3,R4,h,fun t ht=>by rw [hg t (ZaQ ht).2,hd t (ZaQ ht).1]⟩
   case pcall=>
    split at h
    ·rename_i c hop;split at h
     ·rename_i g hcal;simp only [Zaa,Zak,ZjU] at h;obtain ⟨vs,h1,hp,sp,h2,hcod,⟨x,H'⟩,h3,h⟩:=h;obtain ⟨y,hy,h⟩:=Option.bind_eq_some_iff.1 h;obtain ⟨us,e1,r1⟩:=ZeO R1 h1;have R0:Rel ⟨fun _=>False,fun _=>False,.lf,F.pn⟩ a fp ⟨s1.T,.lf,s1.nx⟩ T ⟨.lf,S.next⟩:=
       {slots:=R1.slots
        chunks:=fun c ck h=>by simp at h
        dis:=fun c c' ck ck' h=>by simp at h
        lt:=fun c ck h=>by simp at h
        nx:=fun c ck h=>by simp at h
        fex:=fun _ h=>h.elim
        fro:=fun _ h=>h.elim
        dex:=fun c ck h=>by simp at h
        dro:=fun c ck h=>by simp at h }
      obtain ⟨S9,e2,n2,R9⟩:=Zma (ZdN 1000) sp.dom R0 h3 r1;have hK:=HK.pure g sp hp h2 hcod x y hy us ⟨.lf,S.next⟩ S9 e2;have hn:=(HK.eff g hp _ _ _ _ hK).1;obtain ⟨T3,s3,e3,R3,h,hH3,hx3,hd⟩:=Zdw R1 (Zlb sp.cod y hcod) h;obtain ⟨s4,T4,S4,a4,fp4,e4,n4,R4,h,hg⟩:=ZcN H HK l R3 (by rw [hx3];exact L1) h;refine ⟨s4,T4,S4,a4,fp4,?_,n4,R4,h,fun t ht=>by rw [hg t (ZaQ ht).2,hd t (ZaQ ht).1]⟩;obtain ⟨callee,args,ts⟩:=c;dsimp only at hcal e1;subst hcal;have e5:opK P K o.op T ⟨.lf,S.next⟩=K g us ⟨.lf,S.next⟩:=by
       have hz':Mx.fz g=none:=by rw [H.fz,H.fzp g hp];rfl
       rw [hop];simp only [opK,e1,Zap,ev];simp [ZFn,hz',Option.ob]
      simp only [Zdt,hw,Zap,Zag,hc,e5,hK,hn,Zad.2 rfl,chk,e3,e4]
     ·cases h
    ·cases h
   case read=>
    cases hb0:(List.isEmpty log2&&!o.lg&&ZNa o.op)<;>rw [hb0] at h
    case true=>
     rw [Zag] at h;simp only [and_eq_true,not_eq_true',isEmpty_iff] at hb0;obtain ⟨⟨rfl,hlg⟩,hlk⟩:=hb0;cases L1;obtain ⟨v,u,s2,a2,fp2,S2',e1,n1,R2,_,r2,h,nx2,ag⟩:=ZhM H HK R1 h;have:S2'=S:=by
      cases ho:o.op<;>rw [ho] at hlk<;>try (cases hlk;done)
      rw [ho] at e1;simp only [opK,aOp,Zaa,injEq,Prod.mk.injEq] at e1;obtain ⟨_,_,_,_,_,_,_,e⟩:=e1;exact e.symm
     subst this;obtain ⟨T3,s3,e2,R3,h,hH3,hx3,hd⟩:=Zdw R2 r2 h;obtain ⟨s4,T4,S4,a4,fp4,e3,n3,R4,h,hg⟩:=ZcN H HK l (log:=[]) R3 .nil h;refine ⟨s4,T4,S4,a4,fp4,?_,n3,R4,h,fun t ht=>by rw [hg t (ZaQ ht).2,hd t (ZaQ ht).1]⟩;have hfoot:((Zdg T o.op).all fun n=>!(ZaT [] o.hide).contains n)=true:=by
      rw [all_eq_true];intro n _;rfl
     simp only [Zdt,hw,Zap,Zag,hc,hfoot,chk,e1,e2,ZkF,hlg,cond_false,e3]
    rw [Zan] at h;simp only [Zaa,Zak,and_eq_true] at h;obtain ⟨rd,hr,⟨⟨⟨hs,hlw⟩,hap⟩,hl⟩,h⟩:=h;have hop:=h;obtain ⟨v,u,s2,a2,fp2,S2',e1,n1,R2,_,r2,h,nx2,ag⟩:=ZhM H HK R1 h;have:=ZsO hs e1;subst this;obtain ⟨T3,s3,e2,R3,h,hH3,hx3,hd⟩:=Zdw R2 r2 h;obtain ⟨k1,k2⟩:=Zn6 H R1 hr hop hl e1;have hfoot:((Zdg T o.op).all fun n=>!(ZaT log o.hide).contains n)=true:=by
     rw [all_eq_true];intro n hn;rw [not_eq_true'];cases hcn:(ZaT log o.hide).contains n with
     | false=>rfl
     | true=>
      exfalso;have hm:=List.contains_iff_mem.1 hcn;obtain ⟨_,d,hd,hp⟩:=ZgM L1 n hm;obtain ⟨c,hcc,ck,hg,hlk,hf⟩:=k1 n hn;obtain ⟨dk,hg2,hw2⟩:=ZbT hlw hd;exact R1.dis c d ck dk hg hg2 (ZiO hap hcc hd) (.inr hw2) n ((R1.chunks c ck hg).names hlk n hf) ((R1.chunks d dk hg2).names (Zps hw2) n hp)
    have L2':ZiL a2 s2.nx S2' log log2:=L1.step (le_refl _) nx2 (fun c hc=>(ag c hc).1) (fun _ _=>rfl);have LC:∀ cc,ZHa E s1 o.op=some cc->Z0d a2 s2.nx S2' ⟨o.i,Zdg T o.op,some (reK P (fun _ _ _=>none) o.op T (Zdg T o.op) S2'.next u)⟩ (o.i,[cc.1],3+cc.2):=by
     intro cc hcc;obtain ⟨n,g1,g2,g3,g4⟩:=ZIl H R1 hcc e1;refine ⟨rfl,?_,?_,.inr ⟨_,rfl,.inr (.inr ⟨cc.1,n,cc.2,rfl,?_,g3,?_⟩)⟩⟩
     ·intro m hm;obtain ⟨c,hcc,ck,hg,hlk,hf⟩:=k1 m hm;exact R1.lt c ck hg m ((R1.chunks c ck hg).names hlk m hf)
     ·intro c hc;rw [mem_singleton.1 hc];exact lt_of_lt_of_le g1 nx2
     ·rw [(ag cc.1 g1).1];exact g2
     ·intro h' hh;rw [g3];exact g4 h' _ hh
    have LE':Z0d a2 s2.nx S2' ⟨o.i,Zdg T o.op,some (reK P (fun _ _ _=>none) o.op T (Zdg T o.op) S2'.next u)⟩ (o.i,rd,1):=by
     refine ⟨rfl,?_,?_,.inr ⟨_,rfl,.inr (.inl ⟨rfl,?_,?_⟩)⟩⟩
     ·intro n hn;obtain ⟨c,hcc,ck,hg,hlk,hf⟩:=k1 n hn;exact R1.lt c ck hg n ((R1.chunks c ck hg).names hlk n hf)
     ·intro c hcc;obtain ⟨ck,hg,_⟩:=Zge hl hcc;exact lt_of_lt_of_le (R1.nx c ck hg) nx2
     ·intro h' hh;obtain ⟨S'',e5⟩:=k2 (Zbp h' (Zdg T o.op)) S2'.next (fun n hn=>by rw [ZaL,if_pos hn];exact hh n hn);unfold reK;rw [e5];exact ZgN u
     ·intro n hn;obtain ⟨c,hcc,ck,hg,hlk,hf⟩:=k1 n hn;exact ⟨c,hcc,by rw [(ag c (R1.nx c ck hg)).1];exact hf⟩
    obtain ⟨s4,T4,S4,a4,fp4,e3,n3,R4,h,hg⟩:=ZcN H HK l (log:=ZkF o.lg ⟨o.i,Zdg T o.op,some (reK P (fun _ _ _=>none) o.op T (Zdg T o.op) S2'.next u)⟩ log) R3 (by
     rw [hx3];unfold ZkF Zro;cases o.lg
     ·exact L2'
     ·rw [cond_true,cond_true];refine .cons ?_ L2';cases hcc:ZHa E s1 o.op with
      | none=>exact LE'
      | some cc=>exact LC cc hcc) h
    refine ⟨s4,T4,S4,a4,fp4,?_,n3,R4,h,fun t ht=>by rw [hg t (ZaQ ht).2,hd t (ZaQ ht).1]⟩;simp only [Zdt,hw,Zap,Zag,hc,hfoot,chk,e1,e2,e3]
   case alloc=>
    simp only [Zak,and_eq_true] at h;obtain ⟨⟨ha,hna⟩,h⟩:=h;obtain ⟨v,u,s2,a2,fp2,S2',e1,n1,R2,_,r2,h,nx2,ag⟩:=ZhM H HK R1 h;rw [Zak] at h;obtain ⟨hlg,h⟩:=h;obtain ⟨b,hb,hu⟩:=Zux H ha hna e1;have hbt:ZGc o.op=false:=by
     cases hop:o.op<;>simp only [ZGc];rw [hop] at hna;simpa only [Zul,not_eq_true',H.bt] using hna
    obtain ⟨T3,s3,e2,R3,h,hH3,hx3,hd⟩:=Zdw R2 r2 h;have hr:∀ n,n < S.next->rdB (S2'.heap.get n)=rdB (S.heap.get n):=by
     intro n hn;rw [hb];show rdB ((S.heap.put S.next b).get n)=_;rw [Tr.get_put,if_neg (by omega)]
    have L2':ZiL a2 s2.nx S2' log log2:=L1.step n1 nx2 (fun c hc=>(ag c hc).1) hr;obtain ⟨s4,T4,S4,a4,fp4,e3,n3,R4,h,hg⟩:=ZcN H HK l (log:=ZkF o.lg ⟨o.i,[S.next],none⟩ log) R3 (by
     rw [hx3];unfold ZkF Zro;cases hl:o.lg
     ·exact L2'
     ·rw [hl] at hlg;simp only [Bool.not_true,Bool.false_or,and_eq_true] at hlg;obtain ⟨hv,hlive⟩:=hlg;obtain ⟨ck,hg,_⟩:=Zge hlive (mem_singleton.2 rfl);refine .cons ⟨rfl,?_,?_,.inl ⟨rfl,rfl,?_⟩⟩ L2'
      ·intro n hn;rw [mem_singleton] at hn;subst hn;rw [hb];exact Nat.lt_succ_self _
      ·intro c hcc;rw [mem_singleton] at hcc;subst hcc;exact R2.nx _ _ hg
      ·intro n hn;rw [mem_singleton] at hn;subst hn;refine ⟨s1.nx,mem_singleton.2 rfl,?_⟩;obtain ⟨c,hcc,hm⟩:=r2.names (by cases v<;>first | rfl | cases hv) S.next (by rw [hu];simp);have hcn:c=s1.nx:=by
        cases v<;>(try dsimp only at hv)<;>try (cases hv;done)
        ·rw [mem_singleton.1 hcc];exact Zad.1 hv
        ·rw [mem_singleton.1 hcc];exact Zad.1 hv
       rw [<-hcn];exact hm) h
    refine ⟨s4,T4,S4,a4,fp4,?_,le_trans n1 n3,R4,h,fun t ht=>by rw [hg t (ZaQ ht).2,hd t (ZaQ ht).1]⟩;have ho:=Zpr (hide:=o.hide) L1;simp only [Zdt,hw,hbt,Bool.not_false,Bool.true_and,Zap,Zag,hc,ho,chk,e1,e2,e3]
   case loc=>
    split at h
    ·rename_i c hop;simp only [Zaa,Zak,and_eq_true,not_eq_true'] at h;obtain ⟨vs,h1,⟨⟨hlg,hns⟩,hcks⟩,h⟩:=h;obtain ⟨us,e0,r0⟩:=ZeO R1 h1;have R0:Rel ⟨fun n=>n < S.next,fun _=>False,.lf,F.pn⟩ a fp ⟨s1.T,.lf,s1.nx⟩ T ⟨.lf,S.next⟩:=
      {slots:=R1.slots
       chunks:=fun c ck h=>by simp at h
       dis:=fun c c' ck ck' h=>by simp at h
       lt:=fun c ck h=>by simp at h
       nx:=fun c ck h=>by simp at h
       fex:=fun n h=>⟨rfl,h⟩
       fro:=fun _ h=>h.elim
       dex:=fun c ck h=>by simp at h
       dro:=fun c ck h=>by simp at h }
     obtain ⟨v,u,s2,a2,fp2,S2',e1,n1,R2,_,r2,h,nx2,ag⟩:=ZhM H HK R0 h;simp only [Zaa] at h;obtain ⟨ck,hg,h⟩:=h;have hf:ZbP T o.op=[]:=by
      rw [hop];show (match evs T c.args.toList with | some vs=>vs.flatMap Za8 | none=>[])=[]
      rw [e0];exact Zml r0 hcks
     have hget:∀ n,(lay S2'.heap (back S2'.heap S.heap []) (names S.next S2'.next)).get n=if (S.next<=n/\n < S2'.next)/\(S2'.heap.get n).isSome=true then S2'.heap.get n else S.heap.get n:=by
      intro n;simp only [Zg4,ZjG n1];rfl
     have R3:=R1.beside R2 hget n1 (fun c hc=>(ag c hc).1) hg;obtain ⟨T3,s3,e2,R3,h,hH3,hx3,hd⟩:=Zdw R3 r2 h;have hold:∀ n,n < S.next->(lay S2'.heap (back S2'.heap S.heap []) (names S.next S2'.next)).get n=S.heap.get n:=fun n hn=>by rw [hget,if_neg (by omega)]
     have hreads:reads log o.hide (lay S2'.heap (back S2'.heap S.heap []) (names S.next S2'.next))=true:=ZiN L1 hns (fun n hn _=>by rw [hold n hn]) (fun _ _ _ c n off _ _ hn cs hcs=>⟨cs,by rw [hold n hn];exact hcs,rfl⟩);have L3:ZiL a2 s2.nx ⟨lay S2'.heap (back S2'.heap S.heap []) (names S.next S2'.next),S2'.next⟩ log log2:=L1.step n1 nx2 (fun c hc=>(ag c hc).1) (fun n hn=>by show rdB ((lay _ _ _).get n)=_;rw [hold n hn]);obtain ⟨s4,T4,S4,a4,fp4,e3,n3,R4,h,hg4⟩:=ZcN H HK l R3 (by rw [hx3];exact L3) h;refine ⟨s4,T4,S4,a4,fp4,?_,le_trans n1 n3,R4,h,fun t ht=>by rw [hg4 t (ZaQ ht).2,hd t (ZaQ ht).1]⟩;have ho:=Zpr (hide:=o.hide) L1;simp only [Zdt,hw,Zap,Zag,hc,ho,hf,List.all_nil,Bool.and_self,chk,Zbp,e1,Zah.2 n1,hreads,e2,hlg,ZkF,cond_false,e3]
    ·cases h
   case write=>
    cases hb0:(List.isEmpty log2&&ZNS o.op)<;>rw [hb0] at h
    case true=>
     rw [Zag] at h;simp only [and_eq_true,isEmpty_iff] at hb0;obtain ⟨rfl,hlk⟩:=hb0;cases L1;obtain ⟨v,u,s2,a2,fp2,S2',e1,n1,R2,_,r2,h,nx2,ag⟩:=ZhM H HK R1 h;obtain ⟨T3,s3,e2,R3,h,hH3,hx3,hd⟩:=Zdw R2 r2 h;obtain ⟨s4,T4,S4,a4,fp4,e3,n3,R4,h,hg⟩:=ZcN H HK l (log:=[]) R3 .nil h;refine ⟨s4,T4,S4,a4,fp4,?_,le_trans n1 n3,R4,h,fun t ht=>by rw [hg t (ZaQ ht).2,hd t (ZaQ ht).1]⟩;have e1':opK P K o.op T ⟨ZkE S.heap (ZaT [] o.hide),S.next⟩=some (u,S2'):=e1;have hreads:reads [] o.hide (back S.heap S2'.heap (ZaT [] o.hide))=true:=rfl;have e3':Zdt P K nt l [] T3 ⟨back S.heap S2'.heap (ZaT [] o.hide),S2'.next⟩=some (T4,S4):=e3;simp only [Zdt,hw,Zap,Zag,hc,e1',Zah.2 n1,chk,hreads,e2,e3']
    rw [Zan] at h;simp only [Zaa,Zak,and_eq_true] at h;obtain ⟨md,hmd,⟨⟨⟨⟨hlw,hns⟩,hlv⟩,hap⟩,hcel⟩,h⟩:=h;have hnm:∀ n∈ZaT log o.hide,∃ c∈hid log2 o.hide 0,fp c n:=fun n hn=>by
     obtain ⟨_,c,hcc,hp⟩:=ZgM L1 n hn;obtain ⟨ck,hg,hww⟩:=ZbT hlw hcc;exact ⟨c,hcc,(R1.chunks c ck hg).names (Zps hww) n hp⟩
    have Ra:=R1.aside hlw hnm;have hop:=h;obtain ⟨v,u,s2,a2,fp2,S2',e1,n1,R2,_,r2,h,nx2,ag⟩:=ZhM H HK Ra h;have Rr:=R1.restore hlw hnm R2 nx2 n1 (fun c hc=>(ag c hc).1) (fun c hc=>by
     obtain ⟨ck,hg,_⟩:=ZbT hlw hc;exact (ag c (R1.nx c ck hg)).2 (by show (Zrp s1.H _).get c=none;rw [Zgf,if_pos hc]))
    have heff:=Zw8 H HK Ra hmd hop e1;have hcheck:∀ n,n < S.next->(∃ c,(∃ ck,s1.H.get c=some ck)/\c∉md/\fp c n)->rdB ((back S.heap S2'.heap (ZaT log o.hide)).get n)=rdB (S.heap.get n):=by
     rintro n hn ⟨c,⟨ck,hg⟩,hcm,hf⟩;rw [Zdp];split
     ·rfl
     ·rename_i hnl;rw [heff n hn]
      ·show rdB ((ZkE S.heap (ZaT log o.hide)).get n)=_;rw [Zce,if_neg hnl]
      ·intro d hd dk hdk hdw hdf;rw [Zgf] at hdk;split at hdk
       ·cases hdk
       ·exact R1.dis c d ck dk hg hdk (fun e=>hcm (by rw [e];exact hd)) (.inr hdw) n hf hdf
    have hcellT:∀ q:Nat×List Nat×Nat,cellOk s1.H md (ZG1 E s1 o.op) q=true->∀ c n off,q.2=([c],3+off)->a c=.mp n 0->n < S.next->∀ cs,rdB (S.heap.get n)=some cs->∃ cs',rdB ((back S.heap S2'.heap (ZaT log o.hide)).get n)=some cs'/\cs'[off]?=cs[off]?:=by
     intro q hq c n off e5 e6 hn cs hcs;unfold cellOk at hq;rw [e5] at hq;dsimp only at hq;have h3:Nat.blt (3+off) 3=false:=by
      cases hb:Nat.blt (3+off) 3
      ·rfl
      ·have:=Za6.1 hb;omega
     rw [h3,Bool.false_or,and_eq_true,Bool.or_eq_true] at hq;obtain ⟨q1,q2⟩:=hq;obtain ⟨ck,hg,hlk⟩:=Zge q1 (mem_singleton.2 rfl);have hnc:fp c n:=(R1.chunks c ck hg).names hlk n (by rw [e6];simp [bOf,Za8]);rcases q2 with q2 | q2
     ·refine ⟨cs,?_,rfl⟩;rw [hcheck n hn ⟨c,⟨ck,hg⟩,fun hm=>ZiO q2 (mem_singleton.2 rfl) hm rfl,hnc⟩];exact hcs
     ·have q3:=all_eq_true.1 q2 c (mem_singleton.2 rfl);rw [show 3+off - 3=off by omega,List.contains_iff_mem] at q3;rw [Zdp];split
      ·exact ⟨cs,hcs,rfl⟩
      ·rename_i hnl;refine ZHL H HK Ra hop e1 (by rw [ZHK];exact q3) e6 ?_;show rdB ((ZkE S.heap (ZaT log o.hide)).get n)=_;rw [Zce,if_neg hnl];exact hcs
    have hreads:reads log o.hide (back S.heap S2'.heap (ZaT log o.hide))=true:=by
     refine ZiN L1 hns (fun n hn=>?_) (fun q hq hb c n off e5 e6 hn cs hcs=>hcellT q (by
      have:=all_eq_true.1 hcel q hq;rw [hb] at this;simpa using this) c n off e5 e6 hn cs hcs)
     rintro ⟨c,hcc,hp⟩;obtain ⟨ck,hg,hlk⟩:=Zge hlv hcc;refine hcheck n hn ⟨c,⟨ck,hg⟩,?_,(R1.chunks c ck hg).names hlk n hp⟩;exact fun hm=>ZiO hap hcc hm rfl
    obtain ⟨T3,s3,e2,R3,h,hH3,hx3,hd⟩:=Zdw Rr r2 h;have L3:ZiL a2 s2.nx ⟨back S.heap S2'.heap (ZaT log o.hide),S2'.next⟩ log (Zwp s1.H md (ZG1 E s1 o.op) log2):=by
     refine L1.map _ ?_;rintro e q ⟨h1,h2,h3,h4⟩;have h2':∀ n∈e.ns,n < S2'.next:=fun n hn=>lt_of_lt_of_le (h2 n hn) n1;have h3':∀ c∈q.2.1,c < s2.nx:=fun c hcc=>lt_of_lt_of_le (h3 c hcc) nx2;rcases h4 with ⟨h5,h6,h7⟩ | ⟨f,h5,h6⟩
     ·have:((q.2.2.beq 1&&!(ZoM s1.H q.2.1&&ZfG q.2.1 md))||!(cellOk s1.H md (ZG1 E s1 o.op) q))=false:=by unfold cellOk;rw [h5];rfl
      rw [this,cond_false];exact ⟨h1,h2',h3',.inl ⟨h5,h6,fun n hn=>by obtain ⟨c,hcc,hp⟩:=h7 n hn;exact ⟨c,hcc,by rw [(ag c (h3 c hcc)).1];exact hp⟩⟩⟩
     ·cases hq:((q.2.2.beq 1&&!(ZoM s1.H q.2.1&&ZfG q.2.1 md))||!(cellOk s1.H md (ZG1 E s1 o.op) q))
      ·rw [cond_false];refine ⟨h1,h2',h3',.inr ⟨f,h5,?_⟩⟩;rw [Bool.or_eq_false_iff] at hq;obtain ⟨hq,hqc⟩:=hq;rcases h6 with h6 | ⟨h6,h7,h8⟩ | ⟨c,n,off,i1,i2,i3,i4⟩
       ·exact .inl h6
       ·rw [h6] at hq;have hq2:(ZoM s1.H q.2.1&&ZfG q.2.1 md)=true:=by
         cases hz:(ZoM s1.H q.2.1&&ZfG q.2.1 md)
         ·rw [hz] at hq;cases hq
         ·rfl
        rw [and_eq_true] at hq2;refine .inr (.inl ⟨h6,fun h' hh=>h7 h' (fun n hn=>?_),fun n hn=>by obtain ⟨c,hcc,hp⟩:=h8 n hn;exact ⟨c,hcc,by rw [(ag c (h3 c hcc)).1];exact hp⟩⟩);rw [hh n hn];obtain ⟨c,hcc,hp⟩:=h8 n hn;obtain ⟨ck,hg,hlk⟩:=Zge hq2.1 hcc;exact hcheck n (h2 n hn) ⟨c,⟨ck,hg⟩,fun hm=>ZiO hq2.2 hcc hm rfl,(R1.chunks c ck hg).names hlk n hp⟩
       ·have hcok:cellOk s1.H md (ZG1 E s1 o.op) q=true:=by simpa using hqc
        refine .inr (.inr ⟨c,n,off,i1,by rw [(ag c (h3 c (by rw [i1];simp))).1];exact i2,i3,fun h' hh=>i4 h' fun cs hcs=>?_⟩);obtain ⟨cs',j1,j2⟩:=hcellT q hcok c n off i1 i2 (h2 n (by rw [i3];simp)) cs hcs;obtain ⟨cs2,j3,j4⟩:=hh cs' j1;exact ⟨cs2,j3,j4.trans j2⟩
      ·rw [cond_true];exact ⟨h1,h2',h3',.inr ⟨f,h5,.inl rfl⟩⟩
    obtain ⟨s4,T4,S4,a4,fp4,e3,n3,R4,h,hg⟩:=ZcN H HK l R3 (by rw [hx3];exact L3) h;refine ⟨s4,T4,S4,a4,fp4,?_,le_trans n1 n3,R4,h,fun t ht=>by rw [hg t (ZaQ ht).2,hd t (ZaQ ht).1]⟩;simp only [Zdt,hw,Zap,Zag,hc,e1,Zah.2 n1,chk,hreads,e2,e3]
  ·obtain ⟨T3,s3,e2,R3,h,hH3,hx3,hd⟩:=Zdw R1 (.tup .nil) h;obtain ⟨s4,T4,S4,a4,fp4,e3,n3,R4,h,hg⟩:=ZcN H HK l R3 (by rw [hx3,hx];exact L) h;exact ⟨s4,T4,S4,a4,fp4,by simp only [Zdt,hw,Zap,Zan,e2,e3],n3,R4,h,fun t ht=>by rw [hg t (ZaQ ht).2,hd t (ZaQ ht).1]⟩
end
end Go.Eng
