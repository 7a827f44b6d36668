import Derived.Test.YtipafbfdjfbkbaaGreatDoorE2Plan
set_option linter.unusedVariables false
set_option linter.unusedSectionVars false
open Option.some (injEq)
namespace Go.Eng
section
variable [Gl] [Mx] {P:Program} {K:ZcY} {E:Zcn} {F:Fr} {a:Nat->AV} {fp:Nat->Nat->Prop} {s s0:S2} {T:Tm} {S S':St} {α:Type} {k:K2 α} {r:α}
theorem ZrB {g:TE} {new:List AV} {m:Nat} {v u:AV} (h:Zfn S g new m v=some (u,S')):∀ n,n < S.next->n∉Za8 v->S'.heap.get n=S.heap.get n:=by
 intro n hn hv;unfold Zfn at h;split at h
 ·cases hb:m.beq 0<;>rw [hb] at h
  ·simp only [Zan,Zaa,injEq,Prod.mk.injEq] at h;obtain ⟨_,_,_,rfl⟩:=h;show (S.heap.put S.next _).get n=_;rw [Tr.get_put,if_neg (by omega)]
  ·cases h;rfl
 ·rename_i q off len cap z;have hq:n≠q:=fun e=>hv (by rw [e];simp [Za8]);simp only [Zaa] at h;obtain ⟨c,_,_,_,h⟩:=h;split at h
  ·rename_i k;cases hb:Nat.ble (len+m) k<;>rw [hb] at h
   ·simp only [Zan,Zaa,injEq,Prod.mk.injEq] at h;obtain ⟨_,_,_,rfl⟩:=h;show (S.heap.put S.next _).get n=_;rw [Tr.get_put,if_neg (by omega)]
   ·simp only [Zag,Zaa,injEq,Prod.mk.injEq] at h;obtain ⟨_,_,_,rfl⟩:=h;show (S.heap.put q _).get n=_;rw [Tr.get_put,if_neg hq]
  ·simp only [Zaa,injEq,Prod.mk.injEq] at h;obtain ⟨_,_,_,rfl⟩:=h;show ((S.heap.del q).put S.next _).get n=_;rw [Tr.get_put,if_neg (by omega),Tr.get_del,if_neg hq]
 ·cases h
theorem ZrC {H H':Tr C2} {d:Nat} {k1 k2:C2} (h1:H.get d=some k1) (h2:k2.w=true->k1.w=true) (hb:∀ c ck,H'.get c=some ck->ck.w=true->∃ ck0,(H.put d k2).get c=some ck0/\ck0.w=true) :
 ∀ c ck,H'.get c=some ck->ck.w=true->∃ ck0,H.get c=some ck0/\ck0.w=true:=by
 intro c ck h hw;obtain ⟨ck0,h3,h4⟩:=hb c ck h hw;rw [Tr.get_put] at h3;split at h3
 ·rename_i e;cases h3;subst e;exact ⟨k1,h1,h2 h4⟩
 ·exact ⟨ck0,h3,h4⟩
def FzW (g:FzT):Prop:=∀ (t:Ty) (v:V2) (H:Tr C2) (x:t.den) (H':Tr C2),g t v H=some (x,H')->∀ c ck,H'.get c=some ck->ck.w=true->∃ ck0,H.get c=some ck0/\ck0.w=true
theorem ZrD {g:FzT} (G:FzW g):∀ (t:Ty) {l:List V2} {H:Tr C2} {x:t.den} {H':Tr C2},fzC g t l H=some (x,H')->∀ c ck,H'.get c=some ck->ck.w=true->∃ ck0,H.get c=some ck0/\ck0.w=true:=by
 have leaf:∀ (t:Ty) {l:List V2} {H:Tr C2} {x:t.den} {H':Tr C2},(match l with | [v]=>g t v H | _=>none)=some (x,H')->∀ c ck,H'.get c=some ck->ck.w=true->∃ ck0,H.get c=some ck0/\ck0.w=true:=by
  intro t l H x H' h;split at h
  ·exact G _ _ _ _ _ h
  ·cases h
 intro t
 induction t using Ty.ind with
 | prod p q ihp ihq=>
  intro l H x H' h c ck hc hw;simp only [fzC,Zaa,injEq] at h;obtain ⟨⟨x1,H1⟩,h1,⟨x2,H2⟩,h2,h⟩:=h;cases h;obtain ⟨ck1,h3,h4⟩:=ihq h2 c ck hc hw;exact ihp h1 c ck1 h3 h4
 | st t ih=>intro l H x H' h;exact ih h
 | int k=>intro l H x H' h;exact leaf _ h
 | bool=>intro l H x H' h;exact leaf _ h
 | str=>intro l H x H' h;exact leaf _ h
 | tree k ih=>
  intro l H x H' h c ck hc hw;rw [ZGS] at h;simp only [Zaa,injEq,Prod.mk.injEq] at h;obtain ⟨⟨y,H1⟩,h1,rfl,rfl⟩:=h;exact ih h1 c ck hc hw
 | list t=>intro l H x H' h;exact leaf _ h
 | ptr t=>intro l H x H' h;exact leaf _ h
 | optr t=>intro l H x H' h;exact leaf _ h
 | opq z=>intro l H x;exact nomatch x
theorem Zuy {g:FzT} (G:FzW g) (t:Ty):∀ (m:Nat) {l:List V2} {H:Tr C2} {x:List t.den} {H':Tr C2},fzN g t m l H=some (x,H')->∀ c ck,H'.get c=some ck->ck.w=true->∃ ck0,H.get c=some ck0/\ck0.w=true
 | 0,l,H,x,H',h,c,ck,hc,hw=>by
  simp only [fzN] at h;split at h
  ·cases h;exact ⟨ck,hc,hw⟩
  ·cases h
 | m+1,l,H,x,H',h,c,ck,hc,hw=>by
  simp only [fzN,Zaa,injEq] at h;obtain ⟨⟨x1,H1⟩,h1,⟨x2,H2⟩,h2,h⟩:=h;cases h;obtain ⟨ck1,h3,h4⟩:=Zuy G t m h2 c ck hc hw;exact ZrD G t h1 c ck1 h3 h4
theorem Zn5:∀ n,FzW (fzV n)
 | 0=>by intro t v H x H' h;cases h
 | n+1=>by
  intro t v H x H' h c ck hc hw;cases v<;>simp only [fzV] at h<;>try (cases h;done)
  case dat w y=>
   rw [Zak] at h;obtain ⟨_,h⟩:=h;simp only [Zaa,injEq,Prod.mk.injEq] at h;obtain ⟨_,_,_,rfl⟩:=h;exact ⟨ck,hc,hw⟩
  case nsl=>
   split at h
   ·simp only [Zaa,injEq,Prod.mk.injEq] at h;obtain ⟨y,_,rfl,rfl⟩:=h;exact ⟨ck,hc,hw⟩
   ·cases h
  case nils=>
   split at h
   ·cases h;exact ⟨ck,hc,hw⟩
   ·cases h
  case sl d=>
   split at h
   ·simp only [Zaa] at h;obtain ⟨ck1,h1,h⟩:=h;cases ck1<;>(try dsimp only at h)<;>try (cases h;done)
    case own2=>
     rw [Zak] at h;obtain ⟨_,h⟩:=h;simp only [Zaa,injEq,Prod.mk.injEq] at h;obtain ⟨_,_,_,rfl⟩:=h;rw [Tr.get_del] at hc;split at hc
     ·cases hc
     ·exact ⟨ck,hc,hw⟩
    case mix=>
     rw [Zak] at h;obtain ⟨_,h⟩:=h;simp only [Zaa] at h;obtain ⟨dk,_,h⟩:=h;split at h
     ·simp only [Zaa,injEq,Prod.mk.injEq] at h;obtain ⟨_,_,_,_,_,rfl⟩:=h;rw [Tr.get_del] at hc;split at hc
      ·cases hc
      ·rw [Tr.get_del] at hc;split at hc
       ·cases hc
       ·exact ⟨_,hc,hw⟩
     ·cases h
    case own=>
     rw [Zak] at h;obtain ⟨_,h⟩:=h;simp only [Zaa,injEq,Prod.mk.injEq] at h;obtain ⟨_,_,_,rfl⟩:=h;exact ZrC h1 (fun e=>by cases e) (fun c ck h hw=>⟨ck,h,hw⟩) c ck hc hw
    case lit=>
     rw [Zak] at h;obtain ⟨_,h⟩:=h;simp only [Zaa,injEq,Prod.mk.injEq] at h;obtain ⟨⟨_,_⟩,h2,_,_,_,rfl⟩:=h;exact ZrC h1 (fun e=>by cases e) (Zuy (Zn5 n) _ _ h2) c ck hc hw
   ·cases h
  case bx d off=>
   split at h
   ·rw [Zak] at h;obtain ⟨_,h⟩:=h;simp only [Zaa] at h;obtain ⟨ck1,h1,h⟩:=h;cases ck1<;>(try dsimp only at h)<;>try (cases h;done)
    simp only [Zaa,injEq,Prod.mk.injEq] at h;obtain ⟨⟨_,_⟩,h2,_,rfl⟩:=h;exact ZrC h1 (fun e=>by cases e) (ZrD (Zn5 n) _ h2) c ck hc hw
   ·rw [Zak] at h;obtain ⟨_,h⟩:=h;simp only [Zaa] at h;obtain ⟨ck1,h1,h⟩:=h;cases ck1<;>(try dsimp only at h)<;>try (cases h;done)
    simp only [Zaa,injEq,Prod.mk.injEq] at h;obtain ⟨⟨_,_⟩,h2,_,rfl⟩:=h;exact ZrC h1 (fun e=>by cases e) (ZrD (Zn5 n) _ h2) c ck hc hw
   ·cases h
  case nilp=>
   split at h
   ·cases h;exact ⟨ck,hc,hw⟩
   ·cases h
  case agg l=>
   split at h
   ·exact ZrD (Zn5 n) _ h c ck hc hw
   ·cases h
theorem Zw7 {t:Ty} {y:V2} {l:List t.den} {s':S2} (h:Zuj s t y=some (l,s')) {c:Nat} {ck:C2} (hc:s'.H.get c=some ck) (hw:ck.w=true):∃ ck0,s.H.get c=some ck0/\ck0.w=true:=by
 have simple:(ZsC s t y).ob (fun l=>some (l,s))=some (l,s')->∃ ck0,s.H.get c=some ck0/\ck0.w=true:=by
  intro h;simp only [Zaa,injEq,Prod.mk.injEq] at h;obtain ⟨_,_,_,rfl⟩:=h;exact ⟨ck,hc,hw⟩
 unfold Zuj at h;split at h
 ·simp only [Zaa] at h;obtain ⟨ck1,h1,h⟩:=h;split at h
  ·simp only [Zaa,injEq,Prod.mk.injEq] at h;obtain ⟨⟨_,_⟩,h2,_,_,_,rfl⟩:=h;exact Zuy (Zn5 1000) _ _ h2 c ck hc hw
  ·exact simple h
 ·simp only [Zaa,injEq,Prod.mk.injEq] at h;obtain ⟨_,_,_,rfl⟩:=h;exact ⟨ck,hc,hw⟩
 ·exact simple h
theorem ZgL (R:Rel F a fp s T S) {t:TypeId} {p v:V2} {c d:AV} {e:TE} (r1:VR2 s.nx a p c) (h:ZcZ E s t p v k=some r) (ho:Zc6 e S c d=some S') :
 ∀ n,(∀ c∈p.cks,∀ ck,s.H.get c=some ck->ck.w=true->¬ fp c n)->rdB (S'.heap.get n)=rdB (S.heap.get n):=by
 intro n hd;simp only [ZcZ,Zaa] at h;obtain ⟨w,h2,h⟩:=h;have fin:∀ {q off:Nat},c=.mp q off->n≠q->rdB (S'.heap.get n)=rdB (S.heap.get n):=by
  intro q off hc hq;subst hc;simp only [Zc6,Zaa] at ho;obtain ⟨_,_,_,_,_,_,ho⟩:=ho;cases ho;show rdB ((S.heap.put q _).get n)=_;rw [Tr.get_put,if_neg hq]
 cases p<;>(try dsimp only at h)<;>try (cases h;done)
 case bx c0 off=>
  simp only [Zaa] at h;obtain ⟨ck,h3,h⟩:=h;cases ck<;>(try dsimp only at h)<;>try (cases h;done)
  rename_i l w0;simp only [Zak,Bool.and_eq_true] at h;have hw:=h.1.1.1.1;have:=hd c0 (by simp [V2.cks]) _ h3 hw;cases r1 with | bx hc hb=>
  obtain ⟨n',cs,k1,k2,_⟩:=R.chunks _ _ h3;rw [hb] at k1;cases k1;exact fin rfl (fun e=>this (by rw [e];exact k2))
 case el c0 i z off=>
  simp only [Zaa] at h;obtain ⟨ck,h3,h⟩:=h;cases ck<;>(try dsimp only at h)<;>try (cases h;done)
  rename_i w0 l wr;simp only [Zak,Bool.and_eq_true,Zaa] at h;obtain ⟨⟨hw,_⟩,z0,_,h⟩:=h;subst hw;have:=hd c0 (by simp [V2.cks]) _ h3 rfl;obtain ⟨yy,hy,h⟩:=Option.bind_eq_some_iff.1 h;obtain ⟨g0,g1,g2⟩:=ZaI hy;obtain ⟨q,o,cap,p,c1,rr,k1,k2,_⟩:=ZoU (R.chunks _ _ h3) g2;cases r1 with
  | elf hc hb=>rw [k1] at hb;cases hb
  | el hc hb=>
   rw [k1] at hb;cases hb;exact fin rfl (fun e=>this (by rw [e];exact k2))
 case ea c0 i=>
  simp only [Zaa] at h;obtain ⟨ck,h3,h⟩:=h;cases ck<;>(try dsimp only at h)<;>try (cases h;done)
  have:=hd c0 (by simp [V2.cks]) _ h3 rfl;obtain ⟨q,cs,hv,hq,_⟩:=R.chunks _ _ h3;cases r1 with | ea hc hb=>
  rw [hv] at hb;cases hb;exact fin rfl (fun e=>this (by rw [e];exact hq))
theorem Zw8 (H:TyR P E) (HK:KOk E K) (R:Rel F a fp s T S) {o:Op} {md:List Nat} (hmd:md2 E s o=some md) (h:op2 E o s k=some r) {u:AV} (ho:opK P K o T S=some (u,S')) :
 ∀ n,n < S.next->(∀ c∈md,∀ ck,s.H.get c=some ck->ck.w=true->¬ fp c n)->rdB (S'.heap.get n)=rdB (S.heap.get n):=by
 intro n hn hd;cases o<;>try (cases hmd;done)
 case buildSlice t m ps=>
  simp only [opK,aOp,Zaa] at ho;obtain ⟨us,_,ho⟩:=ho;have key:∀ (S1:St) (vs:List (Nat×AV)),S1.next=S.next->(∀ m,rdB (S1.heap.get m)=rdB (S.heap.get m))->Zb4 P S1 t m vs=some (u,S')->rdB (S'.heap.get n)=rdB (S.heap.get n):=by
   intro S1 vs n1 e1 ho;simp only [Zb4,Zaa] at ho;obtain ⟨_,_,_,_,_,_,_,_,_,_,ho⟩:=ho;cases ho;rw [<-e1 n];show rdB ((S1.heap.put S1.next _).get n)=_;rw [Tr.get_put,if_neg (by omega)]
  cases hb:Mx.bt t<;>rw [hb] at ho
  ·exact key S us rfl (fun _=>rfl) ho
  ·simp only [Zag,Zaa] at ho;obtain ⟨⟨q,S1⟩,f1,ho⟩:=ho;obtain ⟨n1,e1⟩:=ZHt _ _ _ _ f1;exact key S1 q n1 e1 ho
 case store t x y=>
  cases hmd;simp only [op2,Zaa] at h;obtain ⟨p,h1,v,h1',h⟩:=h;obtain ⟨c,e1,r1⟩:=Zbd R h1;obtain ⟨d,e2,r2⟩:=Zbd R h1';have hck:ZnO s x=p.cks:=by unfold ZnO;rw [h1]
  rw [hck] at hd;cases hs:E.sf t x y<;>rw [hs] at h
  ·rw [Zan] at h;have h2:∃ u,E.ty t=some u:=by
    split at h
    ·split at h
     ·simp only [ZjT,Zaa] at h;obtain ⟨u,h,_⟩:=h;exact ⟨u,h⟩
     ·split at h
      ·simp only [ZRF,Zaa] at h;obtain ⟨u,h,_⟩:=h;exact ⟨u,h⟩
      ·simp only [ZcZ,Zaa] at h;obtain ⟨u,h,_⟩:=h;exact ⟨u,h⟩
     ·simp only [ZcZ,Zaa] at h;obtain ⟨u,h,_⟩:=h;exact ⟨u,h⟩
    ·simp only [ZcZ,Zaa] at h;obtain ⟨u,h,_⟩:=h;exact ⟨u,h⟩
   obtain ⟨u0,h2⟩:=h2;obtain ⟨e,he,ok⟩:=H.ok _ _ h2;simp only [opK,aOp,he,e1,e2,Zap,<-H.sf,hs,ZvR,cond_false,Zwe,Zaa] at ho;obtain ⟨S1,ho,h3⟩:=ho;cases h3;split at h
   ·split at h
    ·rename_i hck2;rcases (R.chunks _ _ hck2).2 with ⟨_,hv⟩ | ⟨q,o,cap,cs,pre,post,hv,hq,_⟩
     ·cases r1 with
      | el hc hb'=>rw [hv] at hb';cases hb'
      | elf hc hb'=>rw [hv] at hb';cases hb'
     ·have hnq:n≠q:=fun e=>hd _ (by simp [V2.cks]) _ hck2 rfl (by rw [e];exact hq);cases r1 with
      | elf hc hb'=>rw [hv] at hb';cases hb'
      | el hc hb'=>
       rw [hv] at hb';cases hb';simp only [Zc6,Zaa] at ho;obtain ⟨_,_,_,_,_,_,ho⟩:=ho;cases ho;show rdB ((S.heap.put q _).get n)=_;rw [Tr.get_put,if_neg hnq]
    ·rename_i hck2;split at h
     ·rcases (R.chunks _ _ hck2).2 with ⟨_,hv⟩ | ⟨hw,_⟩ | ⟨q,o,cap,cs,pre,post,hv,hq⟩
      ·cases r1 with
       | el hc hb'=>rw [hv] at hb';cases hb'
       | elf hc hb'=>rw [hv] at hb';cases hb'
      ·cases hw
      ·have hnq:n≠q:=fun e=>hd _ (by simp [V2.cks]) _ hck2 rfl (by rw [e];exact hq.fp);cases r1 with
       | elf hc hb'=>rw [hv] at hb';cases hb'
       | el hc hb'=>
        rw [hv] at hb';cases hb';simp only [Zc6,Zaa] at ho;obtain ⟨_,_,_,_,_,_,ho⟩:=ho;cases ho;show rdB ((S.heap.put q _).get n)=_;rw [Tr.get_put,if_neg hnq]
     ·exact ZgL R r1 h ho n hd
    ·exact ZgL R r1 h ho n hd
   ·exact ZgL R r1 h ho n hd
  ·have h:((E.ty t).ob fun u=>bc (!u.isProd) ((fzV 1000 u v s.H).ob fun q=>ZcZ E ⟨s.T,q.2,s.nx⟩ t p (.dat u q.1) k) none)=some r:=h;simp only [Zaa,Zak,Bool.not_eq_true'] at h;obtain ⟨u0,h2,hp,⟨z,H'⟩,h3,h⟩:=h;obtain ⟨e,he,ok⟩:=H.ok _ _ h2;obtain ⟨S1,f1,f2,R1⟩:=ZdN 1000 F a fp s T S R u0 v z H' h3 d r2;simp only [opK,aOp,he,e1,e2,Zap,<-H.sf,hs,ZvR,cond_true,show ZbW=1000 from rfl,f1,Zaa] at ho;obtain ⟨S2,ho,h4⟩:=ho;cases h4;rw [ZgL R1 r1 h ho n (fun c0 hc ck hg hw=>by
    obtain ⟨ck0,g1,g2⟩:=Zn5 1000 _ _ _ _ _ h3 c0 ck hg hw;exact hd c0 hc ck0 g1 g2)]
   exact (Zkg 1000 _ _ _ _ f1).2 n
 case call cl=>
  obtain ⟨callee,args,ts⟩:=cl;cases callee<;>try (cases hmd;done)
  case builtin b=>
   cases b<;>try (cases hmd;done)
   dsimp only [md2] at hmd;split at hmd
   ·rename_i x y hargs;cases hmd;dsimp only [op2] at h;rw [hargs] at h;dsimp only at h;split at h
    ·rename_i t tu hts;simp only [Zaa,Zi8] at h;obtain ⟨wu,h0,hi,vx,h1,vy,h2,h⟩:=h;obtain ⟨c,e1,r1⟩:=Zbd R h1;obtain ⟨d,e2,r2⟩:=Zbd R h2;obtain ⟨eu,heu,oku⟩:=H.ok _ _ h0;have hnint:∀ j,eu.und≠.int j:=by
      intro j hd;have:=oku.und;rw [hd] at this;cases wu<;>simp only [ZcJ,Bool.false_eq_true] at this;cases hi
     have ho':Ze5 P S t c d=some (u,S'):=by
      simp only [opK,hargs,hts,evs,e1,e2,Zap,Zbn,heu] at ho;cases hd:eu.und<;>(try rw [hd] at ho)
      case int j=>exact absurd hd (hnint j)
      all_goals exact ho
     simp only [Ze5,Zaa] at ho';obtain ⟨_,_,_,_,g,_,_,_,new,_,m,_,⟨q1,S1⟩,hf,_,_,hg⟩:=ho';obtain ⟨n1,e3⟩:=ZiK (Zkg ZbW) _ _ _ _ hf;have hck:ZnO s x=vx.cks:=by unfold ZnO;rw [h1]
     rw [hck] at hd;have:n∉Za8 c:=by
      simp only [Zi4,Zaa] at h;obtain ⟨w,_,h⟩:=h;cases w<;>(try dsimp only at h)<;>try (cases h;done)
      simp only [Zaa] at h;obtain ⟨⟨ys,s1⟩,h4,h⟩:=h;dsimp only at h;cases vx<;>(try dsimp only at h)<;>try (cases h;done)
      case nils=>cases r1;simp [Za8]
      case sl c0=>
       simp only [Zaa] at h;obtain ⟨ck,h5,h⟩:=h;split at h
       ·rename_i w0 l0;obtain ⟨_,S9,_,_,_,_,R9,_,_⟩:=Zpc R r2 h4;cases r1 with | sl hc hone=>
        rcases (R9.chunks _ _ h5).2 with ⟨_,hv⟩ | ⟨hw,_⟩ | ⟨q,o,cap,cs,pre,post,hv,hs⟩
        ·rw [hv];simp [Za8]
        ·cases hw
        ·rw [hv];obtain ⟨ck0,h6,h7⟩:=Zw7 h4 h5 rfl;have:=hd c0 (by simp [V2.cks]) _ h6 h7;simp only [Za8,List.mem_singleton];exact fun e=>this (by rw [e];exact hs.fp)
       ·cases h
     rw [ZrB hg n (by rw [n1];exact hn) this,e3 n]
    ·cases h
   ·cases hmd
  case value f=>
   dsimp only [md2] at hmd;simp only [Zaa] at hmd;obtain ⟨vs,h2,fv,h3,hmd⟩:=hmd;obtain ⟨us',e2,r1⟩:=ZeO R h2;obtain ⟨fu,e3,r3⟩:=Zbd R h3;cases fv<;>(try dsimp only at hmd)<;>try (cases hmd;done)
   rename_i g first cap
   cases r3 with | fn rf rc=>
   rename_i first' cap';simp only [opK,e2,e3,Zap] at ho;have rv:=(rf.append r1).append rc;cases hp:E.pol g<;>rw [hp] at hmd
   ·cases hz:E.fz g with
    | some m=>rw [hz] at hmd;cases hmd
    | none=>
    rw [hz] at hmd;simp only [Zan,Option.isSome_none,Zaa,injEq] at hmd;obtain ⟨sP,hP,sp,h1,⟨x,ρ⟩,h4,rfl⟩:=hmd;have hz':Mx.fz g=none:=by rw [H.fz,hz];rfl
    simp only [ZFn,hz',Zap] at ho;have h:ZGE E s g (first++vs++cap) k=some r:=by
     dsimp only [op2] at h;rw [h2,Zap,h3,Zap] at h;dsimp only at h;rw [hp,Zan] at h;exact h
    unfold ZGE at h;unfold ZJL at hP;split at h
    ·rename_i he;rw [he] at hP;cases hP;unfold ZFE at h;rw [hz] at h;exact (Zmi HK R hp rv h).2 sp x ρ h1 h4 u S' ho n hn hd
    ·rename_i hne;generalize first++vs++cap=av at *
     split at h
     ·rename_i c tl;simp only [Zaa] at h;obtain ⟨ck,hc,h⟩:=h;split at h
      ·rename_i l;simp only [Zaa] at h;obtain ⟨l',hl,h⟩:=h;have hP:sP=⟨s.T,s.H.put c (.box l' true),s.nx⟩:=by
        split at hP
        ·rename_i he;exact absurd he hne
        ·simp only [hc,Zap,hl,injEq] at hP;exact hP.symm
       subst hP;obtain ⟨n0,cs0,e1,e2,e3,e4,R1,_⟩:=ZHr R hc hl;unfold ZFE at h;rw [hz] at h;refine (Zmi HK R1 hp rv h).2 sp x ρ h1 h4 u S' ho n hn fun c' hc' ck' hck' hw'=>?_;have hck':(s.H.put c (.box l' true)).get c'=some ck':=hck';rw [Tr.get_put] at hck';split at hck'
       ·rename_i e;cases hck';subst e;exact hd _ hc' _ hc rfl
       ·exact hd _ hc' _ hck' hw'
      ·cases h
     ·cases h
   ·have hz':Mx.fz g=none:=by rw [H.fz,H.fzp g hp];rfl
    simp only [ZFn,hz',Zap] at ho;exact (HK.eff g hp _ _ _ _ ho).2 n
end
end Go.Eng
