import Derived.Test.YtipafbfdjfbkbaaGreatDoorE2Fz
set_option linter.unusedVariables false
set_option linter.unusedSectionVars false
open Option.some (injEq)
open Nat (le_refl le_succ lt_succ_self)
open List (append_assoc length_append getElem?_set flatMap append_nil length_take)
namespace Go.Eng
section
variable [Gl] [Mx] {P:Program} {K:ZcY} {E:Zcn} {F:Fr} {a:Nat->AV} {fp:Nat->Nat->Prop} {s s0:S2} {T:Tm} {S S':St} {α:Type} {k:K2 α} {r:α}
theorem ZsJ (R:Rel F a fp s T S) {t:Ty} {y:V2} {u:AV} {l:List t.den} (hv:VR2 s.nx a y u) (h:ZsC s t y=some l):∃ cs,Zl0 S t.size u=some cs/\ZdE u=some l.length/\NRs (l.flatMap t.cells) cs/\(u=.nils\/(∃ q o n z cap,u=.ms q o n cap z)\/∃ c n,u=.fs c n):=by
 have whole:∀ (c:List AV) (n:Nat),c.length=n->sub c 0 n=some c:=by
  intro c n hc;have:=Zdv (l:=[]) (c:=c) (r:=[]) (o:=0) (n:=n) rfl hc;simpa using this
 unfold ZsC at h;split at h
 ·cases h;cases hv;exact ⟨[],rfl,rfl,.nil,.inl rfl⟩
 ·rename_i w x;obtain ⟨e,h⟩:=Zal h;subst e;subst h;cases hv with | dat d=>
  rcases DR.list d with hv | ⟨hl,hv⟩
  ·subst hv;exact ⟨_,whole _ _ (Zd5 _),rfl,.refl _,.inr (.inr ⟨_,_,rfl⟩)⟩
  ·subst hv;have:(x:List t.den)=[]:=hl;subst this;exact ⟨[],rfl,rfl,.nil,.inl rfl⟩
 ·simp only [Zaa] at h;obtain ⟨ck,h1,h⟩:=h;split at h
  ·obtain ⟨e,h⟩:=Za1 h;subst e;subst h;rename_i w l wr;cases hv with | sl hc hone=>
   rcases (R.chunks _ _ h1).2 with ⟨hl,hv⟩ | ⟨hw,hv⟩ | ⟨q,o,cap,cs,pre,post,hv,hs⟩
   ·subst hl;rw [hv];exact ⟨[],rfl,rfl,.nil,.inl rfl⟩
   ·rw [hv];exact ⟨_,whole _ _ (Zd5 _),rfl,.refl _,.inr (.inr ⟨_,_,rfl⟩)⟩
   ·rw [hv];refine ⟨cs,?_,rfl,hs.nr,.inr (.inl ⟨_,_,_,_,_,rfl⟩)⟩;show (ZcK S q).ob _=_;rw [ZbR,hs.blk.rd,Zap];exact Zdv hs.off (by rw [hs.nr.length,Zd5])
  ·cases h
 ·cases h
theorem Zw2 {t:Ty} (l:List t.den):(l.flatMap t.cells).all AV.one=true:=by
 induction l with
 | nil=>rfl
 | cons x l ih=>rw [List.flatMap_cons,List.all_append,Zda,ih];rfl
theorem Zpc (R:Rel F a fp s T S) {t:Ty} {y:V2} {u:AV} {l:List t.den} {s':S2} (hv:VR2 s.nx a y u) (h:Zuj s t y=some (l,s')) :
 ∃ new S1,Zl0 S t.size u=some new/\ZdE u=some l.length/\ZbN (frz ZbW) S new=some (l.flatMap t.cells,S1)/\S1.next=S.next/\Rel F a fp s' T S1/\s'.T=s.T/\s'.nx=s.nx:=by
 have simple:(ZsC s t y).ob (fun l=>some (l,s))=some (l,s')->∃ new S1,Zl0 S t.size u=some new/\ZdE u=some l.length/\ZbN (frz ZbW) S new=some (l.flatMap t.cells,S1)/\S1.next=S.next/\Rel F a fp s' T S1/\s'.T=s.T/\s'.nx=s.nx:=by
  intro h;simp only [Zaa,injEq,Prod.mk.injEq] at h;obtain ⟨l',h1,rfl,rfl⟩:=h;obtain ⟨cs,g1,g2,g3,_⟩:=ZsJ R hv h1;exact ⟨cs,S,g1,g2,Zkd 999 _ g3,rfl,R,rfl,rfl⟩
 unfold Zuj at h;split at h
 ·rename_i c;simp only [Zaa] at h;obtain ⟨ck,h1,h⟩:=h;split at h
  ·rename_i w n l0 wr;simp only [Zaa,injEq,Prod.mk.injEq] at h;obtain ⟨⟨xs,H1⟩,h2,l',hl',rfl,rfl⟩:=h;obtain ⟨e,hl'⟩:=Za1 hl';subst e;subst hl';cases hv with | sl hc hone=>
   obtain ⟨q,cs,hv,hq,hb,hvs,hlen⟩:=R.chunks _ _ h1;rw [hv];obtain ⟨S',e1,e2,e3,R'⟩:=ZlY (ZdN 1000) w n R h2 (cs:=cs) hvs;refine ⟨cs,S',?_,by rw [<-e3];rfl,e1,e2,R',rfl,rfl⟩;show (ZcK S q).ob _=_;rw [ZbR,hb.rd,Zap];have:=Zdv (l:=[]) (c:=cs) (r:=[]) (o:=0) (n:=n * w.size) rfl (by rw [hvs.length,hlen]);simpa using this
  ·exact simple h
 ·rename_i b;simp only [Zaa,injEq,Prod.mk.injEq] at h;obtain ⟨l',hl',rfl,rfl⟩:=h;obtain ⟨e,hl'⟩:=Za1 hl';subst e;subst hl';cases hv with | dat d=>
  have:=DR.str d;subst this;have e1:List.map (fun n:UInt8=>AV.int .u8 n.toNat) b.data.toList=flatMap (Ty.cells (.int .u8)) (toB b):=by
   unfold toB
   induction b.data.toList with
   | nil=>rfl
   | cons x xs ih=>simp only [List.map_cons,List.flatMap_cons,ih];rfl
  refine ⟨flatMap (Ty.cells (.int .u8)) (toB b),S,?_,?_,Zkd 999 _ (NRs.refl _),rfl,R,rfl,rfl⟩
  ·simp only [Zl0,Ty.size,Nat.beq_refl,Znq,Zap,e1]
  ·simp only [ZdE,toB,List.length_map,Array.length_toList];rfl
 ·exact simple h
def FzN (g:FzT):Prop:=∀ (t:Ty) (v:V2) (H:Tr C2) (x:t.den) (H':Tr C2),g t v H=some (x,H')->∀ c,H.get c=none->H'.get c=none
theorem Zgd {H:Tr C2} {d c:Nat} {k1 k2:C2} (h1:H.get d=some k1) (h:H.get c=none):(H.put d k2).get c=none:=by
 rw [Tr.get_put,if_neg (fun e=>by subst e;rw [h1] at h;cases h)];exact h
theorem Zr4 {g:FzT} (G:FzN g):∀ (t:Ty) {l:List V2} {H:Tr C2} {x:t.den} {H':Tr C2},fzC g t l H=some (x,H')->∀ c,H.get c=none->H'.get c=none:=by
 have leaf:∀ (t:Ty) {l:List V2} {H:Tr C2} {x:t.den} {H':Tr C2},(match l with | [v]=>g t v H | _=>none)=some (x,H')->∀ c,H.get c=none->H'.get c=none:=by
  intro t l H x H' h;split at h
  ·exact G _ _ _ _ _ h
  ·cases h
 intro t
 induction t using Ty.ind with
 | prod p q ihp ihq=>
  intro l H x H' h c hc;simp only [fzC,Zaa,injEq] at h;obtain ⟨⟨x1,H1⟩,h1,⟨x2,H2⟩,h2,h⟩:=h;cases h;exact ihq h2 c (ihp h1 c hc)
 | st t ih=>intro l H x H' h;exact ih h
 | int k=>intro l H x H' h;exact leaf _ h
 | bool=>intro l H x H' h;exact leaf _ h
 | str=>intro l H x H' h;exact leaf _ h
 | tree k ih=>
  intro l H x H' h c hc;rw [ZGS] at h;simp only [Zaa,injEq,Prod.mk.injEq] at h;obtain ⟨⟨y,H1⟩,h1,rfl,rfl⟩:=h;exact ih h1 c hc
 | list t=>intro l H x H' h;exact leaf _ h
 | ptr t=>intro l H x H' h;exact leaf _ h
 | optr t=>intro l H x H' h;exact leaf _ h
 | opq z=>intro l H x;exact nomatch x
theorem Zuv {g:FzT} (G:FzN g) (t:Ty):∀ (m:Nat) {l:List V2} {H:Tr C2} {x:List t.den} {H':Tr C2},fzN g t m l H=some (x,H')->∀ c,H.get c=none->H'.get c=none
 | 0,l,H,x,H',h,c,hc=>by
  simp only [fzN] at h;split at h
  ·cases h;exact hc
  ·cases h
 | m+1,l,H,x,H',h,c,hc=>by
  simp only [fzN,Zaa,injEq] at h;obtain ⟨⟨x1,H1⟩,h1,⟨x2,H2⟩,h2,h⟩:=h;cases h;exact Zuv G t m h2 c (Zr4 G t h1 c hc)
theorem Zn1:∀ n,FzN (fzV n)
 | 0=>by intro t v H x H' h;cases h
 | n+1=>by
  intro t v H x H' h c hc;cases v<;>simp only [fzV] at h<;>try (cases h;done)
  case dat w y=>
   rw [Zak] at h;obtain ⟨_,h⟩:=h;simp only [Zaa,injEq,Prod.mk.injEq] at h;obtain ⟨_,_,_,rfl⟩:=h;exact hc
  case nsl=>
   split at h
   ·simp only [Zaa,injEq,Prod.mk.injEq] at h;obtain ⟨y,_,rfl,rfl⟩:=h;exact hc
   ·cases h
  case nils=>
   split at h
   ·cases h;exact hc
   ·cases h
  case sl d=>
   split at h
   ·simp only [Zaa] at h;obtain ⟨ck1,h1,h⟩:=h;cases ck1<;>(try dsimp only at h)<;>try (cases h;done)
    case own2=>
     rw [Zak] at h;obtain ⟨_,h⟩:=h;simp only [Zaa,injEq,Prod.mk.injEq] at h;obtain ⟨_,_,_,rfl⟩:=h;rw [Tr.get_del];split<;>first | rfl | exact hc
    case mix=>
     rw [Zak] at h;obtain ⟨_,h⟩:=h;simp only [Zaa] at h;obtain ⟨dk,_,h⟩:=h;split at h
     ·simp only [Zaa,injEq,Prod.mk.injEq] at h;obtain ⟨_,_,_,_,_,rfl⟩:=h;rw [Tr.get_del];split
      ·rfl
      ·rw [Tr.get_del];split<;>first | rfl | exact hc
     ·cases h
    case own=>
     rw [Zak] at h;obtain ⟨_,h⟩:=h;simp only [Zaa,injEq,Prod.mk.injEq] at h;obtain ⟨_,_,_,rfl⟩:=h;exact Zgd h1 hc
    case lit=>
     rw [Zak] at h;obtain ⟨_,h⟩:=h;simp only [Zaa,injEq,Prod.mk.injEq] at h;obtain ⟨⟨_,_⟩,h2,_,_,_,rfl⟩:=h;exact Zuv (Zn1 n) _ _ h2 c (Zgd h1 hc)
   ·cases h
  case bx d off=>
   split at h
   ·rw [Zak] at h;obtain ⟨_,h⟩:=h;simp only [Zaa] at h;obtain ⟨ck1,h1,h⟩:=h;cases ck1<;>(try dsimp only at h)<;>try (cases h;done)
    simp only [Zaa,injEq,Prod.mk.injEq] at h;obtain ⟨⟨_,_⟩,h2,_,rfl⟩:=h;exact Zr4 (Zn1 n) _ h2 c (Zgd h1 hc)
   ·rw [Zak] at h;obtain ⟨_,h⟩:=h;simp only [Zaa] at h;obtain ⟨ck1,h1,h⟩:=h;cases ck1<;>(try dsimp only at h)<;>try (cases h;done)
    simp only [Zaa,injEq,Prod.mk.injEq] at h;obtain ⟨⟨_,_⟩,h2,_,rfl⟩:=h;exact Zr4 (Zn1 n) _ h2 c (Zgd h1 hc)
   ·cases h
  case nilp=>
   split at h
   ·cases h;exact hc
   ·cases h
  case agg l=>
   split at h
   ·exact Zr4 (Zn1 n) _ h c hc
   ·cases h
theorem Zpd {t:Ty} {y:V2} {l:List t.den} {s':S2} (h:Zuj s t y=some (l,s')) {c:Nat} (hc:s.H.get c=none):s'.H.get c=none:=by
 have simple:(ZsC s t y).ob (fun l=>some (l,s))=some (l,s')->s'.H.get c=none:=by
  intro h;simp only [Zaa,injEq,Prod.mk.injEq] at h;obtain ⟨_,_,_,rfl⟩:=h;exact hc
 unfold Zuj at h;split at h
 ·simp only [Zaa] at h;obtain ⟨ck1,h1,h⟩:=h;split at h
  ·simp only [Zaa,injEq,Prod.mk.injEq] at h;obtain ⟨⟨_,_⟩,h2,_,_,_,rfl⟩:=h;exact Zuv (Zn1 1000) _ _ h2 c hc
  ·exact simple h
 ·simp only [Zaa,injEq,Prod.mk.injEq] at h;obtain ⟨_,_,_,rfl⟩:=h;exact hc
 ·exact simple h
theorem Zlc {n b:Nat} (h:n<=1000000) (hb:b<=1000):ZdF n b=true:=by
 have h1:n * b<=1000000 * 1000:=Nat.mul_le_mul h hb;have h2:1000000 * 1000<=big:=by unfold big;omega
 have h3:1000000<=big:=by unfold big;omega
 unfold ZdF;rw [Zah.2 (Nat.le_trans h h3),Zah.2 (Nat.le_trans h1 h2)];rfl
theorem Rel.newNil (R:Rel F a fp s T S) (t:Ty) (w:Bool):∃ a' fp',a' s.nx=.nils/\(∀ c,c < s.nx->fp' c=fp c/\a' c=a c)/\Rel F a' fp' ⟨s.T,s.H.put s.nx (.own t [] w),s.nx+1⟩ T S:=by
 have R1:=R.room .nils;refine ⟨_,_,by simp,fun d hd=>⟨if_neg (by omega),if_neg (by omega)⟩,R1.add (c:=s.nx) (ck:=.own t [] w) (Pn:=fun _=>False) R.none_nx (by show s.nx < s.nx+1;omega) ?_ (fun n hn=>hn.elim) (fun _ _ _ _ n hn=>hn.elim) (fun n hn=>hn.elim) (fun _ n hn=>hn.elim)⟩;simp only [if_true];exact ⟨rfl,.inl ⟨rfl,rfl⟩⟩
theorem Zmb (R:Rel F a fp s T S) {t:Ty} {g:TE} (hg1:g.size=t.size) (hg2:g.bytes<=1000) (ys:List t.den) (hl:ys.length<=1000000) (hk:k (.sl s.nx) ⟨s.T,s.H.put s.nx (.own t ys true),s.nx+1⟩=some r) :
 Res F a fp s T S (Zfn S g (ys.flatMap t.cells) ys.length .nils) k r:=by
 cases ys with
 | nil=>
  obtain ⟨a',fp',ha,hfp,R'⟩:=R.newNil t true;exact ZeP R (by simp [Zfn,bc]) (le_refl _) R' rfl (lt_succ_self _) ha rfl hk (le_succ _) hfp
 | cons y ys=>
  obtain ⟨a',fp',ha,hb,hfp,R'⟩:=R.newOwn (t:=t) (l:=y::ys) (n:=(y::ys).length) (cap:=none) (cs:=(y::ys).flatMap t.cells) (post:=[]) rfl (.refl _) (fun k hk=>by cases hk);rw [append_nil] at R';refine ZeP R ?_ (le_succ _) R' rfl (lt_succ_self _) ha rfl hk (le_succ _) (fun c hc=>⟨hfp c hc,hb c hc⟩);have hb:(y::ys).length.beq 0=false:=rfl;simp only [Zfn,hb,Zan,Zlc hl hg2,chk,Zag,Zap,hg1]
theorem Zpe (H:TyR P E) (R:Rel F a fp s T S) {t:TypeId} {e:TE} (he:te P t=some e) {c:Nat} {i:Int} {z off:Nat} {w:Ty} {l:List (List w.den)} {h':Option (Int×Nat)} {v:V2} {cp dv:AV} (r1:VR2 s.nx a (.el c i z off) cp) (r2:VR2 s.nx a v dv) (h3:s.H.get c=some (.own2 w l h'))
 (h:ZjT E s t w l h' c i z off v k=some r):Res F a fp s T S ((Zc6 e S cp dv).ob fun S'=>some (.tup [],S')) k r:=by
 simp only [ZjT,Zaa] at h;obtain ⟨u,h2,h⟩:=h;obtain ⟨e',he',ok⟩:=H.ok _ _ h2;rw [he] at he';cases he';split at h
 ·rename_i e0 d0;simp only [Zak,Bool.and_eq_true,Zad,Bool.not_eq_true'] at h;obtain ⟨⟨⟨hz,ho⟩,hdc⟩,h⟩:=h;obtain ⟨yy,hyy,hb⟩:=Option.bind_eq_some_iff.1 h;clear h;simp only [Zaa] at hb;obtain ⟨dk,h4,hb⟩:=hb;split at hb
  ·rename_i w' m;simp only [Zaa] at hb;obtain ⟨m',hm,y,hy,hb⟩:=hb;obtain ⟨e9,hm⟩:=Za1 hm;subst e9;subst hm;obtain ⟨e8,_⟩:=Zal hy;subst e8;subst hz;subst ho;rw [Zbm (x:=r)] at hb;obtain ⟨hie,hb⟩:=hb;have hie:=of_decide_eq_true hie;obtain ⟨ei,ed⟩:=e0;dsimp only at hie;subst hie;obtain ⟨g0,g1,g2⟩:=ZaI hyy;have hcd:c≠d0:=fun e=>by
    have:d0.beq c=true:=Zad.2 e.symm;rw [this] at hdc;cases hdc
   cases r2 with | sl hd hone=>
   have m2:Znx S.heap (fp d0) (a d0) w' m true:=R.chunks _ _ h4;have hCk:=R.chunks _ _ h3;rcases hCk.2 with ⟨hl,_⟩ | ⟨q,o,cap,cs,pre,post,hv,hq,hbk,hpo,hcl,_,fps,k1,k2,k3⟩
   ·subst hl;simp at g1
   ·have hcp:cp=.mp q (o+i.toNat * 1+0):=by
     cases r1 with
     | el hc hb'=>rw [hv] at hb';cases hb';rfl
     | elf hc hb'=>rw [hv] at hb';cases hb'
    subst hcp;have hi:i.toNat < cs.length:=by omega
    have hset:cs.set i.toNat (a d0)=cs.take i.toNat++([a d0]++cs.drop (i.toNat+1)):=by
     rw [List.set_eq_take_append_cons_drop,if_pos hi];rfl
    have hcs:cs=cs.take i.toNat++([cs[i.toNat]]++cs.drop (i.toNat+1)):=by
     simp
    have hov:over (pre++(cs++post)) (o+i.toNat * 1+0) [a d0]=some (pre++(cs.set i.toNat (a d0)++post)):=by
     have h1:=Zeg (pre++cs.take i.toNat) [cs[i.toNat]] (cs.drop (i.toNat+1)++post) [a d0] rfl;have h2:(pre++cs.take i.toNat).length=o+i.toNat * 1+0:=by
      rw [length_append,length_take];omega
     rw [h2] at h1;have h3:pre++(cs++post)=(pre++cs.take i.toNat)++([cs[i.toNat]]++(cs.drop (i.toNat+1)++post)):=by
      rw [show pre++(cs++post)=pre++((cs.take i.toNat++([cs[i.toNat]]++cs.drop (i.toNat+1)))++post) from by rw [<-hcs]];simp only [append_assoc]
     rw [h3,h1,hset];simp [append_assoc]
    have hcell:(a d0).cells=[a d0]:=ZgB hone;have hst:Zc6 e S (.mp q (o+i.toNat * 1+0)) (a d0)=some ⟨S.heap.put q (.cells (pre++(cs.set i.toNat (a d0)++post))),S.next⟩:=by
     have hs1:Nat.beq 1 e.size=true:=Zad.2 ok.size.symm;simp only [Zc6,cellsOf,hbk,Zap,hcell,List.length_singleton,hs1,List.all_cons,List.all_nil,hone,Bool.and_self,chk,Zag,hov]
    rw [hst];have hq0:∀ n,fp d0 n->¬ fp c n:=fun n h1=>R.dis d0 c _ _ h4 h3 hcd.symm (.inl rfl) n h1
    let fp3:Nat->Nat->Prop:=fun d n=>if d=c then fp c n\/fp d0 n else fp d n
    have f1:fp3 c=fun n=>fp c n\/fp d0 n:=by funext n;exact if_pos rfl
    have f2:∀ d,d≠c->fp3 d=fp d:=fun d h=>by funext n;exact if_neg h
    have g:∀ d kd,((s.H.del d0).put c (.own2 w' (Zaq l i m) none)).get d=some kd->(d=c/\kd=.own2 w' (Zaq l i m) none)\/(d≠c/\d≠d0/\s.H.get d=some kd):=by
     intro d kd hk;rw [Tr.get_put] at hk;split at hk
     ·cases hk;exact .inl ⟨by assumption,rfl⟩
     ·rw [Tr.get_del] at hk;split at hk
      ·cases hk
      ·exact .inr ⟨by assumption,by assumption,hk⟩
    have hheap:∀ n,n≠q->(S.heap.put q (.cells (pre++(cs.set i.toNat (a d0)++post)))).get n=S.heap.get n:=fun n hn=>by rw [Tr.get_put,if_neg hn]
    have low:∀ d kd,((s.H.del d0).put c (.own2 w' (Zaq l i m) none)).get d=some kd->∀ n,fp3 d n->∃ d1 k1,s.H.get d1=some k1/\fp d1 n/\(kd.w=true->k1.w=true):=by
     intro d kd hk n hn;rcases g d kd hk with ⟨rfl,rfl⟩ | ⟨n1,_,hk⟩
     ·rw [f1] at hn;rcases hn with hn | hn
      ·exact ⟨_,_,h3,hn,fun _=>rfl⟩
      ·exact ⟨_,_,h4,hn,fun _=>rfl⟩
     ·rw [f2 d n1] at hn;exact ⟨d,kd,hk,hn,fun h=>h⟩
    refine ⟨.tup [],.tup [],⟨s.T,(s.H.del d0).put c (.own2 w' (Zaq l i m) none),s.nx⟩,a,fp3,⟨S.heap.put q (.cells (pre++(cs.set i.toNat (a d0)++post))),S.next⟩,rfl,le_refl _,{ slots:=R.slots,chunks:=?_,dis:=?_,lt:=?_,nx:=?_,fex:=?_,fro:=?_,dex:=?_,dro:=?_ },rfl,.tup .nil,hb,le_refl _,fun d hd=>⟨rfl,fun hnone=>f2 d (fun e=>by rw [e,h3] at hnone;cases hnone)⟩⟩
    ·intro d kd hk;rcases g d kd hk with ⟨rfl,rfl⟩ | ⟨n1,n2,hk⟩
     ·rw [f1];refine ⟨hCk.1,.inr ⟨q,o,cap,cs.set i.toNat (a d0),pre,post,by rw [hv];simp [Zaq],.inl hq,by rw [Tr.get_put,if_pos rfl],hpo,by simp [Zaq,hcl],(fun i d he=>by cases he),fun j n=>(j=i.toNat/\fp d0 n)\/(j≠i.toNat/\fps j n),?_,?_,?_⟩⟩
      ·rintro j n (⟨_,hn⟩ | ⟨_,hn⟩)
       ·exact ⟨.inr hn,fun e=>hq0 n hn (by rw [e];exact hq)⟩
       ·exact ⟨.inl (k1 j n hn).1,(k1 j n hn).2⟩
      ·rintro j j' n hne (⟨e1,hn⟩ | ⟨e1,hn⟩) (⟨e2,hn'⟩ | ⟨e2,hn'⟩)
       ·exact hne (e1.trans e2.symm)
       ·exact hq0 n hn (k1 j' n hn').1
       ·exact hq0 n hn' (k1 j n hn).1
       ·exact k2 j j' n hne hn hn'
      ·intro j x hx _;unfold Zaq at hx;rw [getElem?_set] at hx;by_cases hji:i.toNat=j
       ·rw [if_pos hji,if_pos (by omega)] at hx;cases hx;refine ⟨a d0,by rw [getElem?_set,if_pos hji,if_pos (by omega)],m2.mono (fun n hn=>.inl ⟨hji.symm,hn⟩) (fun n hn=>hheap n (fun e=>hq0 n hn (by rw [e];exact hq)))⟩
       ·rw [if_neg hji] at hx;obtain ⟨cj,p1,p2⟩:=k3 j x hx (fun e=>hji (by cases e;simp));exact ⟨cj,by rw [getElem?_set,if_neg hji];exact p1,p2.mono (fun n hn=>.inr ⟨fun e=>hji e.symm,hn⟩) (fun n hn=>hheap n (k1 j n hn).2)⟩
     ·rw [f2 d n1];exact (R.chunks d kd hk).mono (le_refl _) (fun _ _=>rfl) (fun n hn=>hheap n (fun e=>R.dis d c kd _ hk h3 n1 (.inr rfl) n hn (by rw [e];exact hq)))
    ·intro d d' kd kd' hk hk' hne hw n hf hf';replace hk:=g d kd hk;replace hk':=g d' kd' hk';rcases hk with ⟨rfl,rfl⟩ | ⟨n1,n2,hk⟩<;>rcases hk' with ⟨rfl,rfl⟩ | ⟨n1',n2',hk'⟩
     ·exact hne rfl
     ·rw [f1] at hf;rw [f2 _ n1'] at hf';rcases hf with hf | hf
      ·exact R.dis _ d' _ kd' h3 hk' (fun e=>n1' e.symm) (.inl rfl) n hf hf'
      ·exact R.dis d0 d' _ kd' h4 hk' (fun e=>n2' e.symm) (.inl rfl) n hf hf'
     ·rw [f1] at hf';rw [f2 _ n1] at hf;rcases hf' with hf' | hf'
      ·exact R.dis d _ kd _ hk h3 n1 (.inr rfl) n hf hf'
      ·exact R.dis d d0 kd _ hk h4 n2 (.inr rfl) n hf hf'
     ·rw [f2 _ n1] at hf;rw [f2 _ n1'] at hf';exact R.dis d d' kd kd' hk hk' hne hw n hf hf'
    ·intro d kd hk n hn;obtain ⟨d1,k1,p1,p2,_⟩:=low d kd hk n hn;exact R.lt d1 k1 p1 n p2
    ·intro d kd hk;rcases g d kd hk with ⟨rfl,_⟩ | ⟨_,_,hk⟩
     ·exact R.nx _ _ h3
     ·exact R.nx _ _ hk
    ·intro n hn;obtain ⟨e1,e2⟩:=R.fex n hn;exact ⟨by rw [<-e1];exact hheap n (fun e=>R.dex c _ h3 n (by rw [e];exact hq) hn),e2⟩
    ·intro n hn;obtain ⟨e1,e2⟩:=R.fro n hn;exact ⟨by rw [<-e1];exact congrArg rdB (hheap n (fun e=>R.dro c _ h3 rfl n (by rw [e];exact hq) hn)),e2⟩
    ·intro d kd hk n hn;obtain ⟨d1,k1,p1,p2,_⟩:=low d kd hk n hn;exact R.dex d1 k1 p1 n p2
    ·intro d kd hk hw n hn;obtain ⟨d1,k1,p1,p2,p3⟩:=low d kd hk n hn;exact R.dro d1 k1 p1 (p3 hw) n p2
  ·cases hb
 ·cases h
theorem ZSe (H:TyR P E) (R:Rel F a fp s T S) {t:TypeId} {e:TE} (he:te P t=some e) {c:Nat} {i:Int} {z off d0:Nat} {w:Ty} {l:List (List w.den)} {cp dv:AV} (r1:VR2 s.nx a (.el c i z off) cp) (r2:VR2 s.nx a (.sl d0) dv) (h3:s.H.get c=some (.own (.list w) l true))
 (h:ZRF E s t w l c i z off d0 k=some r):Res F a fp s T S ((Zc6 e S cp dv).ob fun S'=>some (.tup [],S')) k r:=by
 simp only [ZRF,Zaa] at h;obtain ⟨u,h2,h⟩:=h;obtain ⟨e',he',ok⟩:=H.ok _ _ h2;rw [he] at he';cases he';simp only [Zak,Bool.and_eq_true,Zad,Bool.not_eq_true'] at h;obtain ⟨⟨⟨hz,ho⟩,hdc⟩,h⟩:=h;obtain ⟨yy,hyy,hb⟩:=Option.bind_eq_some_iff.1 h;clear h;simp only [Zaa] at hb;obtain ⟨dk,h4,hb⟩:=hb;split at hb
 ·rename_i w' m;simp only [Zaa] at hb;obtain ⟨m',hm,y,hy,hb⟩:=hb;obtain ⟨e9,hm⟩:=Za1 hm;subst e9;subst hm;obtain ⟨e8,_⟩:=Zal hy;subst e8;subst hz;subst ho;obtain ⟨g0,g1,g2⟩:=ZaI hyy;cases r2 with | sl hd hone=>
  have hCk:=R.chunks _ _ h3;rcases hCk.2 with ⟨hl,_⟩ | ⟨hw,_⟩ | ⟨q,o,cap,cs,pre,post,hv,hs⟩
  ·subst hl;simp at g1
  ·cases hw
  ·have hbk:S.heap.get q=some (.cells (pre++(cs++post))):=hs.blk;have hpo:=hs.off;have hfm:flatMap (Ty.list w').cells l=l.map fun x=>AV.fs (x.flatMap w'.cells) x.length:=(List.map_eq_flatMap).symm;have hnr:=hs.nr;rw [hfm] at hnr;have hcl:cs.length=l.length:=by rw [hnr.length,List.length_map]
   have hcp:cp=.mp q (o+i.toNat * 1+0):=by
    cases r1 with
    | el hc hb'=>rw [hv] at hb';cases hb';rfl
    | elf hc hb'=>rw [hv] at hb';cases hb'
   subst hcp;have hi:i.toNat < cs.length:=by omega
   have hset:cs.set i.toNat (a d0)=cs.take i.toNat++([a d0]++cs.drop (i.toNat+1)):=by
    rw [List.set_eq_take_append_cons_drop,if_pos hi];rfl
   have hcs:cs=cs.take i.toNat++([cs[i.toNat]]++cs.drop (i.toNat+1)):=by
    simp
   have hov:over (pre++(cs++post)) (o+i.toNat * 1+0) [a d0]=some (pre++(cs.set i.toNat (a d0)++post)):=by
    have h1:=Zeg (pre++cs.take i.toNat) [cs[i.toNat]] (cs.drop (i.toNat+1)++post) [a d0] rfl;have h2:(pre++cs.take i.toNat).length=o+i.toNat * 1+0:=by
     rw [length_append,length_take];omega
    rw [h2] at h1;have h3:pre++(cs++post)=(pre++cs.take i.toNat)++([cs[i.toNat]]++(cs.drop (i.toNat+1)++post)):=by
     rw [show pre++(cs++post)=pre++((cs.take i.toNat++([cs[i.toNat]]++cs.drop (i.toNat+1)))++post) from by rw [<-hcs]];simp only [append_assoc]
    rw [h3,h1,hset];simp [append_assoc]
   have hcell:(a d0).cells=[a d0]:=ZgB hone;have hst:Zc6 e S (.mp q (o+i.toNat * 1+0)) (a d0)=some ⟨S.heap.put q (.cells (pre++(cs.set i.toNat (a d0)++post))),S.next⟩:=by
    have hs1:Nat.beq 1 e.size=true:=Zad.2 ok.size.symm;simp only [Zc6,cellsOf,hbk,Zap,hcell,List.length_singleton,hs1,List.all_cons,List.all_nil,hone,Bool.and_self,chk,Zag,hov]
   rw [hst];refine ⟨.tup [],.tup [],_,a,fp,_,rfl,le_refl _,R.set (S':=⟨S.heap.put q (.cells (pre++(cs.set i.toNat (a d0)++post))),S.next⟩) (ck':=.mix w' l (i,d0)) h3 rfl (fun n _ hn=>?_) (le_refl _) ?_,rfl,.tup .nil,hb,le_refl _,fun d hd=>⟨rfl,fun _=>rfl⟩⟩
   ·show (S.heap.put q _).get n=_;rw [Tr.get_put,if_neg (fun e=>hn (by rw [e];exact hs.fp))]
   ·refine ⟨⟨g0,by omega⟩,q,o,cap,cs.set i.toNat (a d0),pre,post,hv,hs.fp,by rw [Tr.get_put,if_pos rfl],hpo,by rw [List.length_set];exact hcl,hd,hone,by rw [getElem?_set,if_pos rfl,if_pos hi],fun j x hx hne=>?_⟩;dsimp only at hne;obtain ⟨cv,p1,p2⟩:=hnr.get (n:=j) (c:=.fs (x.flatMap w'.cells) x.length) (by rw [List.getElem?_map,hx];rfl);exact ⟨cv,by rw [getElem?_set,if_neg (by omega)];exact p1,p2⟩
 ·cases hb
theorem Zr5 (H:TyR P E) (R:Rel F a fp s T S) {t:TypeId} {x y:Operand} (h:op2 E (.store t x y) s k=some r):Res F a fp s T S (opK P K (.store t x y) T S) k r:=by
 simp only [op2,Zaa] at h;obtain ⟨p,h1,v,h1',h⟩:=h;obtain ⟨c,e1,r1⟩:=Zbd R h1;obtain ⟨d,e2,r2⟩:=Zbd R h1';cases hs:E.sf t x y<;>rw [hs] at h
 ·rw [Zan] at h;have h2:∃ u,E.ty t=some u:=by
   split at h
   ·split at h
    ·simp only [ZjT,Zaa] at h;obtain ⟨u,h,_⟩:=h;exact ⟨u,h⟩
    ·split at h
     ·simp only [ZRF,Zaa] at h;obtain ⟨u,h,_⟩:=h;exact ⟨u,h⟩
     ·simp only [ZcZ,Zaa] at h;obtain ⟨u,h,_⟩:=h;exact ⟨u,h⟩
    ·simp only [ZcZ,Zaa] at h;obtain ⟨u,h,_⟩:=h;exact ⟨u,h⟩
   ·simp only [ZcZ,Zaa] at h;obtain ⟨u,h,_⟩:=h;exact ⟨u,h⟩
  obtain ⟨u,h2⟩:=h2;obtain ⟨e,he,ok⟩:=H.ok _ _ h2;have ho:opK P K (.store t x y) T S=(Zc6 e S c d).ob fun S'=>some (.tup [],S'):=by
   simp only [opK,aOp,he,e1,e2,Zap,<-H.sf,hs,ZvR,cond_false,Zwe]
  rw [ho];split at h
  ·split at h
   ·exact Zpe H R he r1 r2 (by assumption) h
   ·split at h
    ·exact ZSe H R he r1 r2 (by assumption) h
    ·exact Zfz H R he r1 r2 h
   ·exact Zfz H R he r1 r2 h
  ·exact Zfz H R he r1 r2 h
 ·have h:((E.ty t).ob fun u=>bc (!u.isProd) ((fzV 1000 u v s.H).ob fun q=>ZcZ E ⟨s.T,q.2,s.nx⟩ t p (.dat u q.1) k) none)=some r:=h;simp only [Zaa,Zak,Bool.not_eq_true'] at h;obtain ⟨u,h2,hp,⟨z,H'⟩,h3,h⟩:=h;obtain ⟨e,he,ok⟩:=H.ok _ _ h2;obtain ⟨S1,f1,f2,R1⟩:=ZdN 1000 F a fp s T S R u v z H' h3 d r2;have ho:opK P K (.store t x y) T S=(Zc6 e S1 c (u.enc z)).ob fun S'=>some (.tup [],S'):=by
   simp only [opK,aOp,he,e1,e2,Zap,<-H.sf,hs,ZvR,cond_true,show ZbW=1000 from rfl,f1]
  rw [ho];obtain ⟨v',u',s',a',fp',S',g1,g2,g3,g4,g5,g6,g7,g8⟩:=Zfz H R1 he r1 (.dat (DR.enc' z hp)) h;refine ⟨v',u',s',a',fp',S',g1,by rw [<-f2];exact g2,g3,g4,g5,g6,g7,fun c hc=>⟨(g8 c hc).1,fun hn=>(g8 c hc).2 (Zn1 1000 _ _ _ _ _ h3 c hn)⟩⟩
theorem Zpf (H:TyR P E) (R:Rel F a fp s T S) {x y:Operand} {t tu:TypeId} {args:Array Operand} {ts:Array TypeId} (ha:args.toList=[x,y]) (hts:ts.toList=[t,tu])
 (h:((E.ty tu).ob fun w=>bc (ZsE w) none ((ev2 s x).ob fun x=>(ev2 s y).ob fun y=>Zi4 E s t x y k))=some r):Res F a fp s T S (opK P K (.call ⟨.builtin .append,args,ts⟩) T S) k r:=by
 simp only [Zaa,Zi8] at h;obtain ⟨wu,h0,hi,vx,h1,vy,h2,h⟩:=h;obtain ⟨eu,heu,oku⟩:=H.ok _ _ h0;obtain ⟨c,e1,r1⟩:=Zbd R h1;obtain ⟨d,e2,r2⟩:=Zbd R h2;simp only [Zi4,Zaa] at h;obtain ⟨u,h3,h⟩:=h;cases u<;>(try dsimp only at h)<;>try (cases h;done)
 rename_i u;obtain ⟨e,el,g,he,hu,hg,_,ok⟩:=Zn0 H h3;simp only [Zaa] at h;obtain ⟨⟨ys,s1⟩,h4,h⟩:=h;obtain ⟨new,S1,k1,k2,k3,k4,R1,k5,k6⟩:=Zpc R r2 h4;dsimp only at h;have hnint:∀ j,eu.und≠.int j:=by
  intro j hd;have:=oku.und;rw [hd] at this;cases wu<;>simp only [ZcJ,Bool.false_eq_true] at this;cases hi
 have hz:(g.zero.cells.length.beq g.size&&!g.size.beq 0)=true:=by
  have:=Ty.size_pos u;rw [Zad.2 (by rw [ok.zero,Ty.zcv_len,ok.size]),ZaR (by rw [ok.size];omega)];rfl
 have ho:opK P K (.call ⟨.builtin .append,args,ts⟩) T S=Zfn S1 g (ys.flatMap u.cells) ys.length c:=by
  simp only [opK,ha,hts,evs,e1,e2,Zap,Zbn,heu];have happ:Ze5 P S t c d=Zfn S1 g (ys.flatMap u.cells) ys.length c:=by
   simp only [Ze5,he,hu,Zcq,hg,Zap,hz,chk,Zag];rw [ok.size,k1,Zap,k2,Zap,k3,Zap];simp only [Zw2,Zag,Zap]
  cases hd:eu.und
  case int j=>exact absurd hd (hnint j)
  all_goals exact happ
 rw [ho];have fin:∀ {z},Res F a fp s1 T S1 z k r->Res F a fp s T S z k r:=by
  rintro z ⟨v,w,s',a',fp',S',q1,q2,q3,q4,q5,q6,q7,q8⟩;exact ⟨v,w,s',a',fp',S',q1,by rw [<-k4];exact q2,q3,by rw [q4,k5],q5,q6,by rw [<-k6];exact q7,fun c hc=>⟨(q8 c (by rw [k6];exact hc)).1,fun hn=>(q8 c (by rw [k6];exact hc)).2 (Zpd h4 hn)⟩⟩
 apply fin;rw [<-k6] at r1;cases vx<;>(try dsimp only at h)<;>try (cases h;done)
 case nils=>
  rw [Zbm (x:=r)] at h;cases r1;exact Zmb R1 ok.size ok.bytes ys (of_decide_eq_true h.1) h.2
 case sl c0=>
  simp only [Zaa] at h;obtain ⟨ck,h5,h⟩:=h;split at h
  ·rename_i w l;simp only [Zaa] at h;obtain ⟨l',hl',h⟩:=h;obtain ⟨e3,hl'⟩:=Za1 hl';subst e3;subst hl';rw [Zbm (x:=r)] at h;obtain ⟨hroom,h⟩:=h;have hroom:=of_decide_eq_true hroom;dsimp only at hroom h;cases r1 with | sl hc hone=>
   have Rd:=R1.del c0;rcases (R1.chunks _ _ h5).2 with ⟨hl,hv⟩ | ⟨hw,hv⟩ | ⟨q,o,cap,cs,pre,post,hv,hs⟩
   ·subst hl;rw [hv];obtain ⟨v,w1,s',a',fp',S',q1,q2,q3,q4,q5,q6,q7,q8⟩:=Zmb Rd ok.size ok.bytes ys (by simpa using hroom) h;exact ⟨v,w1,s',a',fp',S',q1,q2,q3,q4,q5,q6,q7,fun c hc=>⟨(q8 c hc).1,fun hn=>(q8 c hc).2 (by
     show (s1.H.del c0).get c=none;rw [Tr.get_del];split
     ·rfl
     ·exact hn)⟩⟩
   ·cases hw
   ·rw [hv];have hblk:S1.heap.get q=some (.cells (pre++(cs++post))):=hs.blk;have hcl:cs.length=l.length * w.size:=by rw [hs.nr.length,Zd5]
    have hsub:sub (pre++(cs++post)) o (l.length * w.size)=some cs:=Zdv hs.off hcl;have hnr:NRs ((l++ys).flatMap w.cells) (cs++ys.flatMap w.cells):=by rw [List.flatMap_append];exact hs.nr.append (.refl _)
    have hch:(w.size.beq g.size&&ZdF (l.length+ys.length) g.bytes)=true:=by rw [Zad.2 ok.size.symm,Zlc hroom ok.bytes];rfl
    have hch2:(w.size.beq w.size&&ZdF (l.length+ys.length) g.bytes)=true:=by rw [Zad.2 rfl,Zlc hroom ok.bytes];rfl
    have hcf:cellsOf S1 q=some (pre++(cs++post)):=by unfold cellsOf;rw [hblk,Zap]
    cases cap with
    | none=>
     have Rh:Rel F a fp ⟨s1.T,s1.H.del c0,s1.nx⟩ T ⟨S1.heap.del q,S1.next⟩:=Rd.heap (S':=⟨S1.heap.del q,S1.next⟩) (Dn:=fp c0)
      (fun n _ hn=>by show (S1.heap.del q).get n=_;rw [Tr.get_del,if_neg (fun e=>hn (by rw [e];exact hs.fp))]) (le_refl _)
      (fun c' kk hk n hn hd=>by
       rw [show (S2.mk s1.T (s1.H.del c0) s1.nx).H.get c'=(s1.H.del c0).get c' from rfl,Tr.get_del] at hk;split at hk
       ·cases hk
       ·rename_i hne;exact R1.dis c' c0 kk _ hk h5 hne (.inr rfl) n hn hd)
      (fun n hd=>⟨R1.dex c0 _ h5 n hd,R1.dro c0 _ h5 rfl n hd⟩)
     obtain ⟨a',fp',hav,hab,hfp,R'⟩:=Rh.newOwn (t:=w) (l:=l++ys) (n:=l.length+ys.length) (cap:=none) (cs:=cs++ys.flatMap w.cells) (post:=[]) (by simp) hnr (fun k hk=>by cases hk);rw [append_nil] at R';refine ZeP R1 ?_ (le_succ _) R' rfl (lt_succ_self _) hav rfl h (le_succ _) (fun c hc=>⟨hfp c hc,hab c hc⟩);simp only [Zfn,hcf,Zap,hch2,chk,Zag,hsub,ok.size]
    | some kk=>
     obtain ⟨g1,g2⟩:=hs.cap kk rfl;have g2:=g2 rfl;cases hk:Nat.ble (l.length+ys.length) kk
     ·obtain ⟨a',fp',hav,hab,hfp,R'⟩:=Rd.newOwn (t:=w) (l:=l++ys) (n:=l.length+ys.length) (cap:=none) (cs:=cs++ys.flatMap w.cells) (post:=[]) (by simp) hnr (fun k hk=>by cases hk);rw [append_nil] at R';refine ZeP R1 ?_ (le_succ _) R' rfl (lt_succ_self _) hav rfl h (le_succ _) (fun c hc=>⟨hfp c hc,hab c hc⟩);simp only [Zfn,hcf,Zap,hch2,chk,Zag,hk,Zan,hsub,ok.size]
     ·have hle:=Zah.1 hk;have hyl:(ys.flatMap w.cells).length=ys.length * w.size:=Zd5 ys;have hpost:ys.length * w.size<=post.length:=by
       simp only [length_append,hs.off,hcl] at g2;have:(l.length+ys.length) * w.size<=kk * w.size:=Nat.mul_le_mul_right _ hle;rw [Nat.add_mul] at this;omega
      have e5:pre++(cs++post)=(pre++cs)++(post.take (ys.length * w.size)++post.drop (ys.length * w.size)):=by
       rw [List.take_append_drop,append_assoc]
      have hov:=Zeg (pre++cs) (post.take (ys.length * w.size)) (post.drop (ys.length * w.size)) (ys.flatMap w.cells) (by rw [hyl,length_take];omega);rw [<-e5,length_append,hs.off,hcl] at hov;have Rh:Rel F a fp ⟨s1.T,s1.H.del c0,s1.nx⟩ T ⟨S1.heap.put q (.cells ((pre++cs)++(ys.flatMap w.cells++post.drop (ys.length * w.size)))),S1.next⟩:=
       Rd.heap (S':=⟨S1.heap.put q (.cells ((pre++cs)++(ys.flatMap w.cells++post.drop (ys.length * w.size)))),S1.next⟩) (Dn:=fp c0)
       (fun n _ hn=>by show (S1.heap.put q _).get n=_;rw [Tr.get_put,if_neg (fun e=>hn (by rw [e];exact hs.fp))]) (le_refl _)
       (fun c' kk hk n hn hd=>by
        rw [show (S2.mk s1.T (s1.H.del c0) s1.nx).H.get c'=(s1.H.del c0).get c' from rfl,Tr.get_del] at hk;split at hk
        ·cases hk
        ·rename_i hne;exact R1.dis c' c0 kk _ hk h5 hne (.inr rfl) n hn hd)
       (fun n hd=>⟨R1.dex c0 _ h5 n hd,R1.dro c0 _ h5 rfl n hd⟩)
      have Rr:=Rh.room (.ms q o (l.length+ys.length) (some kk) w.size);have g:∀ c' k',(s1.H.del c0).get c'=some k'->s1.H.get c'=some k'/\c'≠c0:=by
       intro c' k' h;rw [Tr.get_del] at h;split at h
       ·cases h
       ·exact ⟨h,by assumption⟩
      have Ra:=Rr.add (c:=s1.nx) (ck:=.own w (l++ys) true) (Pn:=fp c0) Rd.none_nx (by show s1.nx < s1.nx+1;omega) (by
       simp only [if_true];refine ⟨rfl,.inr (.inr ⟨q,o,some kk,cs++ys.flatMap w.cells,pre,post.drop (ys.length * w.size),by simp,hs.fp,?_,hs.off,hnr,?_⟩)⟩
       ·show (S1.heap.put q _).get q=_;rw [Tr.get_put,if_pos rfl];simp [append_assoc]
       ·intro k' hk';cases hk';refine ⟨by simpa using hle,fun _=>?_⟩;simp only [length_append,List.length_drop,hyl,hcl,hs.off] at g2 |-
        omega)
       (fun n hn=>R1.lt c0 _ h5 n hn) (fun c' k' hk' _ n hn hf=>R1.dis c' c0 k' _ (g c' k' hk').1 h5 (g c' k' hk').2 (.inr rfl) n hf hn)
       (fun n hn=>R1.dex c0 _ h5 n hn) (fun _ n hn=>R1.dro c0 _ h5 rfl n hn)
      refine ZeP R1 (s':=⟨s1.T,(s1.H.del c0).put s1.nx (.own w (l++ys) true),s1.nx+1⟩) (c:=s1.nx) (v:=.ms q o (l.length+ys.length) (some kk) w.size) (S':=⟨S1.heap.put q (.cells ((pre++cs)++(ys.flatMap w.cells++post.drop (ys.length * w.size)))),S1.next⟩) ?_ (le_refl _) Ra rfl (lt_succ_self _) (if_pos rfl) rfl h (le_succ _) (fun d hd=>⟨if_neg (by omega),if_neg (by dsimp only;omega)⟩);simp only [Zfn,hcf,Zap,hch,chk,Zag,hk];rw [ok.size,hov,Zap]
  ·cases h
theorem Zmc:∀ {l:List Int} {cs:List AV},NRs (l.flatMap (Ty.cells (.int .u8))) cs->Zcc cs=some (l.map fun n=>UInt8.ofNat n.toNat)
 | [],cs,h=>by cases h;rfl
 | n::l,cs,h=>by
  obtain ⟨b,d,rfl,h1,h2⟩:=NRs.split h;cases h1 with | cons h3 h4=>
  cases h4;rcases h3 with rfl | ⟨e,_⟩
  ·show (Zcc d).ob _=_;rw [Zmc h2,Zap];rfl
  ·cases e
theorem Zn2 (H:TyR P E) (R:Rel F a fp s T S) {t u:TypeId} {x:Operand} (h:op2 E (.convert t u x) s k=some r):Res F a fp s T S (opK P K (.convert t u x) T S) k r:=by
 simp only [op2,Zrn,Zaa] at h;obtain ⟨v,h1,a1,h2,a2,h3,h⟩:=h;obtain ⟨c,e1,r1⟩:=Zbd R h1;obtain ⟨et,het,okt⟩:=H.ok _ _ h2;obtain ⟨eu,heu,oku⟩:=H.ok _ _ h3;have ho:opK P K (.convert t u x) T S=(Zfm P S t u c).ob fun v=>some (v,S):=by simp only [opK,aOp,e1,Zap]
 rw [ho];split at h
 ·cases r1 with | dat d=>
  have:=DR.int d;subst this;exact Zbs R (by simp only [Zfm,het,heu,ZdM okt.und,ZdM oku.und,Zap]) h
 ·cases r1 with | dat d=>
  have:=DR.str d;subst this;exact Zi7 R (by simp only [Zfm,het,heu,ZcT okt.und,ZcT oku.und,Zap]) h
 ·simp only [Zaa] at h;obtain ⟨l,h4,h⟩:=h;obtain ⟨el,hel,h5⟩:=Zcx okt.und;obtain ⟨g,hg,okg⟩:=H.ok _ _ (Zbr (by simpa [Z0b] using h5));obtain ⟨cs,g1,g2,g3,g4⟩:=ZsJ R r1 h4;have hb:=Zmc g3;have hsz:Ty.size (.int .u8)=1:=rfl;rw [hsz] at g1;refine Zi7 R (b:=ofB l) ?_ h;rcases g4 with rfl | ⟨q,o,n,z,cap,rfl⟩ | ⟨c',n,rfl⟩
  ·cases g1;have hl:l=[]:=by
    have:=g2;simp only [ZdE,injEq] at this;exact List.length_eq_zero_iff.1 this.symm
   subst hl;simp only [Zfm,het,heu,hel,ZcT oku.und,Zap,hg,ZdM okg.und];rfl
  ·simp only [Zfm,het,heu,hel,ZcT oku.und,Zap,hg,ZdM okg.und];rw [g1,Zap,hb,Zap,Zap];rfl
  ·simp only [Zfm,het,heu,hel,ZcT oku.und,Zap,hg,ZdM okg.und];rw [g1,Zap,hb,Zap,Zap];rfl
 ·cases h
theorem ZFF (u:Ty) (hp:u.isProd=false):∀ {vs:List (Nat×V2)} {s:S2} {S:St},Rel F a fp s T S->∀ {us:List (Nat×AV)} {vs':List (Nat×V2)} {H':Tr C2},VRp s.nx a vs us->ZGj u vs s.H=some (vs',H') ->
 ∃ us' S1,ZFY S us=some (us',S1)/\S1.next=S.next/\Rel F a fp ⟨s.T,H',s.nx⟩ T S1/\VRp s.nx a vs' us'/\∀ c,s.H.get c=none->H'.get c=none
 | [],s,S,R,_,_,_,.nil,h=>by cases h;exact ⟨[],S,rfl,rfl,R,.nil,fun _ hc=>hc⟩
 | (i,v)::vs,s,S,R,_,vs',H',.cons (u:=c) h1 h2,h=>by
  simp only [ZGj,Zaa,injEq,Prod.mk.injEq] at h;obtain ⟨⟨x,H1⟩,h3,⟨q,H2⟩,h4,rfl,rfl⟩:=h;obtain ⟨S1,e1,n1,R1⟩:=ZdN 1000 F a fp s T S R u v x H1 h3 _ h1;obtain ⟨us',S2',e2,n2,R2,r2,f2⟩:=ZFF u hp (s:=⟨s.T,H1,s.nx⟩) R1 h2 h4;refine ⟨(i,u.enc x)::us',S2',?_,by rw [n2,n1],R2,.cons (.dat (DR.enc' x hp)) r2,fun c hc=>f2 c (Zn1 1000 _ _ _ _ _ h3 c hc)⟩;simp only [ZFY,show ZbW=1000 from rfl,e1,Zap,e2]
theorem ZiF (H:TyR P E) (R:Rel F a fp s T S) {t:TypeId} {n:Nat} {ps:Array (Nat×Operand)} (h:op2 E (.buildSlice t n ps) s k=some r):Res F a fp s T S (opK P K (.buildSlice t n ps) T S) k r:=by
 simp only [op2,Zaa] at h;obtain ⟨u,h1,h⟩:=h;cases u<;>(try dsimp only at h)<;>try (cases h;done)
 rename_i u;simp only [Zaa] at h;obtain ⟨vs,h2,h⟩:=h;obtain ⟨us,e2,r2⟩:=ZoR R h2;cases hb:E.bt t<;>rw [hb] at h
 ·rw [Bool.false_and,Zan,Zan] at h;have ho:opK P K (.buildSlice t n ps) T S=Zb4 P S t n us:=by
   simp only [opK,aOp,e2,Zap,<-H.bt,hb,Zan]
  rw [ho];exact ZFW H R h1 r2 h
 ·rw [Bool.true_and,Zag] at h;cases hp:u.wt.isProd<;>rw [hp] at h
  ·rw [Bool.not_false,Zag] at h;simp only [Zaa] at h;obtain ⟨⟨vs',H'⟩,h3,h⟩:=h;obtain ⟨us',S1,f1,f2,R1,r3,f3⟩:=ZFF u.wt hp R r2 h3;have ho:opK P K (.buildSlice t n ps) T S=Zb4 P S1 t n us':=by
    simp only [opK,aOp,e2,Zap,<-H.bt,hb,Zag,f1]
   rw [ho];obtain ⟨v',u',s',a',fp',S',g1,g2,g3,g4,g5,g6,g7,g8⟩:=ZFW H R1 h1 r3 h;exact ⟨v',u',s',a',fp',S',g1,by rw [<-f2];exact g2,g3,g4,g5,g6,g7,fun c hc=>⟨(g8 c hc).1,fun hn=>(g8 c hc).2 (f3 c hn)⟩⟩
  ·cases h
theorem ZFG (m:Nat->Option Ty):∀ {vs:List V2} {i:Nat} {s:S2} {S:St},Rel F a fp s T S->∀ {us:List AV} {vs':List V2} {H':Tr C2},Zbl s.nx a vs us->ZGd m i vs s.H=some (vs',H') ->
 ∃ us' S1,ZFV (fun i=>(m i).isSome) i S us=some (us',S1)/\S1.next=S.next/\Rel F a fp ⟨s.T,H',s.nx⟩ T S1/\Zbl s.nx a vs' us'/\∀ c,s.H.get c=none->H'.get c=none
 | [],i,s,S,R,_,_,_,.nil,h=>by cases h;exact ⟨[],S,rfl,rfl,R,.nil,fun _ hc=>hc⟩
 | v::vs,i,s,S,R,_,vs',H',.cons (u:=c) h1 h2,h=>by
  simp only [ZGd] at h;split at h
  ·rename_i hm;simp only [Zaa,injEq,Prod.mk.injEq] at h;obtain ⟨⟨q,H2⟩,h4,rfl,rfl⟩:=h;obtain ⟨us',S2',e2,n2,R2,r2,f2⟩:=ZFG m (s:=s) R h2 h4;refine ⟨_,S2',?_,n2,R2,.cons h1 r2,f2⟩;simp only [ZFV,hm,Option.isSome_none,ZvR,cond_false,Zwe,Zap,e2]
  ·rename_i t hm;simp only [Zaa,Zak,injEq,Prod.mk.injEq,Bool.not_eq_true'] at h;obtain ⟨hp,⟨x,H1⟩,h3,⟨q,H2⟩,h4,rfl,rfl⟩:=h;obtain ⟨S1,e1,n1,R1⟩:=ZdN 1000 F a fp s T S R t v x H1 h3 _ h1;obtain ⟨us',S2',e2,n2,R2,r2,f2⟩:=ZFG m (s:=⟨s.T,H1,s.nx⟩) R1 h2 h4;refine ⟨t.enc x::us',S2',?_,by rw [n2,n1],R2,.cons (.dat (DR.enc' x hp)) r2,fun c hc=>f2 c (Zn1 1000 _ _ _ _ _ h3 c hc)⟩;simp only [ZFV,hm,Option.isSome_some,ZvR,cond_true,show ZbW=1000 from rfl,e1,Zap,e2]
end
end Go.Eng
