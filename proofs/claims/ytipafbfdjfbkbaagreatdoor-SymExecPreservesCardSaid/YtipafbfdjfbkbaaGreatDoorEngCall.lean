import Derived.Test.YtipafbfdjfbkbaaGreatDoorEngOps3
set_option linter.unusedSectionVars false
open Option.some (injEq)
namespace Go.Eng
variable [Gl] [Mx]
section
variable {P:Program} {E:Gh} {S S':St} {w:World} {T:Tm}
noncomputable def Gh.keep (E:Gh) (b:Nat) (arr:Array Value):Gh:={ E with prot:=fun k=>if k=b then some arr else E.prot k }
theorem Zg1 {n:Nat} {c:List AV} {arr:Array Value} {el:TypeId} {fz:Nat×Nat} (hr:HR E S.heap.get w) (pr:PR E w) (hb:S.heap.get n=some (.cells c))
 (hw:w.heap[E.blk n]?=some (.cells arr el fz)) (hs:E.bsz n=arr.size) (hv:VRP E c (arr.toList.drop (E.sh n))):ZaZ E S.heap.get w S.next (E.keep (E.blk n) arr) (S.heap.put n (.ice c)).get w S.next:=by
 have ext:Ext E (E.keep (E.blk n) arr):=⟨fun _ h=>h,fun _ _=>rfl,fun _ _=>rfl,fun _ _=>rfl,fun k a hk=>by
  show (if k=E.blk n then some arr else E.prot k)=some a;rw [if_neg (fun e=>by rw [e,hr.free n _ hb rfl] at hk;cases hk)];exact hk⟩
 have old:∀ m d,m≠n->(S.heap.put n (.ice c)).get m=some d->S.heap.get m=some d:=fun m d e hd=>by
  rw [Tr.get_put,if_neg e] at hd;exact hd
 have some':∀ m d,(S.heap.put n (.ice c)).get m=some d->∃ d',S.heap.get m=some d':=fun m d hd=>by
  by_cases e:m=n
  ·subst e;exact ⟨_,hb⟩
  ·exact ⟨d,old m d e hd⟩
 refine ⟨ext,Nat.le_refl _,fun _ d=>.inl d,⟨?_,?_,?_⟩,?_,Nat.le_refl _,fun m d hd=>.inl (some' m d hd),fun m d hd _=>?_,fun _ _ _=>rfl,?_,Env.refl w⟩
 ·intro m d hd;by_cases e:m=n
  ·subst e;rw [Tr.get_put,if_pos rfl] at hd;cases hd;refine ⟨(hr.blk m _ hb).1,_,hw,?_⟩;simp only [BR];exact ⟨arr,el,fz,rfl,hs,if_pos rfl,VRP.mono ext _ _ hv⟩
  ·obtain ⟨dm,o,ho,hbr⟩:=hr.blk m d (old m d e hd);exact ⟨dm,o,ho,hbr.mono ext dm⟩
 ·intro m d hd hmut;by_cases e:m=n
  ·subst e;rw [Tr.get_put,if_pos rfl] at hd;cases hd;cases hmut
  ·have hm:=old m d e hd;show (if E.blk m=E.blk n then some arr else E.prot (E.blk m))=none;rw [if_neg (fun e'=>e (hr.inj m n d _ hm hb e'))];exact hr.free m d hm hmut
 ·intro m k d d' hd hd' e;obtain ⟨x,hx⟩:=some' m d hd;obtain ⟨y,hy⟩:=some' k d' hd';exact hr.inj m k x y hx hy e
 ·refine ⟨?_,fun g v hg=>VR.mono ext.ice _ _ (pr.gl g v hg)⟩;intro k a hk;have hk':(if k=E.blk n then some arr else E.prot k)=some a:=hk;by_cases e:k=E.blk n
  ·rw [if_pos e] at hk';cases hk';exact ⟨el,fz,by rw [e];exact hw⟩
  ·rw [if_neg e] at hk';exact pr.blk k a hk'
 ·obtain ⟨d',hd'⟩:=some' m d hd;exact ⟨m,d',hd',rfl⟩
 ·intro k _ hk;show (if k=E.blk n then some arr else E.prot k)=E.prot k;rw [if_neg (fun e=>hk n _ hb e.symm)]
def Zwh (g:St->AV->Option (AV×St)):Prop:=
 ∀ (E:Gh) (S S':St) (w:World) (x y:AV) (v:Value),g S x=some (y,S')->VR E x v->HR E S.heap.get w->PR E w ->
  ∃ E',VR E'.ice y v/\S'.next=S.next/\ZaZ E S.heap.get w S.next E' S'.heap.get w S.next
theorem Zir {g:St->AV->Option (AV×St)} (hg:Zwh g):∀ (xs ys:List AV) (vs:List Value) (E:Gh) (S S':St) (w:World),ZbN g S xs=some (ys,S')->VRP E xs vs->HR E S.heap.get w->PR E w ->
 ∃ E',VRP E'.ice ys vs/\ys.length=xs.length/\S'.next=S.next/\ZaZ E S.heap.get w S.next E' S'.heap.get w S.next
 | [],ys,vs,E,S,S',w,h,_,hr,pr=>by
  simp only [ZbN,injEq,Prod.mk.injEq] at h;obtain ⟨rfl,rfl⟩:=h;exact ⟨E,VRP.nil,rfl,rfl,ZaZ.refl _ hr pr⟩
 | x::xs,ys,[],E,S,S',w,_,hv,_,_=>by simp only [VRP] at hv
 | x::xs,ys,v::vs,E,S,S',w,h,hv,hr,pr=>by
  simp only [ZbN,Zaa,injEq,Prod.mk.injEq] at h;obtain ⟨⟨y,S1⟩,h1,⟨ys',S2⟩,h2,rfl,rfl⟩:=h;rw [VRP.cons_iff] at hv;obtain ⟨E1,hy,hn1,t1⟩:=hg E S S1 w x y v h1 hv.1 hr pr;obtain ⟨E2,hys,hl,hn2,t2⟩:=Zir hg xs ys' vs E1 S1 S2 w h2 (VRP.mono t1.ext _ _ hv.2) t1.hr t1.pr;rw [hn1] at t2 hn2;exact ⟨E2,VRP.cons_iff.2 ⟨VR.mono t2.ext.ice _ _ hy,hys⟩,by simp [hl],hn2,t1.trans t2⟩
theorem ZhB:∀ f,Zwh (frz f)
 | 0=>by intro E S S' w x y v h;simp [frz] at h
 | f+1=>by
  intro E S S' w x y v h hx hr pr;have ih:=Zir (ZhB f);unfold frz at h;split at h
  ·rename_i n off len cap z;rw [Zaa] at h;obtain ⟨b,hb,h⟩:=h;obtain ⟨_,o,ho,hbr⟩:=hr.blk n b hb;split at h
   ·rename_i c;simp only [Zaa,injEq,Prod.mk.injEq] at h;obtain ⟨r,hs,⟨r',S1⟩,hm,rfl,rfl⟩:=h;simp only [BR] at hbr;obtain ⟨arr,el,fz,rfl,hsz,_,hv⟩:=hbr;obtain ⟨rfl,hl,_⟩:=ZcL hs;have t1:=Zg1 hr pr hb ho hsz hv;have hrel:VRP E ((c.drop off).take (len * z)) ((arr.toList.drop (E.sh n)).drop off):=VRP.take _ (VRP.drop _ hv);obtain ⟨E2,h2,hl2,hn2,t2⟩:=ih _ _ _ _ _ _ w hm (VRP.mono t1.ext _ _ hrel) t1.hr t1.pr;refine ⟨E2,?_,hn2,t1.trans t2⟩;simp only [VR] at hx |-
    obtain ⟨_,k,rfl,hlk,_⟩:=hx;refine .inl ⟨_,_,none,k,rfl,hlk,.inr ⟨rfl,arr,t2.ext.prot _ _ (if_pos rfl),?_⟩⟩;rw [<-List.drop_drop];exact h2
   ·rename_i c;simp only [Zaa,injEq,Prod.mk.injEq] at h;obtain ⟨r,hs,⟨r',S1⟩,hm,rfl,rfl⟩:=h;simp only [BR] at hbr;obtain ⟨arr,el,fz,rfl,hsz,hp,hv⟩:=hbr;obtain ⟨rfl,hl,_⟩:=ZcL hs;have hrel:VRP E ((c.drop off).take (len * z)) ((arr.toList.drop (E.sh n)).drop off):=VRP.take _ (VRP.drop _ hv);obtain ⟨E2,h2,hl2,hn2,t2⟩:=ih _ _ _ _ _ _ w hm hrel hr pr;refine ⟨E2,?_,hn2,t2⟩;simp only [VR] at hx |-
    obtain ⟨_,k,rfl,hlk,_⟩:=hx;refine .inl ⟨_,_,none,k,rfl,hlk,.inr ⟨rfl,arr,t2.ext.prot _ _ hp,?_⟩⟩;rw [<-List.drop_drop];exact h2
   ·cases h
  ·rename_i n off;rw [Zaa] at h;obtain ⟨b,hb,h⟩:=h;obtain ⟨_,o,ho,hbr⟩:=hr.blk n b hb;split at h
   ·rename_i c;simp only [Zaa,injEq,Prod.mk.injEq] at h;obtain ⟨⟨r',S1⟩,hm,rfl,rfl⟩:=h;simp only [BR] at hbr;obtain ⟨arr,el,fz,rfl,hsz,_,hv⟩:=hbr;have t1:=Zg1 hr pr hb ho hsz hv;obtain ⟨E2,h2,hl2,hn2,t2⟩:=ih _ _ _ _ _ _ w hm (VRP.mono t1.ext _ _ (VRP.drop off hv)) t1.hr t1.pr;refine ⟨E2,?_,hn2,t1.trans t2⟩;simp only [VR] at hx |-
    obtain ⟨_,rfl⟩:=hx;refine ⟨_,_,rfl,arr,t2.ext.prot _ _ (if_pos rfl),?_⟩;rw [<-List.drop_drop];exact h2
   ·rename_i c;simp only [Zaa,injEq,Prod.mk.injEq] at h;obtain ⟨⟨r',S1⟩,hm,rfl,rfl⟩:=h;simp only [BR] at hbr;obtain ⟨arr,el,fz,rfl,hsz,hp,hv⟩:=hbr;obtain ⟨E2,h2,hl2,hn2,t2⟩:=ih _ _ _ _ _ _ w hm (VRP.drop off hv) hr pr;refine ⟨E2,?_,hn2,t2⟩;simp only [VR] at hx |-
    obtain ⟨_,rfl⟩:=hx;refine ⟨_,_,rfl,arr,t2.ext.prot _ _ hp,?_⟩;rw [<-List.drop_drop];exact h2
   ·cases h
  ·simp only [Zaa,injEq,Prod.mk.injEq] at h;obtain ⟨⟨r',S1⟩,hm,rfl,rfl⟩:=h;simp only [VR] at hx;obtain ⟨a,rfl,h1,h2⟩:=hx;obtain ⟨E2,h3,hl2,hn2,t2⟩:=ih _ _ _ _ _ _ w hm h1 hr pr;exact ⟨E2,by simp only [VR];exact ⟨a,rfl,h3,by omega⟩,hn2,t2⟩
  ·simp only [Zaa,injEq,Prod.mk.injEq] at h;obtain ⟨⟨r',S1⟩,hm,rfl,rfl⟩:=h;simp only [VR] at hx;obtain ⟨a,rfl,h1,h2⟩:=hx;obtain ⟨E2,h3,hl2,hn2,t2⟩:=ih _ _ _ _ _ _ w hm h1 hr pr;exact ⟨E2,by simp only [VR];exact ⟨a,rfl,h3,by omega⟩,hn2,t2⟩
  ·simp only [Zaa,injEq,Prod.mk.injEq] at h;obtain ⟨⟨q,S1⟩,hm,⟨r,S2⟩,hm2,rfl,rfl⟩:=h;simp only [VR] at hx;obtain ⟨a,c,rfl,⟨h1,h2⟩,h3,h4⟩:=hx;obtain ⟨E1,a1,l1,n1,t1⟩:=ih _ _ _ _ _ _ w hm h1 hr pr;obtain ⟨E2,a2,l2,n2,t2⟩:=ih _ _ _ _ _ _ w hm2 (VRP.mono t1.ext _ _ h3) t1.hr t1.pr;rw [n1] at n2 t2;refine ⟨E2,?_,n2,t1.trans t2⟩;simp only [VR];exact ⟨a,c,rfl,⟨VRP.mono t2.ext.ice _ _ a1,by omega⟩,a2,by omega⟩
  ·simp only [Zaa,injEq,Prod.mk.injEq] at h;obtain ⟨⟨q,S1⟩,hm,rfl,rfl⟩:=h;simp only [VR] at hx;obtain ⟨a,rfl,h1⟩:=hx;obtain ⟨E2,h3,hn2,t2⟩:=ZhB f _ _ _ w _ _ _ hm h1 hr pr;exact ⟨E2,by simp only [VR];exact ⟨a,rfl,h3⟩,hn2,t2⟩
  ·cases h;simp only [VR] at hx;subst hx;exact ⟨E,by simp [VR],rfl,ZaZ.refl _ hr pr⟩
  ·cases h
  ·cases h
  ·rename_i h1 h2 h3 h4 h5 h6 h7 h8 h9;cases h;refine ⟨E,?_,rfl,ZaZ.refl _ hr pr⟩;cases x<;>first | exact hx | (exfalso;first | exact h1 _ _ _ _ _ rfl | exact h2 _ _ rfl | exact h3 _ rfl | exact h4 _ rfl | exact h5 _ _ _ rfl | exact h6 _ _ rfl | exact h7 rfl | exact h8 _ rfl | exact h9 _ _ _ rfl)
def Zs3 (g:St->AV->Option (AV×St)):Prop:=
 ∀ (E:Gh) (S S':St) (w:World) (x y:AV) (v:Value),g S x=some (y,S')->VR E x v->HR E S.heap.get w->PR E w ->
  ∃ E',VR E' y v/\S'.next=S.next/\ZaZ E S.heap.get w S.next E' S'.heap.get w S.next
theorem ZtX:Zs3 Zwe:=by
 intro E S S' w x y v h hx hr pr;simp only [Zwe,injEq,Prod.mk.injEq] at h;obtain ⟨rfl,rfl⟩:=h;exact ⟨E,hx,rfl,ZaZ.refl _ hr pr⟩
theorem ZtY (b:Bool):Zs3 (ZvR b):=by
 cases b with
 | false=>exact ZtX
 | true=>
  intro E S S' w x y v h hx hr pr;obtain ⟨E',h1,h2,h3⟩:=ZhB _ E S S' w _ y v h hx hr pr;exact ⟨E',VR.mono (Ext.ofIce E') _ _ h1,h2,h3⟩
theorem ZFA:∀ (xs ys:List (Nat×AV)) (vs:List (Nat×Value)) (E:Gh) (S S':St) (w:World),ZFY S xs=some (ys,S')->Ze1 E xs vs->HR E S.heap.get w->PR E w ->
 ∃ E',Ze1 E' ys vs/\S'.next=S.next/\ZaZ E S.heap.get w S.next E' S'.heap.get w S.next
 | [],ys,vs,E,S,S',w,h,hv,hr,pr=>by
  simp only [ZFY,injEq,Prod.mk.injEq] at h;obtain ⟨rfl,rfl⟩:=h;exact ⟨E,hv,rfl,ZaZ.refl _ hr pr⟩
 | x::xs,ys,[],E,S,S',w,_,hv,_,_=>by simp only [Ze1] at hv
 | x::xs,ys,v::vs,E,S,S',w,h,hv,hr,pr=>by
  simp only [ZFY,Zaa,injEq,Prod.mk.injEq] at h;obtain ⟨⟨y,S1⟩,h1,⟨ys',S2⟩,h2,rfl,rfl⟩:=h;simp only [Ze1] at hv |-
  obtain ⟨E1,hy,hn1,t1⟩:=ZtY true E S S1 w x.2 y v.2 h1 hv.2.1 hr pr;obtain ⟨E2,hys,hn2,t2⟩:=ZFA xs ys' vs E1 S1 S2 w h2 (Ze1.mono t1.ext _ _ hv.2.2) t1.hr t1.pr;rw [hn1] at t2 hn2;exact ⟨E2,⟨hv.1,VR.mono t2.ext _ _ hy,hys⟩,hn2,t1.trans t2⟩
theorem ZFB (m:Nat->Bool):∀ (xs ys:List AV) (i:Nat) (vs:List Value) (E:Gh) (S S':St) (w:World),ZFV m i S xs=some (ys,S')->VRP E xs vs->HR E S.heap.get w->PR E w ->
 ∃ E',VRP E' ys vs/\ys.length=xs.length/\S'.next=S.next/\ZaZ E S.heap.get w S.next E' S'.heap.get w S.next
 | [],ys,i,vs,E,S,S',w,h,_,hr,pr=>by
  simp only [ZFV,injEq,Prod.mk.injEq] at h;obtain ⟨rfl,rfl⟩:=h;exact ⟨E,VRP.nil,rfl,rfl,ZaZ.refl _ hr pr⟩
 | x::xs,ys,i,[],E,S,S',w,_,hv,_,_=>by simp only [VRP] at hv
 | x::xs,ys,i,v::vs,E,S,S',w,h,hv,hr,pr=>by
  simp only [ZFV,Zaa,injEq,Prod.mk.injEq] at h;obtain ⟨⟨y,S1⟩,h1,⟨ys',S2⟩,h2,rfl,rfl⟩:=h;rw [VRP.cons_iff] at hv;obtain ⟨E1,hy,hn1,t1⟩:=ZtY (m i) E S S1 w x y v h1 hv.1 hr pr;obtain ⟨E2,hys,hl,hn2,t2⟩:=ZFB m xs ys' (i+1) vs E1 S1 S2 w h2 (VRP.mono t1.ext _ _ hv.2) t1.hr t1.pr;rw [hn1] at t2 hn2;exact ⟨E2,VRP.cons_iff.2 ⟨VR.mono t2.ext _ _ hy,hys⟩,by simp [hl],hn2,t1.trans t2⟩
theorem ZFC {g:FuncId} {xs ys:List AV} {vs:List Value} (h:ZFn g S xs=some (ys,S')) (hv:VRP E xs vs) (hr:HR E S.heap.get w) (pr:PR E w) :
 ∃ E',VRP E' ys vs/\ys.length=xs.length/\S'.next=S.next/\ZaZ E S.heap.get w S.next E' S'.heap.get w S.next:=by
 unfold ZFn at h;split at h
 ·simp only [injEq,Prod.mk.injEq] at h;obtain ⟨rfl,rfl⟩:=h;exact ⟨E,hv,rfl,rfl,ZaZ.refl _ hr pr⟩
 ·exact ZFB _ _ _ _ _ _ _ _ _ h hv hr pr
theorem ZFD {E E':Gh} {q:AV} {v:Value} (hf:Zwf q=true) (h:VR E q v):VR E' q v:=by
 cases q<;>simp only [Zwf,Bool.false_eq_true] at hf<;>exact h
theorem ZFz {E E':Gh}:∀ (l:List AV) (vs:List Value),l.all Zwf=true->VRP E l vs->VRP E' l vs
 | [],_,_,_=>VRP.nil
 | _::_,[],_,h=>by simp only [VRP] at h
 | x::l,v::vs,hf,h=>by
  rw [List.all_cons,Bool.and_eq_true] at hf;rw [VRP.cons_iff] at h |-
  exact ⟨ZFD hf.1 h.1,ZFz l vs hf.2 h.2⟩
theorem ZFR {E E':Gh} {b:Bool} {q:AV} {v:Value} (hf:(Zwf q||(b&&ZF7 q))=true) (h:VR E q v):VR E' q v:=by
 rw [Bool.or_eq_true,Bool.and_eq_true] at hf;rcases hf with hf | ⟨_,hf⟩
 ·exact ZFD hf h
 ·cases q<;>simp only [ZF7,Bool.false_eq_true] at hf;simp only [VR] at h |-
  obtain ⟨a,h1,h2,h3⟩:=h;exact ⟨a,h1,ZFz _ _ hf h2,h3⟩
theorem ZkJ {t u:TypeId} {x y z:AV} {xv yv:Value} (ty:TypeId) {ue:TE} (hue:te P u=some ue) (hui:∀ k,ue.und≠.int k) (h:Ze5 P S t x y=some (z,S')) (hx:VR E x xv) (hy:VR E y yv)
 (hr:HR E S.heap.get w) (pr:PR E w) (fresh:∀ n,S.next<=n->n < S'.next->¬ E.dom n):ZaX P (Builtin.append_ #[t,u] ty #[xv,yv]) E S w z S':=by
 simp only [Ze5,Zaa,Zas,Bool.and_eq_true,Zad] at h;obtain ⟨e,he,elem,hel,g,hg,_,⟨hgz,hgn⟩,new,hnew,m,hm,⟨new',S1⟩,hz,_,hone,h⟩:=h;obtain ⟨us,hfirst,hlen,hrel,hus,hnl⟩:=Ziq (P:=P) hnew hm hy hr pr;obtain ⟨E1,hrel1,hl1,hn1,t1⟩:=Zir (ZhB _) _ _ _ _ _ _ w hz hrel hr pr;dsimp only at h hone hn1 t1;obtain ⟨v',w',E',hrun,hv,ht⟩:=Zol (P:=P) ty hue hui he hel hg hgz hgn hfirst hlen (VRP.mono (Ext.ofIce E1) _ _ hrel1) (by rw [hl1];exact hus) (by rw [hl1];exact hnl) hone h (VR.mono t1.ext _ _ hx) t1.hr t1.pr
  (fun n ha hb hd=>by
   rcases t1.dom n hd with d | ⟨d1,d2⟩
   ·exact fresh n (by omega) hb d
   ·omega)
 rw [hn1] at ht;exact ⟨v',w',E',hrun,hv,t1.trans ht⟩
def XR:X->Exit->Prop
 | .n,e=>e=.normal
 | .e id,e=>e=.exit id
 | .r,e=>e=.ret
def Zj9 (P:Program) (rec:ZbL):Prop:=
 ∀ nt c T S x T' S',rec nt c T S=some (x,T',S')->∀ E a w,TR E nt T.get a->HR E S.heap.get w->PR E w->(∀ n,S.next<=n->n < S'.next->¬ E.dom n)->a.defers=[] ->
  c.wp P (fun e a' w'=>∃ E',XR x e/\TR E' nt T'.get a'/\a'.defers=[]/\ZaZ E S.heap.get w S.next E' S'.heap.get w' S'.next) a w
theorem ZjA:∀ (vs:List AV) (i t:Nat),(ZcP vs i).get t=if i<=t then vs[t - i]? else none
 | [],i,t=>by simp [ZcP]
 | v::vs,i,t=>by
  simp only [ZcP,Tr.get_put,ZjA vs (i+1) t];by_cases e:t=i
  ·subst e;simp
  ·rw [if_neg e];by_cases h:i+1<=t
   ·rw [if_pos h,if_pos (by omega),show t - i=(t - (i+1))+1 from by omega,List.getElem?_cons_succ]
   ·rw [if_neg h,if_neg (by omega)]
theorem Zom {T':Tm} {S':St} {nt:Nat} {a:Act} (ht:TR E nt T'.get a) (hr:HR E S'.heap.get w) (pr:PR E w):∀ {rs:List ResultVar} {vs:List AV},Zhq P T' S' rs=some vs ->
 ∃ us:List Value,(rs.mapM fun (r:ResultVar)=>match r with
  | .tmp t=>pure (a.tmps.getD t undef)
  | .cell p t=>do loadVar t (<-asAddr (a.tmps.getD p undef))).run P w=.ok us w/\VRP E vs us/\vs.length=us.length
 | [],vs,h=>by
  simp only [Zhq,injEq] at h;subst h;exact ⟨[],rfl,VRP.nil,rfl⟩
 | r::rs,vs,h=>by
  simp only [Zhq,Zaa,injEq] at h;obtain ⟨v,hv,vs',hvs,rfl⟩:=h;obtain ⟨us,h1,h2,h3⟩:=Zom ht hr pr hvs;have get:∀ t x,T'.get t=some x->∃ u,a.tmps.getD t undef=u/\VR E x u:=fun t x hx=>by
   obtain ⟨u,hu,hxu⟩:=ht.2 t x hx;exact ⟨u,by simp [Array.getD_eq_getD_getElem?,hu],hxu⟩
  unfold ZzK at hv;split at hv
  ·rename_i t;obtain ⟨u,hu,hxu⟩:=get t v hv;refine ⟨u::us,?_,VRP.cons_iff.2 ⟨hxu,h2⟩,by simp [h3]⟩;rw [List.mapM_cons,Sem.run_bind];simp only [hu,Sem.run_pure,Result.andThen_ok,Sem.run_bind,h1]
  ·rename_i p t;simp only [Zaa] at hv;obtain ⟨e,he,q,hq,hl⟩:=hv;obtain ⟨u,hu,hqu⟩:=get p q hq;obtain ⟨ad,u',rfl,hrun,hvv⟩:=Zl2 he hl hqu hr pr;refine ⟨u'::us,?_,VRP.cons_iff.2 ⟨hvv,h2⟩,by simp [h3]⟩;rw [List.mapM_cons,Sem.run_bind];have hadr:(asAddr (a.tmps.getD p undef)).run P w=.ok ad w:=by rw [hu];rfl
   simp only [Sem.run_bind,hadr,Sem.run_pure,Result.andThen_ok,hrun,h1]
theorem ZkK {T':Tm} {S':St} {nt:Nat} {a:Act} {fn:Func} {vs:List AV} (ht:TR E nt T'.get a) (hr:HR E S'.heap.get w) (pr:PR E w) (h:Zhq P T' S' fn.results.toList=some vs) :
 ∃ v,(results fn a.tmps).run P w=.ok v w/\VR E (ZqE vs) v:=by
 obtain ⟨us,h1,h2,h3⟩:=Zom ht hr pr h;have hm:(fn.results.mapM fun (r:ResultVar)=>match r with
  | .tmp t=>pure (a.tmps.getD t undef)
  | .cell p t=>do loadVar t (<-asAddr (a.tmps.getD p undef))).run P w=.ok us.toArray w:=by
  rw [Array.mapM_eq_mapM_toList,Sem.run_map,h1];rfl
 refine ⟨if h:us.toArray.size=1 then us.toArray[0] else .tuple us.toArray,?_,?_⟩
 ·unfold results;rw [Sem.run_bind];refine Eq.trans (congrArg (fun r:Result (Array Value)=>r.andThen _) hm) ?_;rfl
 ·match vs,us,h2,h3 with
  | [x],[u],h2,_=>rw [VRP.cons_iff] at h2;exact h2.1
  | [],[],_,_=>simp only [ZqE,VR];exact ⟨#[],rfl,VRP.nil,rfl⟩
  | x::y::xs,u::u'::us,h2,h3=>
   simp only [ZqE,VR];exact ⟨_,by simp,h2,by simpa using h3⟩
  | [],_::_,_,h3=>simp at h3
  | _::_,[],_,h3=>simp at h3
  | [_],_::_::_,_,h3=>simp at h3
  | _::_::_,[_],_,h3=>simp at h3
def Zon (P:Program) (E:Gh) (S:St) (w:World) (f:FuncId) (args:Array Value) (v:AV) (S':St):Prop:=
 Calls P f args w fun e w'=>∃ v' E',e=.returned v'/\VR E' v v'/\ZaZ E S.heap.get w S.next E' S'.heap.get w' S'.next
theorem Zl9 {rec:ZbL} (hrec:Zj9 P rec) {f:FuncId} {args:List AV} {vs:Array Value} {v:AV} (h:Zd8 P rec f args S=some (v,S')) (ha:VRP E args vs.toList) (hl:args.length=vs.size)
 (hr:HR E S.heap.get w) (pr:PR E w) (fresh:∀ n,S.next<=n->n < S'.next->¬ E.dom n):Zon P E S w f vs v S':=by
 simp only [Zd8,Zaa,Zas,Zah,injEq,Prod.mk.injEq] at h;obtain ⟨fn,hf,c,hb,_,hle,⟨x,T',S1⟩,hrun,_,hx,us,hus,rfl,rfl⟩:=h;refine calls_of_wp hf hb ?_;have ht:TR E fn.ntmps (ZcP args 0).get { tmps:=vs++Array.replicate (fn.ntmps - vs.size) undef,defers:=[] }:=by
  refine ⟨by simp;omega,fun t y hy=>?_⟩;rw [ZjA] at hy;simp only [Nat.zero_le,if_true,Nat.sub_zero] at hy;obtain ⟨u,hu,hyu⟩:=ha.get hy;refine ⟨u,?_,hyu⟩;have hlt:t < vs.size:=by
   have:=(List.getElem?_eq_some_iff.1 hu).1;simpa using this
  rw [Array.getElem?_append_left hlt];simpa using hu
 refine wp_mono (hrec _ _ _ _ _ _ _ hrun E _ w ht hr pr fresh rfl) ?_;rintro e a' w' ⟨E',hxr,ht',hd,tr⟩;obtain ⟨v',hres,hv'⟩:=ZkK (P:=P) (fn:=fn) ht' tr.hr tr.pr hus;cases x with
 | n=>simp only [XR] at hxr;subst hxr;exact ⟨hd,v',hres,v',E',rfl,hv',tr⟩
 | e id=>simp [X.back] at hx
 | r=>simp only [XR] at hxr;subst hxr;exact ⟨hd,v',hres,v',E',rfl,hv',tr⟩
theorem HR.empty (E:Gh) (w:World):HR E (Tr.lf:Tr AB).get w:=⟨fun n b h=>by simp at h,fun n b h=>by simp at h,fun n m b c h=>by simp at h⟩
def ZlA (P:Program) (f:FuncId) (args:List AV) (v:AV):Prop:=
 ∀ (E:Gh) (w:World) (vs:Array Value),VRP E.ice args vs.toList->args.length=vs.size->PR E w ->
  Calls P f vs w fun e w'=>∃ (v':Value) (E':Gh),e=.returned v'/\VR E'.ice v v'/\PR E'.ice w'/\(∀ b arr,E.prot b=some arr->E'.prot b=some arr)/\w.heap.size<=w'.heap.size /\
   (∀ b,b < w.heap.size->w'.heap[b]?=w.heap[b]?/\E'.prot b=E.prot b)/\Env w w'
def Zoo (P:Program):Prop:=∀ f args v,Mx.x f args=some v->(∃ fn,P.funcs[f]?=some fn/\fn.body.isSome=true)/\ZlA P f args v
theorem PR.ice {w:World} (pr:PR E w):PR E.ice w:=⟨fun b arr h=>pr.blk b arr h,fun g v hg=>pr.gl g v hg⟩
theorem ZlB (hx:Zoo P) {rec:ZbL} (hrec:Zj9 P rec) {f:FuncId} {args:List AV} {v:AV} (h:ZeH P rec f args=some v):ZlA P f args v:=by
 unfold ZeH at h;split at h
 ·rename_i q hq;cases h;exact (hx f args _ hq).2
 ·simp only [Zaa,injEq] at h;obtain ⟨⟨r,S2⟩,h2,⟨q,S3⟩,h3,rfl⟩:=h;intro E w vs ha hl pr;have key:=Zl9 (E:=E.ice) (S:=⟨.lf,0⟩) hrec h2 ha hl (HR.empty E.ice w) pr.ice (fun n _ _ d=>d);refine Calls.mono key ?_;rintro e w' ⟨v',E2,rfl,hv2,t2⟩;obtain ⟨E3,hv3,_,t3⟩:=ZhB _ E2 S2 S3 w' r q v' h3 hv2 t2.hr t2.pr;have t:=t2.trans2 t3 (Nat.zero_le _) (Nat.le_refl _);exact ⟨v',E3,rfl,hv3,t.pr.ice,t.ext.prot,t.size,fun b hb=>⟨t.frame b hb (fun n c hc=>by simp at hc),t.prot b hb (fun n c hc=>by simp at hc)⟩,t.env⟩
theorem ZqL (hx:Zoo P) {rec:ZbL} (hrec:Zj9 P rec) {f:FuncId} {args:List AV} {vs:Array Value} {v:AV} (h:ZfN P rec f args S=some (v,S')) (ha:VRP E args vs.toList) (hl:args.length=vs.size)
 (hr:HR E S.heap.get w) (pr:PR E w):Zon P E S w f vs v S':=by
 simp only [ZfN,Zaa,injEq,Prod.mk.injEq] at h;obtain ⟨⟨args',S1⟩,h1,q,h2,rfl,hS⟩:=h;obtain ⟨E1,ha1,hl1,hn1,t1⟩:=Zir (ZhB _) _ _ _ _ _ _ w h1 ha hr pr;refine Calls.mono (ZlB hx hrec h2 E1 w vs ha1 (hl1.trans hl) t1.pr) ?_;rintro e w' ⟨v',E2,rfl,hv,hp,hpr,hsz,hfr,henv⟩;cases hfl:(Zwf q||(Mx.ln f&&ZF7 q)) with
 | true=>
  rw [hfl,cond_true] at hS;subst hS;have ltS:∀ n b,S.heap.get n=some b->E.blk n < w.heap.size:=fun n b hb=>hr.lt hb;refine ⟨v',E,rfl,?_,⟨Ext.refl E,Nat.le_refl _,fun _ d=>.inl d,⟨?_,hr.free,hr.inj⟩,⟨?_,pr.gl⟩,hsz,fun n b hb=>.inl ⟨b,hb⟩,fun n b hb _=>⟨n,b,hb,rfl⟩,
   fun b hb _=>(hfr b hb).1,fun _ _ _=>rfl,henv⟩⟩
  ·exact ZFR hfl hv
  ·intro n b hb;obtain ⟨d,o,ho,hbr⟩:=hr.blk n b hb;exact ⟨d,o,by rw [<-ho];exact (hfr _ (ltS n b hb)).1,hbr⟩
  ·intro b arr hb;obtain ⟨el,fz,ho⟩:=pr.blk b arr hb;exact ⟨el,fz,by rw [<-ho];exact (hfr b (pr.lt hb)).1⟩
 | false=>
 rw [hfl,cond_false] at hS;have hS:S1=S':=hS;subst hS;have ext:Ext E1 { E1 with prot:=E2.prot }:=⟨fun _ d=>d,fun _ _=>rfl,fun _ _=>rfl,fun _ _=>rfl,hpr⟩
 have lt:∀ n b,S1.heap.get n=some b->E1.blk n < w.heap.size:=fun n b hb=>t1.hr.lt hb;refine ⟨v',{ E1 with prot:=E2.prot },rfl,VR.mono (Ext.iceOf (E:=E2) (E':={ E1 with prot:=E2.prot }) fun _ _ h=>h) _ _ hv,?_⟩;have hn1':S1.next=S.next:=hn1;rw [hn1'];refine t1.trans ⟨ext,Nat.le_refl _,fun _ d=>.inl d,⟨?_,?_,?_⟩,⟨fun b arr hb=>hp.blk b arr hb,fun g u hg=>VR.mono (Ext.iceOf (E:=E2) (E':=Gh.ice { E1 with prot:=E2.prot }) fun _ _ h=>h) _ _ (hp.gl g u hg)⟩,hsz,fun n b hb=>.inl ⟨b,hb⟩,fun n b hb _=>⟨n,b,hb,rfl⟩,
  fun b hb _=>(hfr b hb).1,fun b hb _=>(hfr b hb).2,henv⟩
 ·intro n b hb;obtain ⟨d,o,ho,hbr⟩:=t1.hr.blk n b hb;exact ⟨d,o,by rw [<-ho];exact (hfr _ (lt n b hb)).1,hbr.mono ext d⟩
 ·intro n b hb hmut;show E2.prot (E1.blk n)=none;rw [(hfr _ (lt n b hb)).2];exact t1.hr.free n b hb hmut
 ·exact t1.hr.inj
theorem ZqM (hx:Zoo P) {pol:FuncId->Bool} {rec:ZbL} (hrec:Zj9 P rec) {f:FuncId} {args:List AV} {vs:Array Value} {v:AV} (h:Zch pol P rec f args S=some (v,S')) (ha:VRP E args vs.toList) (hl:args.length=vs.size)
 (hr:HR E S.heap.get w) (pr:PR E w) (fresh:∀ n,S.next<=n->n < S'.next->¬ E.dom n):Zon P E S w f vs v S':=by
 unfold Zch at h;cases hp:pol f<;>rw [hp] at h
 ·exact Zl9 hrec h ha hl hr pr fresh
 ·exact ZqL hx hrec h ha hl hr pr
def Znl (P : Program) : Prop := ∀ (f : FuncId) (fn : Func), P.funcs[f]? = some fn → fn.body.isSome = true → (fn.name == "runtime.NumGoroutine") = false
theorem Zat {o:Oper} {a:Act} {v:AV} {next:Act->World->Prop} {Q:Exit->Act->World->Prop} (h:Zdh P (execOp a.eval o) E S w v S')
 (hn:∀ v' w' E',VR E' v v'->ZaZ E S.heap.get w S.next E' S'.heap.get w' S'.next->next (a.put o.dst v') w'):o.wp P a w next Q:=by
 obtain ⟨r,v',w',E',hrun,hr,hv,ht⟩:=h;unfold Oper.wp;rw [hrun];rcases hr with rfl | ⟨rfl,rfl⟩
 ·exact hn v' w' E' hv ht
 ·exact hn _ w' E' hv ht
theorem Zdh.unit {s:Sem Unit} {w':World} (hrun:s.run P w=.ok () w') (ht:ZaZ E S.heap.get w S.next E S'.heap.get w' S'.next):Zdh P (do s;pure .skip) E S w (.tup []) S':=
 ⟨.skip,undef,w',E,by simp [hrun],.inr ⟨rfl,rfl⟩,by simp only [VR,undef];exact ⟨#[],rfl,VRP.nil,rfl⟩,ht⟩
theorem Zdh.unit2 {s:Sem Unit} {w':World} {E':Gh} (hrun:s.run P w=.ok () w') (ht:ZaZ E S.heap.get w S.next E' S'.heap.get w' S'.next):Zdh P (do s;pure .skip) E S w (.tup []) S':=
 ⟨.skip,undef,w',E',by simp [hrun],.inr ⟨rfl,rfl⟩,by simp only [VR,undef];exact ⟨#[],rfl,VRP.nil,rfl⟩,ht⟩
theorem Zdh.val {x:Value} {v:AV} (hr:HR E S.heap.get w) (pr:PR E w) (hv:VR E v x):Zdh P (pure (.value x)) E S w v S:=
 ⟨.value x,x,w,E,rfl,.inl rfl,hv,ZaZ.refl _ hr pr⟩
theorem Zg2 {ρ:Operand->Value}:∀ {xs:List Operand} {vs:List AV},evs T xs=some vs->(∀ x∈xs,∀ v,ev T x=some v->VR E v (ρ x))->VRP E vs (xs.map ρ)/\vs.length=(xs.map ρ).length
 | [],vs,h,_=>by simp only [evs,injEq] at h;subst h;exact ⟨VRP.nil,rfl⟩
 | x::xs,vs,h,ho=>by
  simp only [evs,Zaa,injEq] at h;obtain ⟨v,hv,vs',hvs,rfl⟩:=h;have:=Zg2 hvs (fun y hy=>ho y (by simp [hy]));exact ⟨VRP.cons_iff.2 ⟨ho x (by simp) v hv,this.1⟩,by simpa using this.2⟩
theorem ZkL {ρ:Operand->Value}:∀ {xs:List (Nat×Operand)} {vs:List (Nat×AV)},evp T xs=some vs->(∀ x∈xs,∀ v,ev T x.2=some v->VR E v (ρ x.2))->Ze1 E vs (xs.map fun (i,x)=>(i,ρ x))
 | [],vs,h,_=>by simp only [evp,injEq] at h;subst h;simp [Ze1]
 | (i,x)::xs,vs,h,ho=>by
  simp only [evp,Zaa,injEq] at h;obtain ⟨v,hv,vs',hvs,rfl⟩:=h;simp only [List.map_cons,Ze1];exact ⟨trivial,ho (i,x) (by simp) v hv,ZkL hvs (fun y hy=>ho y (by simp [hy]))⟩
theorem Zop {k:IntKind}:∀ {xs:List AV} {us:List Value} {x:Int} {y:AV},ZtS k x xs=some y->VRP E xs us->xs.length=us.length->∃ v,(us.foldlM Builtin.max2 (.int k x)).run P w=.ok v w/\VR E y v
 | [],[],x,y,h,_,_=>by simp only [ZtS,injEq] at h;subst h;exact ⟨_,rfl,by simp only [VR]⟩
 | [],_::_,_,_,_,_,hl=>by simp at hl
 | _::_,[],_,_,_,hr,_=>by simp only [VRP] at hr
 | a::xs,u::us,x,y,h,hr,hl=>by
  rw [VRP.cons_iff] at hr;unfold ZtS at h;split at h
  ·cases ‹_::_=[]›
  ·rename_i k' z r heq;cases heq;simp only [VR] at hr;obtain ⟨rfl,hr⟩:=hr;obtain ⟨v,hv,hy⟩:=Zop h hr (by simpa using hl);refine ⟨v,?_,hy⟩;rw [List.foldlM_cons,Sem.run_bind];simp only [Builtin.max2,Sem.run_pure,Result.andThen_ok];exact hv
  ·cases h
theorem Zoq {k:IntKind}:∀ {xs:List AV} {us:List Value} {x:Int} {y:AV},ZtT k x xs=some y->VRP E xs us->xs.length=us.length->∃ v,(us.foldlM Builtin.min2 (.int k x)).run P w=.ok v w/\VR E y v
 | [],[],x,y,h,_,_=>by simp only [ZtT,injEq] at h;subst h;exact ⟨_,rfl,by simp only [VR]⟩
 | [],_::_,_,_,_,_,hl=>by simp at hl
 | _::_,[],_,_,_,hr,_=>by simp only [VRP] at hr
 | a::xs,u::us,x,y,h,hr,hl=>by
  rw [VRP.cons_iff] at hr;unfold ZtT at h;split at h
  ·cases ‹_::_=[]›
  ·rename_i k' z r heq;cases heq;simp only [VR] at hr;obtain ⟨rfl,hr⟩:=hr;obtain ⟨v,hv,hy⟩:=Zoq h hr (by simpa using hl);refine ⟨v,?_,hy⟩;rw [List.foldlM_cons,Sem.run_bind];simp only [Builtin.min2,Sem.run_pure,Result.andThen_ok];exact hv
  ·cases h
end
end Go.Eng
