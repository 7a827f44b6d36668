import Derived.Test.YtipafbfdjfbkbaaGreatDoorEngPlan
import Derived.LoopN
set_option linter.unusedSectionVars false
open Option.some (injEq)
open List (mem_map mem_cons all_eq_true map_cons)
open Nat (le_refl)
namespace Go.Eng
variable [Gl] [Mx]
section
variable {ops:Array Oper}
theorem ZlC (e:Edge):Zgt e=Region.binds .any e:=by
 unfold Zgt Region.binds;cases e.ground<;>rfl
theorem ZjH (acc:List Nat) (c:Nat):∀ (es:List Edge) (s:Nat),(es.foldl (fun s e=>bif Zgt e then s ||| (1 <<< e.on) ||| (acc.getD e.on 0) else s) s).testBit c=true ->
 s.testBit c=true\/∃ e∈es,Zgt e=true/\(e.on=c\/(acc.getD e.on 0).testBit c=true)
 | [],s,h=>.inl h
 | e::es,s,h=>by
  simp only [List.foldl_cons] at h;rcases ZjH acc c es _ h with h | ⟨e',he',hb,hc⟩
  ·cases hb:Zgt e
   ·rw [hb,cond_false] at h;exact .inl h
   ·rw [hb,cond_true] at h;simp only [Nat.testBit_or,Bool.or_eq_true] at h;rcases h with (h | h) | h
    ·exact .inl h
    ·refine .inr ⟨e,by simp,hb,.inl ?_⟩;rw [Nat.one_shiftLeft,Nat.testBit_two_pow] at h;simpa using h
    ·exact .inr ⟨e,by simp,hb,.inr h⟩
  ·exact .inr ⟨e',by simp [he'],hb,hc⟩
theorem Zg5:∀ (l:List Oper) (acc:List Nat) (k:Nat),l=ops.toList.drop k->acc.length=k->(∀ i c,(acc.getD i 0).testBit c=true->Dep ops c i) ->
 ∀ i c,((ZbJ l acc).getD i 0).testBit c=true->Dep ops c i
 | [],acc,k,_,_,h,i,c,hb=>h i c hb
 | o::l,acc,k,hl,hk,h,i,c,hb=>by
  have hlen:k < ops.size:=by
   have:=congrArg List.length hl;simp at this;omega
  have ho:ops[k]?=some o:=by
   have:=congrArg (·[0]?) hl;simp at this;rw [<-this]
  have hl':l=ops.toList.drop (k+1):=by
   rw [<-List.drop_drop,<-hl];rfl
  unfold ZbJ at hb;refine Zg5 l _ (k+1) hl' (by simp [hk]) ?_ i c hb;intro j d hj;by_cases e:j < k
  ·rw [List.getD_eq_getElem?_getD,List.getElem?_append_left (by omega),<-List.getD_eq_getElem?_getD] at hj;exact h j d hj
  ·by_cases e':j=k
   ·subst e';rw [List.getD_eq_getElem?_getD,List.getElem?_append_right (by omega)] at hj;simp only [hk,Nat.sub_self,List.getElem?_cons_zero,Option.getD_some] at hj;rcases ZjH acc d o.after.toList 0 hj with h0 | ⟨ed,hed,hbd,hc⟩
    ·simp at h0
    ·have hedge:Ze6 ops ed.on j:=⟨o,ho,ed,by simpa using hed,by rw [<-ZlC];exact hbd,rfl⟩
     rcases hc with rfl | hc
     ·exact .one hedge
     ·exact .more (h _ _ hc) hedge
   ·rw [List.getD_eq_getElem?_getD,List.getElem?_eq_none (by simp;omega)] at hj;simp at hj
structure Zoz (pol:FuncId->Bool) (ops:Array Oper) (bs:List Nat) (done:List PS) (l:List PS):Prop where
 len:done.length+l.length=ops.size
 all:∀ i,i < ops.size->i∈done.map (·.i)\/∃ p∈l,p.i=i
 pw:l.Pairwise (fun c e=>c.i≠e.i/\Zh6 ops.toList bs c e=true/\¬ Ze6 ops e.i c.i)
 ndone:∀ p∈l,p.i∉done.map (·.i)
 pair:∀ p∈l,∀ c∈done,Zh6 ops.toList bs c p=true
 self:∀ p∈l,¬ Ze6 ops p.i p.i
 lt:∀ p∈l,∀ d,Ze6 ops d p.i->d < ops.size
 mode:∀ p∈l,∀ o,ops[p.i]?=some o->ZnX (cls pol o.op) p.c=true
theorem Zfv {pol:FuncId->Bool} {bs:List Nat}:∀ {l:List PS} {done:List PS},Zdm pol ops.toList bs done l=true->(∀ d∈done,d.i < ops.size)->Zoz pol ops bs done l
 | [],done,h,_=>by
  simp only [Zdm,Bool.and_eq_true,Zad,all_eq_true,List.mem_range] at h;refine ⟨by simpa using h.1,fun i hi=>.inl ?_,List.Pairwise.nil,by simp,by simp,by simp,by simp,by simp⟩;have:=h.2 i (by simpa using hi);simpa using this
 | p::l,done,h,hd=>by
  simp only [Zdm,Bool.and_eq_true,Za6] at h;obtain ⟨⟨⟨⟨hlt,hnd⟩,hed⟩,hpair⟩,hrest⟩:=h;have hlt':p.i < ops.size:=by simpa using hlt
  have f:=Zfv hrest (by
   intro d hd';rcases mem_cons.1 hd' with rfl | hd'
   ·exact hlt'
   ·exact hd d hd')
  have hnd':p.i∉done.map (·.i):=by simpa using hnd
  have edges:∀ d,Ze6 ops d p.i->d∈done.map (·.i):=by
   rintro d ⟨o,ho,e,he,hb,rfl⟩;have ho':ops.toList[p.i]?=some o:=by simpa using ho
   rw [ho'] at hed;simp only [Bool.and_eq_true,all_eq_true,Bool.or_eq_true,Bool.not_eq_true'] at hed;rcases hed.2 e (by simpa using he) with h | h
   ·rw [ZlC,hb] at h;cases h
   ·simpa using h
  refine ⟨?_,?_,?_,?_,?_,?_,?_,?_⟩
  ·have:=f.len;simp at this |-;omega
  ·intro i hi;rcases f.all i hi with h | ⟨q,hq,e⟩
   ·rw [map_cons] at h;rcases mem_cons.1 h with rfl | h
    ·exact .inr ⟨p,by simp,rfl⟩
    ·exact .inl h
   ·exact .inr ⟨q,by simp [hq],e⟩
  ·refine List.pairwise_cons.2 ⟨fun q hq=>⟨?_,f.pair q hq p (by simp),?_⟩,f.pw⟩
   ·intro e;exact f.ndone q hq (by rw [<-e];simp)
   ·intro hedge;exact f.ndone q hq (by rw [map_cons];exact List.mem_cons_of_mem _ (edges q.i hedge))
  ·intro q hq;rcases mem_cons.1 hq with rfl | hq
   ·exact hnd'
   ·intro h;exact f.ndone q hq (by rw [map_cons];exact List.mem_cons_of_mem _ h)
  ·intro q hq c hc;rcases mem_cons.1 hq with rfl | hq
   ·rw [all_eq_true] at hpair;exact hpair c hc
   ·exact f.pair q hq c (by simp [hc])
  ·intro q hq;rcases mem_cons.1 hq with rfl | hq
   ·intro h;exact hnd' (edges _ h)
   ·exact f.self q hq
  ·intro q hq d hedge;rcases mem_cons.1 hq with rfl | hq
   ·obtain ⟨x,hx,rfl⟩:=mem_map.1 (edges d hedge);exact hd x hx
   ·exact f.lt q hq d hedge
  ·intro q hq o ho;rcases mem_cons.1 hq with rfl | hq
   ·have ho':ops.toList[q.i]?=some o:=by simpa using ho
    rw [ho'] at hed;simp only [Bool.and_eq_true] at hed;exact hed.1
   ·exact f.mode q hq o ho
end
theorem HR.sameHeap {E:Gh} {h:Nat->Option AB} {w w':World} (hr:HR E h w) (e:w'.heap=w.heap):HR E h w':=⟨fun n b hb=>by rw [e];exact hr.blk n b hb,hr.free,hr.inj⟩
theorem PR.sameHeap {E:Gh} {w w':World} (pr:PR E w) (e:w'.heap=w.heap):PR E w':=⟨fun b arr hb=>by rw [e];exact pr.blk b arr hb,pr.gl⟩
theorem ZaZ.fromHeap {E E':Gh} {h h':Nat->Option AB} {w w1 w':World} {x y:Nat} (t:ZaZ E h w1 x E' h' w' y) (e:w1.heap=w.heap) (he:Env w w1):ZaZ E h w x E' h' w' y:=
 ⟨t.ext,t.le,t.dom,t.hr,t.pr,by rw [<-e];exact t.size,t.names,by rw [<-e];exact t.own,by rw [<-e];exact t.frame,by rw [<-e];exact t.prot,he.trans t.env⟩
section
variable {P:Program} {pol:FuncId->Bool} {rec:ZbL}
theorem Zuc (hmix:P.follows .mixedOrders=true) (hx:Zoo P) (hs:ZjF P pol rec) {nt:Nat} {ops:Array Oper} {pl:List PS} (hpl:Zaf pol ops.toList=some pl) {T T':Tm} {S S':St} {E:Gh} {a:Act} {w:World}
 (h:(ZbO pol P ops.toList pl).f rec nt [] T S=some (T',S')) (ht:TR E nt T.get a) (hr:HR E S.heap.get w) (pr:PR E w) (fresh:∀ n,S.next<=n->n < S'.next->¬ E.dom n) (hd:a.defers=[])
 {Q:Exit->Act->World->Prop} (hq:∀ E' a' w',TR E' nt T'.get a'->a'.defers=[]->ZaZ E S.heap.get w S.next E' S'.heap.get w' S'.next->Q .normal a' w') (id:Nat):(Code.region id ops true).wp P Q a w:=by
 refine wp_region_any hmix ?_;have hok:Zdm pol ops.toList (ZbJ ops.toList []) [] pl=true:=by
  unfold Zaf at hpl;simp only at hpl;cases hb:Zdm pol ops.toList (ZbJ ops.toList []) [] (Zim (ZfY (ZbJ ops.toList []) ops.toList.length [] ((ops.toList.zipIdx.map fun p=>(p.2,p.1)).map fun q=>(q.1,ZnW pol (ZbJ ops.toList []) (ops.toList.zipIdx.map fun p=>(p.2,p.1)) q.1 q.2))))<;>rw [hb] at hpl
  ·cases hpl
  ·cases hpl;exact hb
 have f:=Zfv hok (by simp);obtain ⟨L,c1,c2,c3,c4,c5,c6,c7,cq,c8⟩:=Zfu hx hs f.mode h;have dep:∀ i c,((ZbJ ops.toList []).getD i 0).testBit c=true->Dep ops c i:=Zg5 ops.toList [] 0 rfl rfl (by intro i c h;simp at h);have hlen:L.length=ops.size:=by
  have:=congrArg List.length c2;have h2:=f.len;simp at this h2;omega
 have back:∀ x∈L,∃ p∈pl,p.i=x.e.i/\p.hide=x.hide:=by
  intro x hx;exact ⟨⟨x.e.i,x.hide,x.lg,x.c⟩,by rw [<-c2];exact mem_map.2 ⟨x,hx,rfl⟩,rfl,rfl⟩
 have hpw:L.Pairwise (fun c e=>c.e.i≠e.e.i/\Zh6 ops.toList (ZbJ ops.toList []) ⟨c.e.i,c.hide,c.lg,c.c⟩ ⟨e.e.i,e.hide,e.lg,e.c⟩=true/\¬ Ze6 ops e.e.i c.e.i):=by
  have h1:=f.pw;rw [<-c2] at h1;exact List.pairwise_map.1 h1
 have hrel:(L.map (·.e)).Pairwise (ZzL ops):=by
  rw [List.pairwise_map];have:=(hpw.and c7).imp_of_mem (S:=fun c e=>ZzL ops c.e e.e) (fun {c e} hc he ⟨⟨h1,h2,h3⟩,h4,h5⟩=>by
   refine ⟨?_,h3,h4,h1⟩;cases hb:((ZbJ ops.toList []).getD e.e.i 0).testBit c.e.i with
   | true=>exact .inr (dep _ _ hb)
   | false=>exact .inl (ZqV (c3 c hc).op (c3 e he).op (c4 c hc) (c4 e he) h5 (fun h=>(cq e he h).1) (fun h=>(cq e he h).2) h4 h2 hb))
  exact this
 have hpr:PR E { w with drawn:=w.drawn+1 }:=pr.sameHeap rfl;have hhr:HR E S.heap.get { w with drawn:=w.drawn+1 }:=hr.sameHeap rfl;refine ZkQ (P:=P) (ops:=ops) (nt:=nt) (x0:=S.next) (y0:=S'.next) (E0:=E) (K0:=S.heap.get) (w0:={ w with drawn:=w.drawn+1 }) (Tf':=T'.get) (K':=S'.heap.get) ?_ ops.size (L.map (·.e)) _ T.get S.heap.get E a _ (by simpa using hlen) (by simp) ?_ ?_ hrel ?_ ?_ ?_ c1 ht.1 ht.2 hd hhr hpr ?_ ?_
  ((ZaZ.refl S.next hhr hpr).widen (le_refl _) c8)
 ·intro E' a' w' h1 h2 h3 tr;exact hq E' a' w' ⟨h1,h2⟩ h3 (tr.fromHeap rfl ⟨rfl,rfl,rfl⟩)
 ·intro i hi;constructor
  ·intro _;rcases f.all i hi with h | ⟨p,hp,rfl⟩
   ·simp at h
   ·have:p∈L.map (fun x=>(⟨x.e.i,x.hide,x.lg,x.c⟩:PS)):=by rw [c2];exact hp
    obtain ⟨x,hx,e⟩:=mem_map.1 this;exact ⟨x.e,mem_map.2 ⟨x,hx,rfl⟩,congrArg PS.i e⟩
  ·intro _;simp [Array.getD,hi]
 ·intro e he;obtain ⟨x,hx,rfl⟩:=mem_map.1 he;exact c3 x hx
 ·intro e he;obtain ⟨x,hx,rfl⟩:=mem_map.1 he;obtain ⟨p,hp,e1,_⟩:=back x hx;rw [<-e1];exact f.self p hp
 ·intro d i _ hi hlt;simp [Array.getD,hlt] at hi
 ·intro e he d hedge;obtain ⟨x,hx,rfl⟩:=mem_map.1 he;obtain ⟨p,hp,e1,_⟩:=back x hx;rw [<-e1] at hedge;exact f.lt p hp d hedge
 ·intro e he;obtain ⟨x,hx,rfl⟩:=mem_map.1 he;exact c5 x hx
 ·intro e he n h1 h2;obtain ⟨x,hx,rfl⟩:=mem_map.1 he;have:=c5 x hx;exact fresh n (by omega) (by omega)
def Z1R (rec:ZbL):Prop:=∀ nt c T S x T' S',rec nt c T S=some (x,T',S')->S.next<=S'.next
theorem Zud (hx:Zoo P) (hs:ZjF P pol rec) {nt:Nat} {ops:Array Oper} {pl:List PS} (hpl:Zaf pol ops.toList=some pl) {T T':Tm} {S S':St} {log:List LE} (h:(ZbO pol P ops.toList pl).f rec nt log T S=some (T',S')):S.next<=S'.next:=by
 have hok:Zdm pol ops.toList (ZbJ ops.toList []) [] pl=true:=by
  unfold Zaf at hpl;simp only at hpl;cases hb:Zdm pol ops.toList (ZbJ ops.toList []) [] (Zim (ZfY (ZbJ ops.toList []) ops.toList.length [] ((ops.toList.zipIdx.map fun p=>(p.2,p.1)).map fun q=>(q.1,ZnW pol (ZbJ ops.toList []) (ops.toList.zipIdx.map fun p=>(p.2,p.1)) q.1 q.2))))<;>rw [hb] at hpl
  ·cases hpl
  ·cases hpl;exact hb
 obtain ⟨L,_,_,_,_,_,_,_,_,h8⟩:=Zfu hx hs (Zfv hok (by simp)).mode h;exact h8
def Zs6 (P:Program) (n:Nat) (rec:ZbL):Prop:=
 ∀ nt b T S x T' S',rec nt (.loop b) T S=some (x,T',S')->∀ E a w,TR E nt T.get a->HR E S.heap.get w->PR E w->(∀ k,S.next<=k->k < S'.next->¬ E.dom k)->a.defers=[] ->
  Code.rounds P b (fun e a' w'=>∃ E',XR x e/\TR E' nt T'.get a'/\a'.defers=[]/\ZaZ E S.heap.get w S.next E' S'.heap.get w' S'.next) n a w
theorem Zdr (pol:FuncId->Bool) (pl:List Oper->Option (List PS)) (P:Program) (n nt:Nat) (c:Code) (T:Tm) (S:St) :
 run pol pl P (n+1) nt c T S=(Zl1 pol pl P c).f (run pol pl P n) nt T S:=rfl
theorem Zg6 {c:Code} {Q Q':Exit->Act->World->Prop} (h:∀ e a w,Q e a w->Q' e a w):∀ (n:Nat) (a:Act) (w:World),Code.rounds P c Q n a w->Code.rounds P c Q' n a w
 | 0,_,_,hr=>hr
 | n+1,a,w,hr=>by
  rw [rounds_succ] at hr |-
  refine wp_mono hr fun e a' w' he=>?_;cases e<;>first | exact Zg6 h n a' w' he | exact h _ _ _ he
theorem Zo0 (hmix:P.follows .mixedOrders=true) (hx:Zoo P) (hP:Znl P):∀ n,Zj9 P (run pol (Zaf pol) P n)/\Z1R (run pol (Zaf pol) P n)/\Zs6 P n (run pol (Zaf pol) P n)
 | 0=>⟨(by intro nt c T S x T' S' h;cases h),(by intro nt c T S x T' S' h;cases h),(by intro nt b T S x T' S' h;cases h)⟩
 | n+1=>by
  obtain ⟨ih,mono,ihl⟩:=Zo0 hmix hx hP n;have hs:ZjF P pol (run pol (Zaf pol) P n):=fun h ho hr pr fr _ _ hn=>Z0B hx hP ih h ho hr pr fr hn;have mono':Z1R (run pol (Zaf pol) P (n+1)):=by
   intro nt c T S x T' S' h;rw [Zdr] at h;cases c<;>simp only [Zl1,reduceCtorEq] at h
   case skip=>cases h;exact le_refl _
   case exit id=>cases h;exact le_refl _
   case ret=>cases h;exact le_refl _
   case region id ops d=>
    cases d
    ·simp only [cond_false,Zaa,injEq,Prod.mk.injEq] at h;obtain ⟨⟨T1,S1⟩,h1,_,rfl,rfl⟩:=h;exact ZjE h1
    ·simp only [cond_true] at h;split at h
     ·rename_i hpl;simp only [Zaa,injEq,Prod.mk.injEq] at h;obtain ⟨⟨T1,S1⟩,h1,_,rfl,rfl⟩:=h;exact Zud hx hs hpl h1
     ·cases h
   case seq p q=>
    rw [Zaa] at h;obtain ⟨⟨y,T1,S1⟩,h1,h⟩:=h;have:=mono _ _ _ _ _ _ _ h1;split at h
    ·exact Nat.le_trans this (mono _ _ _ _ _ _ _ h)
    ·cases h;exact this
   case cond v p q=>
    rw [Zaa] at h;obtain ⟨u,_,h⟩:=h;split at h
    ·exact mono _ _ _ _ _ _ _ h
    ·exact mono _ _ _ _ _ _ _ h
    ·cases h
   case block id b=>
    rw [Zaa] at h;obtain ⟨⟨y,T1,S1⟩,h1,h⟩:=h;have:=mono _ _ _ _ _ _ _ h1;split at h
    ·rename_i i hi;cases hb:i.beq id<;>rw [hb] at h<;>(cases h;exact this)
    ·cases h;exact this
   case loop b=>
    rw [Zaa] at h;obtain ⟨⟨y,T1,S1⟩,h1,h⟩:=h;have:=mono _ _ _ _ _ _ _ h1;split at h
    ·exact Nat.le_trans this (mono _ _ _ _ _ _ _ h)
    ·cases h;exact this
  have two:∀ {E:Gh} {S S1 S':St} {E1:Gh} {w w1:World},ZaZ E S.heap.get w S.next E1 S1.heap.get w1 S1.next->(∀ k,S.next<=k->k < S'.next->¬ E.dom k)->∀ k,S1.next<=k->k < S'.next->¬ E1.dom k:=by
   intro E S S1 S' E1 w w1 tr fresh k h1 h2 d;have hle:=tr.le;rcases tr.dom k d with d | ⟨_,d⟩
   ·exact fresh k (by omega) h2 d
   ·omega
  have loop':Zs6 P (n+1) (run pol (Zaf pol) P (n+1)):=by
   intro nt b T S x T' S' h E a w ht hr pr fresh hd;rw [Zdr] at h;simp only [Zl1] at h;rw [Zaa] at h;obtain ⟨⟨y,T1,S1⟩,h1,h⟩:=h;rw [rounds_succ];have hle1:S1.next<=S'.next:=by
    split at h
    ·exact mono _ _ _ _ _ _ _ h
    ·cases h;exact le_refl _
   refine wp_mono (ih _ _ _ _ _ _ _ h1 E a w ht hr pr (fun k a b=>fresh k a (Nat.lt_of_lt_of_le b hle1)) hd) ?_;rintro e a1 w1 ⟨E1,hx,ht1,hd1,tr1⟩;split at h
   ·rename_i hy;simp only at hy;subst hy;simp only [XR] at hx;subst hx;show Code.rounds P b _ n a1 w1;refine Zg6 ?_ n a1 w1 (ihl _ _ _ _ _ _ _ h E1 a1 w1 ht1 tr1.hr tr1.pr (two tr1 fresh) hd1);rintro e a2 w2 ⟨E2,hx2,ht2,hd2,tr2⟩;exact ⟨E2,hx2,ht2,hd2,tr1.trans tr2⟩
   ·rename_i hy;cases h;simp only at hy;cases y with
    | n=>exact absurd rfl hy
    | e id=>simp only [XR] at hx;subst hx;exact ⟨E1,rfl,ht1,hd1,tr1⟩
    | r=>simp only [XR] at hx;subst hx;exact ⟨E1,rfl,ht1,hd1,tr1⟩
  refine ⟨?_,mono',loop'⟩;intro nt c T S x T' S' h E a w ht hr pr fresh hd;have h0:=h;rw [Zdr] at h;cases c<;>simp only [Zl1,reduceCtorEq] at h
  case skip=>cases h;exact wp_skip ⟨E,rfl,ht,hd,ZaZ.refl _ hr pr⟩
  case exit id=>cases h;exact wp_exit ⟨E,rfl,ht,hd,ZaZ.refl _ hr pr⟩
  case ret=>cases h;exact wp_ret ⟨E,rfl,ht,hd,ZaZ.refl _ hr pr⟩
  case region id ops d=>
   cases d
   ·simp only [cond_false,Zaa,injEq,Prod.mk.injEq] at h;obtain ⟨⟨T1,S1⟩,h1,rfl,rfl,rfl⟩:=h;refine wp_region ?_;have:=Zoy (Q:=fun e a' w'=>∃ E',XR .n e/\TR E' nt T1.get a'/\a'.defers=[]/\ZaZ E S.heap.get w S.next E' S1.heap.get w' S1.next) hs (k:=0) h1 rfl ht hr pr fresh hd (fun E' a' w' h2 h3 h4=>⟨E',rfl,h2,h3,h4⟩);rw [Nat.sub_zero,<-List.range_eq_range'] at this;exact this
   ·simp only [cond_true] at h;split at h
    ·rename_i p hp;simp only [Zaa,injEq,Prod.mk.injEq] at h;obtain ⟨⟨T1,S1⟩,h1,rfl,rfl,rfl⟩:=h;exact Zuc hmix hx hs hp h1 ht hr pr fresh hd (fun E' a' w' h2 h3 h4=>⟨E',rfl,h2,h3,h4⟩) id
    ·cases h
  case seq p q=>
   rw [Zaa] at h;obtain ⟨⟨y,T1,S1⟩,h1,h⟩:=h;have hle1:S1.next<=S'.next:=by
    split at h
    ·exact mono _ _ _ _ _ _ _ h
    ·cases h;exact le_refl _
   refine wp_seq (wp_mono (ih _ _ _ _ _ _ _ h1 E a w ht hr pr (fun k a b=>fresh k a (Nat.lt_of_lt_of_le b hle1)) hd) ?_);rintro e a1 w1 ⟨E1,hx,ht1,hd1,tr1⟩;split at h
   ·rename_i hy;simp only at hy;subst hy;simp only [XR] at hx;subst hx;show q.wp P _ a1 w1;refine wp_mono (ih _ _ _ _ _ _ _ h E1 a1 w1 ht1 tr1.hr tr1.pr (two tr1 fresh) hd1) ?_;rintro e a2 w2 ⟨E2,hx2,ht2,hd2,tr2⟩;exact ⟨E2,hx2,ht2,hd2,tr1.trans tr2⟩
   ·rename_i hy;cases h;simp only at hy;cases y with
    | n=>exact absurd rfl hy
    | e id=>simp only [XR] at hx;subst hx;exact ⟨E1,rfl,ht1,hd1,tr1⟩
    | r=>simp only [XR] at hx;subst hx;exact ⟨E1,rfl,ht1,hd1,tr1⟩
  case cond v p q=>
   rw [Zaa] at h;obtain ⟨u,hu,h⟩:=h;have hv:=Zs4 ht pr hu;split at h
   ·simp only [VR] at hv;exact wp_cond_true hv (ih _ _ _ _ _ _ _ h E a w ht hr pr fresh hd)
   ·simp only [VR] at hv;exact wp_cond_false hv (ih _ _ _ _ _ _ _ h E a w ht hr pr fresh hd)
   ·cases h
  case block id b=>
   rw [Zaa] at h;obtain ⟨⟨y,T1,S1⟩,h1,h⟩:=h;have hS:S1=S'/\T1=T':=by
    split at h
    ·rename_i i hi;cases hb:i.beq id<;>rw [hb] at h<;>(cases h;exact ⟨rfl,rfl⟩)
    ·cases h;exact ⟨rfl,rfl⟩
   obtain ⟨rfl,rfl⟩:=hS;refine wp_block (wp_mono (ih _ _ _ _ _ _ _ h1 E a w ht hr pr fresh hd) ?_);rintro e a1 w1 ⟨E1,hx,ht1,hd1,tr1⟩;cases y with
   | n=>simp only [XR] at hx;subst hx;cases h;exact ⟨E1,rfl,ht1,hd1,tr1⟩
   | r=>simp only [XR] at hx;subst hx;cases h;exact ⟨E1,rfl,ht1,hd1,tr1⟩
   | e i=>
    simp only [XR] at hx;subst hx;simp only at h;by_cases e:i=id
    ·subst e;rw [Nat.beq_refl,cond_true] at h;cases h;simp only [Exit.inBlock,if_true];exact ⟨E1,rfl,ht1,hd1,tr1⟩
    ·rw [ZaR e,cond_false] at h;cases h;simp only [Exit.inBlock,if_neg e];exact ⟨E1,rfl,ht1,hd1,tr1⟩
  case loop b=>
   exact wp_loop_rounds (n+1) (loop' _ _ _ _ _ _ _ h0 E a w ht hr pr fresh hd)
end
end Go.Eng
