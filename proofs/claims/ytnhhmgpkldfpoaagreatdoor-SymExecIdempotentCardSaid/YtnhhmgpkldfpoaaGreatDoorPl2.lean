import Derived.Test.YtnhhmgpkldfpoaaGreatDoorPl1
import Derived.Test.YtnhhmgpkldfpoaaGreatDoorPl0
set_option linter.unusedSimpArgs false
set_option linter.unusedVariables false
set_option linter.unusedSectionVars false
open List (length_map mem_singleton replicate mem_map length_nil take_length map_congr_left mem_append length_cons mem_cons take_add_one getElem?_append_right getElem?_map mem_of_getElem? length_append map_append all_eq_true)
open Go.IntKind (wrap)
open Option (bind_some)
open ByteArray (empty)
open Option.some (inj injEq)
open Nat (le_refl sub_self)
open Int (toNat_natCast tdiv)
namespace Go.Dat
open Go.Eng
def OkS (g:GrT):Prop:=(∀ i:Nat,i < g.2.2.1.length->atI (Zam g.2.2.1 g.2.2.1.length) i≠0)/\ZfU (Zam g.2.2.1 g.2.2.1.length) g.2.2.2.1=1/\ZfU (Zam g.2.2.1 g.2.2.1.length) g.2.2.2.2=2
def ZLl (p:List Int) (g r:GrT):Prop:=(OkS g/\r.1=g.1/\r.2.1=g.2.1/\ZNv (ZK7 p g.2.2.1).2 (atI (ZK7 p g.2.2.1).1 g.2.2.2.1) (atI (ZK7 p g.2.2.1).1 g.2.2.2.2) r.2.2.1 r.2.2.2.1 r.2.2.2.2)\/(¬ OkS g/\r=(empty,0,[],0,0))
theorem OkS.sortL {g:GrT} (h:OkS g) (hG:GraphH g.2.2.1):ZO7 g.2.2.1:=fun i x hx=>ZL4 hG hx (h.1 i (ZaA hx))
theorem ZKQ {l:List Int} {i:Int} (h:ZfU l i≠0):inR l.length i:=by
 unfold ZfU at h;split at h
 ·assumption
 ·exact absurd rfl h
theorem ZMY (nums:List Int) (m:Nat) (v:Int):Zaq (nums++replicate (m+1) 0) (nums.length:Int) v=(nums++[v])++replicate m 0:=by
 unfold Zaq;rw [toNat_natCast,List.set_append_right _ _ (le_refl _),sub_self,List.replicate_succ,List.set_cons_zero,List.append_assoc];rfl
def ZQ8 (p:List Int) (g:GrT):Prop:=∃ b:Nat,b<=3000/\HB (ZK7 p g.2.2.1).2 b (atI (ZK7 p g.2.2.1).1 g.2.2.2.1)/\HB (ZK7 p g.2.2.1).2 b (atI (ZK7 p g.2.2.1).1 g.2.2.2.2)
section
variable {g:GrT} (hW:ZhX g.2.2.1) (hl:g.2.2.1.length<=10000) (p:List Int) (hd:OkS g->ZQ8 p g)
include hW hl hd
theorem ZMD (ok:OkS g):Ret (Zao (ZFZ g) (0,empty,0,0,0,p,replicate g.2.2.1.length 0,[],[])) (ZLl p g):=by
 have hS:=ok.sortL hW.toGraphH;have hN:=ZLw (p:=p) hS hW.w (by omega);refine Zac (fun q:Int×ByteArray×Int×Int×Int×List Int×List Int×List Zae×List (ByteArray×Int)=>∃ (i:Nat) (idx:List (ByteArray×Int)),i<=g.2.2.1.length/\ZLV idx (ZK7 p (g.2.2.1.take i)).2/\q=((i:Int),empty,0,0,0,p,(ZK7 p (g.2.2.1.take i)).1++replicate (g.2.2.1.length - i) 0,(ZK7 p (g.2.2.1.take i)).2,idx)) (fun q=>g.2.2.1.length - q.1.toNat) ?_ _ ⟨0,[],by omega,by simpa [ZK7] using ZLV.nil,by simp [ZK7]⟩;rintro _ ⟨i,idx,hi,hI,rfl⟩;have hNi:=hN i hi;have hw:=Zab i (by omega);have hnl:=hNi.len;simp only [ZFZ,wq,reduceCtorEq];refine ⟨fun hlt=>Zaj (by omega) hlt fun x hx hxm=>?_,fun hge=>?_⟩
 ·rw [Zax] at hx;have hxs:=hS i x hx;have hxw:=hW.w x hxm;have hxk:=hxw.k;have e1:=ZLb (p:=p) hx;obtain ⟨nums,hnums⟩:∃ n,n=(ZK7 p (g.2.2.1.take i)).1:=⟨_,rfl⟩
  obtain ⟨L,hL⟩:∃ n,n=(ZK7 p (g.2.2.1.take i)).2:=⟨_,rfl⟩
  have e2:ZK7 p (g.2.2.1.take i)=(nums,L):=by rw [hnums,hL]
  rw [e2] at e1 hI hnl hNi;rw [<-hnums,<-hL];dsimp only at hI hnl hNi;refine Zac (fun q:Int×ByteArray×Int×Int×Int×List Int×List Int×List Int×List Zae×List (ByteArray×Int)=>∃ k:Nat,k<=x.2.2.length/\q=((k:Int),empty,0,0,0,p,nums++replicate (g.2.2.1.length - i) 0,(x.2.2.take k).map (atI nums),L,idx)) (fun q=>x.2.2.length - q.1.toNat) ?_ _ ⟨0,by omega,by simp⟩;rintro _ ⟨k,hk,rfl⟩;have hwk:=Zab k (by omega);simp only [ZOi,wq,reduceCtorEq,hwk,hw];refine ⟨fun hlt2=>Zaj (by omega) hlt2 fun y hy hym=>?_,fun hge2=>?_⟩
  ·rw [Zax] at hy;obtain ⟨y0,y1⟩:=hxs.k y hym;have gy:gI (nums++replicate (g.2.2.1.length - i) 0) y=some (atI nums y):=by
    rw [ZH3 (by omega)];exact ZaB ⟨y0,by omega⟩
   simp only [gy,wq,reduceCtorEq];refine ⟨fun _=>⟨⟨k+1,by omega,?_⟩,by omega⟩,fun h=>absurd h (by simp only [length_map,List.length_take,length_cons,length_nil];omega)⟩;rw [take_add_one,hy,map_append];rfl
  ·have hkk:k=x.2.2.length:=by omega
   subst hkk;rw [take_length];have hf:=ZM9 hNi hxs hxw;have hb:L.length < 100000:=by have:=hNi.sz;omega
   have hint:Ret (F22 x.1 x.2.1 p (x.2.2.map (atI nums)) L idx) (PR p (inM p L (x.1,x.2.1,x.2.2.map (atI nums)))):=ZO4 hNi.W p hI 2998 hf hb;refine Ret.mono hint fun r _ ⟨idx',hI',hr⟩=>?_;subst hr;have gi:gI (nums++replicate (g.2.2.1.length - i) 0) (i:Int)=some 0:=by
    rw [Zax,getElem?_append_right (by omega),hnl,sub_self,List.getElem?_replicate,if_pos (by omega)]
   simp only [gi,wq,reduceCtorEq];have e3:ZLQ p (nums,L) x=(nums++[(inM p L (x.1,x.2.1,x.2.2.map (atI nums))).1],(inM p L (x.1,x.2.1,x.2.2.map (atI nums))).2):=rfl;refine ⟨⟨i+1,idx',by omega,by rw [e1,e3];exact hI',?_⟩,by show g.2.2.1.length - (((i+1:Nat):Int)).toNat < g.2.2.1.length - ((i:Int)).toNat;omega⟩;have e4:g.2.2.1.length - i=(g.2.2.1.length - (i+1))+1:=by omega
   rw [e1,e3,e4,<-hnl,ZMY]
 ·have hii:i=g.2.2.1.length:=by omega
  subst hii;rw [take_length] at hNi hI hnl |-
  have v0:=ZKQ (l:=Zam g.2.2.1 g.2.2.1.length) (i:=g.2.2.2.1) (by rw [ok.2.1];omega);have s0:=ZKQ (l:=Zam g.2.2.1 g.2.2.1.length) (i:=g.2.2.2.2) (by rw [ok.2.2];omega);rw [ZaK] at v0 s0;rw [sub_self,List.replicate_zero,List.append_nil];have gv:gI (ZK7 p g.2.2.1).1 g.2.2.2.1=some (atI (ZK7 p g.2.2.1).1 g.2.2.2.1):=ZaB (by rw [hnl];exact v0);have gs:gI (ZK7 p g.2.2.1).1 g.2.2.2.2=some (atI (ZK7 p g.2.2.1).1 g.2.2.2.2):=ZaB (by rw [hnl];exact s0);simp only [gv,gs,wq,reduceCtorEq];obtain ⟨b,hb,b1,b2⟩:=hd ok;refine Ret.mono (Z6L hNi.W p idx (b:=b) hb b1 b2) fun r _ hr=>?_;exact .inl ⟨ok,rfl,rfl,hr⟩
theorem ZQ6:Ret (F11 g p) (ZLl p g):=by
 have bad:¬ OkS g->ZLl p g (empty,0,[],0,0):=fun h=>.inr ⟨h,rfl⟩;simp only [F11];refine Zac (fun q:Int×ByteArray×Int×Int×Int=>∃ i:Nat,i<=g.2.2.1.length/\(∀ j:Nat,j < i->atI (Zam g.2.2.1 g.2.2.1.length) j≠0)/\q=((i:Int),empty,0,0,0)) (fun q=>g.2.2.1.length - q.1.toNat) ?_ _ ⟨0,by omega,(fun j hj=>by omega),rfl⟩;rintro _ ⟨i,hi,hj,rfl⟩;have hw:=Zab i (by omega);simp only [ZGg,ZNJ _ hW.toGraphH,wq,reduceCtorEq,hw];refine ⟨fun hlt=>⟨fun h0=>bad fun h=>?_,fun h0=>⟨⟨i+1,by omega,fun j hj'=>?_,rfl⟩,by omega⟩⟩,fun hge=>?_⟩
 ·have e:ZfU (Zam g.2.2.1 g.2.2.1.length) (i:Int)=atI (Zam g.2.2.1 g.2.2.1.length) i:=by
   unfold ZfU;rw [if_pos ⟨by omega,by rw [ZaK];omega⟩]
  rw [e] at h0;exact h.1 i (by omega) h0
 ·have e:ZfU (Zam g.2.2.1 g.2.2.1.length) (i:Int)=atI (Zam g.2.2.1 g.2.2.1.length) i:=by
   unfold ZfU;rw [if_pos ⟨by omega,by rw [ZaK];omega⟩]
  rw [e] at h0;by_cases e2:j=i
  ·subst e2;exact h0
  ·exact hj j (by omega)
 ·have hii:i=g.2.2.1.length:=by omega
  subst hii;simp only [ZGa,F21,wq,reduceCtorEq];refine ⟨fun h=>bad fun ok=>absurd ok.2.1 (by simpa using h),fun h1=>⟨fun h=>bad fun ok=>absurd ok.2.2 (by simpa using h),fun h2=>⟨fun _=>?_,fun h=>absurd h (by omega)⟩⟩⟩;exact ZMD hW hl p hd ⟨hj,by simpa using h1,by simpa using h2⟩
end
theorem ZQ5 {g:GrT} (hW:ZhX g.2.2.1) (hl:g.2.2.1.length<=2500) (p:List Int) (ok:OkS g):ZQ8 p g:=by
 have hS:=ok.sortL hW.toGraphH;have hN:=ZLw (p:=p) hS hW.w (by omega) g.2.2.1.length (le_refl _);rw [take_length] at hN;have v0:=ZKQ (l:=Zam g.2.2.1 g.2.2.1.length) (i:=g.2.2.2.1) (by rw [ok.2.1];omega);have s0:=ZKQ (l:=Zam g.2.2.1 g.2.2.1.length) (i:=g.2.2.2.2) (by rw [ok.2.2];omega);rw [ZaK] at v0 s0;have gv:gI (ZK7 p g.2.2.1).1 g.2.2.2.1=some (atI (ZK7 p g.2.2.1).1 g.2.2.2.1):=ZaB (by rw [hN.len];exact v0);have gs:gI (ZK7 p g.2.2.1).1 g.2.2.2.2=some (atI (ZK7 p g.2.2.1).1 g.2.2.2.2):=ZaB (by rw [hN.len];exact s0);exact ⟨g.2.2.1.length,by omega,hN.hb _ (ZeR gv),hN.hb _ (ZeR gs)⟩
theorem Z4P {g:GrT} (hW:ZhX g.2.2.1) (hl:g.2.2.1.length<=2500) (p:List Int):Ret (F11 g p) (ZLl p g):=ZQ6 hW (by omega) p (ZQ5 hW hl p)
def opS (op:Int):Int:=if op<=24 then 1 else 2
def Z6M (l:List Zae) (k:Int):Int:=opS (Zar l k).1
def ksG (op:Int):List Int:=
 if op=1\/op=2\/op=26 then [] else if op=20\/op=21 then [1] else if op=24 then [2] else if 4<=op/\op<=19 then [1,1] else if op=23\/op=27\/op=29 then [2,1] else if op=22 then [1,1,1] else if op=28 then [2,1,1] else []
def opG (op:Int):Prop:=1<=op/\op<=29/\op≠3/\op≠25
theorem Z7b {op:Int} {P:Int->Prop} (h:opG op) (h1:P 1) (h2:P 2) (h4:P 4) (h5:P 5) (h6:P 6) (h7:P 7) (h8:P 8) (h9:P 9) (h10:P 10) (h11:P 11) (h12:P 12) (h13:P 13) (h14:P 14) (h15:P 15) (h16:P 16) (h17:P 17) (h18:P 18) (h19:P 19) (h20:P 20) (h21:P 21) (h22:P 22) (h23:P 23) (h24:P 24) (h26:P 26) (h27:P 27) (h28:P 28) (h29:P 29):P op:=by
 obtain ⟨a,b,c,d⟩:=h;have:op=1\/op=2\/op=4\/op=5\/op=6\/op=7\/op=8\/op=9\/op=10\/op=11\/op=12\/op=13\/op=14\/op=15\/op=16\/op=17\/op=18\/op=19\/op=20\/op=21\/op=22\/op=23\/op=24\/op=26\/op=27\/op=28\/op=29:=by omega
 rcases this with rfl | rfl | rfl | rfl | rfl | rfl | rfl | rfl | rfl | rfl | rfl | rfl | rfl | rfl | rfl | rfl | rfl | rfl | rfl | rfl | rfl | rfl | rfl | rfl | rfl | rfl | rfl<;>assumption
structure WtN (l:List Zae) (i:Nat) (x:Zae):Prop where
 op:opG x.1
 im:Zfk x.1 x.2.1=true
 ks:x.2.2.map (Z6M l)=ksG x.1
 lt:∀ k∈x.2.2,0<=k/\k < i
def Wt (l:List Zae):Prop:=∀ (i:Nat) x,l[i]?=some x->WtN l i x
theorem Z7Z (op:Int):opS op=1\/opS op=2:=by unfold opS;split<;>simp
theorem ZBw (l:List Zae) (op imm:Int) (ks:List Int) (h:opG op) (hi:Zfk op imm=true) (hk:ks.length=(ksG op).length):F49 l (op,imm,ks) (ksG op)=some (opS op):=by
 revert hi hk;refine Z7b (P:=fun op=>Zfk op imm=true->ks.length=(ksG op).length->F49 l (op,imm,ks) (ksG op)=some (opS op)) h ?_ ?_ ?_ ?_ ?_ ?_ ?_ ?_ ?_ ?_ ?_ ?_ ?_ ?_ ?_ ?_ ?_ ?_ ?_ ?_ ?_ ?_ ?_ ?_ ?_ ?_ ?_<;>intro hi hk <;>
  ·simp [ksG] at hk;simp [F49,Zzi,ZAN,hi,ZaY,ksG,opS,hk,Z93,ZKI,ZKB,ZKJ,ZKA,ZKC,ZKD,ZKK,ZKU,Zzz,Zic,ZfI,gI]
theorem Z7D {l:List Zae} (h:Wt l):∀ m≤l.length,Zam l m=(l.take m).map fun x=>opS x.1
 | 0,_=>by simp [Zam]
 | m+1,hm=>by
  obtain ⟨x,hx⟩:=ZeS (l:=l) (i:=m) (by omega);have ih:=Z7D h m (by omega);have hW:=h m x hx;unfold Zam;rw [take_add_one,hx,map_append,<-ih];congr 1;have hat:∀ k∈x.2.2,atI (Zam l m) k=Z6M l k:=fun k hk=>by
   obtain ⟨a,b⟩:=hW.lt k hk;obtain ⟨y,hy⟩:=ZeS (l:=l) (i:=k.toNat) (by omega);rw [ih];unfold atI Z6M Zar;rw [getElem?_map,List.getElem?_take_of_lt (by omega),hy];rfl
  have hok:okK (Zam l m) m x=true:=by
   unfold okK;rw [all_eq_true];intro k hk;obtain ⟨a,b⟩:=hW.lt k hk;unfold okQ;rw [hat k hk];have:=Z7Z (Zar l k).1;simp only [Z6M,Bool.and_eq_true,decide_eq_true_eq,Bool.not_eq_true',beq_eq_false_iff_ne];omega
  have hks:kS (Zam l m) x=ksG x.1:=by
   unfold kS;rw [<-hW.ks];exact map_congr_left hat
  show [Zbu l (Zam l m) m x]=[opS x.1]
  unfold Zbu;rw [hok,hks,cond_true];unfold nsM;obtain ⟨op,imm,ks⟩:=x;rw [ZBw l op imm ks hW.op hW.im (by have:=congrArg List.length hW.ks;simpa using this)];rfl
theorem Z6O {l:List Zae} (h:Wt l) {i:Int} (hi:inR l.length i):atI (Zam l l.length) i=Z6M l i:=by
 have h1:=hi.1;have h2:=hi.2
 rw [Z7D h _ (le_refl _),take_length];obtain ⟨y,hy⟩:=ZeS (l:=l) (i:=i.toNat) (by omega);unfold atI Z6M Zar;rw [getElem?_map,hy];rfl
theorem Z7E {l:List Zae} {n:Zae} {k:Int} (h:inR l.length k):Z6M (l++[n]) k=Z6M l k:=by
 have:=h.1;have:=h.2
 unfold Z6M Zar;rw [List.getElem?_append_left (by omega)]
theorem Wt.push {l:List Zae} (h:Wt l) {n:Zae} (ho:opG n.1) (hi:Zfk n.1 n.2.1=true) (hk:n.2.2.map (Z6M l)=ksG n.1) (hr:∀ k∈n.2.2,inR l.length k):Wt (l++[n]):=by
 intro i x hx;by_cases e:i < l.length
 ·rw [List.getElem?_append_left e] at hx;obtain ⟨a,b,c,d⟩:=h i x hx;exact ⟨a,b,by rw [<-c];exact map_congr_left fun k hk=>Z7E ⟨(d k hk).1,by have:=(d k hk).2;omega⟩,d⟩
 ·have:i=l.length:=by have:=ZaA hx;simp at this;omega
  subst this;rw [getElem?_append_right (le_refl _)] at hx;simp at hx;subst hx;exact ⟨ho,hi,by rw [<-hk];exact map_congr_left fun k hk=>Z7E (hr k hk),fun k hk=>hr k hk⟩
theorem ZNK {l:List Zae} (hG:GraphH l) (hW:Wt l) (sort n:Int) (hs:∃ i,inR l.length i/\Z6M l i=sort):Ret (F39 l sort n) fun r=>inR l.length r/\Z6M l r=sort:=by
 have hn:=hG.n;have hsl:=ZaK l l.length;simp only [F39,ZAX l hG,wq,reduceCtorEq];refine Zac (fun q:Int×List Int=>∃ m:Nat,q.1=m/\m<=l.length/\q.2.length<=m/\(∀ x∈q.2,inR l.length x/\Z6M l x=sort)/\(∀ i:Nat,i < m->Z6M l (i:Int)=sort->q.2≠[])) (fun q=>l.length - q.1.toNat) ?_ _ ⟨0,rfl,by omega,by simp,(fun x hx=>by cases hx),fun i hi=>by omega⟩;rintro ⟨i',all⟩ ⟨m,e,hm,ha,hx,hne⟩;dsimp only at e ha hx hne;subst e;simp only [ZxG,ZuI,wq,reduceCtorEq];refine ⟨fun hlt=>?_,fun hge=>?_⟩
 ·have hw:=Zab m (by omega);have hmr:inR l.length (m:Int):=⟨by omega,hlt⟩
  rw [ZaB (l:=Zam l l.length) (by rw [hsl];exact hmr),Z6O hW hmr,hw];simp only [wq,reduceCtorEq];refine ⟨fun h=>⟨fun _=>?_,fun h=>absurd h (by simp only [length_cons,length_nil];omega)⟩,fun h=>?_⟩
  ·refine ⟨⟨m+1,rfl,by omega,by simp;omega,fun x h'=>?_,fun i _ _=>by simp⟩,by omega⟩;rcases mem_append.1 h' with h' | h'
   ·exact hx x h'
   ·rw [mem_singleton.1 h'];exact ⟨hmr,h⟩
  ·refine ⟨⟨m+1,rfl,by omega,by omega,hx,fun i hi hso=>?_⟩,by omega⟩;by_cases e:i < m
   ·exact hne i e hso
   ·have:i=m:=by omega
    subst this;exact absurd hso h
 ·obtain ⟨i,hi,hik⟩:=hs;have hnn:all≠[]:=hne i.toNat (by have:=hi.1;have:=hi.2;omega) (by rw [show ((i.toNat:Nat):Int)=i by have:=hi.1;omega];exact hik);have hpos:0 < all.length:=List.length_pos_iff.2 hnn;refine ZBv (by omega) (by omega) fun r r0 r1=>?_;rw [Zau (n:=(all.length:Int) - 1) (by omega) (by omega),Zau (by omega) (by omega)];refine Zaj (by omega) (by omega) fun y hy hm=>?_;simp only [Za4 hy];exact hx y hm
theorem ZtG {op:Int} (h:opG op) {j:Nat} {x:Int} (hx:(ksG op)[j]?=some x):F40 op (j:Int)=some x:=by
 have hj:j < 3:=by
  have:=ZaA hx;have h2:(ksG op).length<=3:=by unfold ksG;(repeat' split)<;>simp
  omega
 revert hx;have:j=0\/j=1\/j=2:=by omega
 refine Z7b (P:=fun op=>(ksG op)[j]?=some x->F40 op (j:Int)=some x) h ?_ ?_ ?_ ?_ ?_ ?_ ?_ ?_ ?_ ?_ ?_ ?_ ?_ ?_ ?_ ?_ ?_ ?_ ?_ ?_ ?_ ?_ ?_ ?_ ?_ ?_ ?_<;>(intro hx;rcases this with rfl | rfl | rfl)<;>first | (simp [ksG] at hx;done) | (simp [ksG] at hx;subst hx;rfl)
theorem Z8b {op:Int} (h:opG op):(ZaY op).1=(ksG op).length:=by
 refine Z7b (P:=fun op=>(ZaY op).1=(ksG op).length) h ?_ ?_ ?_ ?_ ?_ ?_ ?_ ?_ ?_ ?_ ?_ ?_ ?_ ?_ ?_ ?_ ?_ ?_ ?_ ?_ ?_ ?_ ?_ ?_ ?_ ?_ ?_<;>rfl
theorem Zzl (l:List Zae) (n:Zae) (hl:l.length<=100000) (hk:∀ x∈l,x.2.2.length<=100000):F41 l n=some (decide (n∈l)):=by
 refine Ret.eq ?_;unfold F41;refine Zac (fun i:Int=>∃ m:Nat,i=m/\m<=l.length/\n∉l.take m) (fun i=>l.length - i.toNat) ?_ _ ⟨0,rfl,by omega,by simp⟩;rintro _ ⟨m,rfl,hm,hno⟩;have hw:=Zab m (by omega);simp only [ZuJ,wq,reduceCtorEq,hw];refine ⟨fun hlt=>Zaj (by omega) hlt fun y hy hym=>?_,fun hge=>?_⟩
 ·rw [Z75 y n (by have:=hk y hym;omega)];simp only [wq,reduceCtorEq];rw [Zax] at hy;refine ⟨fun e=>?_,fun e=>⟨⟨m+1,rfl,by omega,?_⟩,by omega⟩⟩
  ·symm;rw [decide_eq_true_eq];exact e▸hym
  ·rw [take_add_one,hy,mem_append];rintro (h | h)
   ·exact hno h
   ·have h:n=y:=by simpa using h
    exact e h.symm
 ·rw [List.take_of_length_le (by omega)] at hno;symm;rw [decide_eq_false_iff_not];exact hno
def OpE (n:Zae):Prop:=(n.1=1\/n.1=2\/(4<=n.1/\n.1<=24)\/(26<=n.1/\n.1<=29))/\(n.1=2->n.2.1 < 2)/\(n.1=23->n.2.1 < 2)/\(n.1=28->n.2.1 < 2)
structure Z6N (l:List Zae) (m:Nat):Prop extends Good l m where
 wt:Wt l
 nd:l.Nodup
 oe:∀ x∈l,OpE x
theorem Z6N.G {l:List Zae} {m:Nat} (h:Z6N l m) (hm:m<=100):GraphH l:=⟨by have:=h.len;omega,fun x hx=>by have:=h.k x hx;omega⟩
theorem Z6N.up {l:List Zae} {m:Nat} (h:Z6N l m):Z6N l (m+1):=⟨h.toGood.up,h.wt,h.nd,h.oe⟩
theorem Z6N.one {l:List Zae} {m:Nat} (h:Z6N l m):∃ i,inR l.length i/\Z6M l i=1:=⟨0,⟨by omega,by have:=ZaA h.h2;omega⟩,by unfold Z6M Zar;rw [show (0:Int).toNat=0 from rfl,h.h0];rfl⟩
theorem Z6N.two {l:List Zae} {m:Nat} (h:Z6N l m):∃ i,inR l.length i/\Z6M l i=2:=⟨2,⟨by omega,by have:=ZaA h.h2;omega⟩,by unfold Z6M Zar;rw [show (2:Int).toNat=2 from rfl,h.h2];rfl⟩
def ZBE (op imm:Int):Prop:=(op=27->1<=imm/\imm<=2)/\(op≠27->op=1\/imm=0)
theorem Z8x {op imm:Int} (h:opG op) (hp:ZBE op imm):Zfk op imm=true:=by
 unfold Zfk;rw [decide_eq_true_eq];obtain ⟨h1,h2⟩:=hp;by_cases e:op=27
 ·have:=h1 e;subst e;right;refine ⟨by omega,fun _=>by omega,?_⟩;simp;omega
 ·rcases h2 e with h | rfl
  ·exact .inl h
  ·right;refine ⟨by omega,fun h=>absurd h e,?_⟩;(repeat' split)<;>omega
theorem ZRh {op imm:Int} (h:opG op) (hp:ZBE op imm) (k:List Int):OpE (op,imm,k):=by
 unfold opG at h;obtain ⟨h1,h2⟩:=hp;unfold OpE;dsimp only;omega
section
variable (l1:List Int) (i:Nat) (hi:i < l1.length) (hi2:i < 14)
 {Q:((List Zae)⊕((Int×List Zae)⊕(List Zae)))->Prop} {out:List Zae} (hg:Z6N out i) (hQ:∀ o,Z6N o (i+1)->Q (.inl o))
include hg hQ hi hi2
theorem ZL6 (n m:Int) (k:List Int) (hoe:OpE (n,m,k)) (hk:k.length<=3) (hw:NodeW (n,m,k)) (ho:opG n) (him:Zfk n m=true) (hks:k.map (Z6M out)=ksG n) (hr:∀ x∈k,inR out.length x):Ret (ZMK (out,n,m,k)) Q:=by
 have:=hg.len;simp only [ZMK,Zzl out (n,m,k) (by omega) (fun x hx=>by have:=hg.k x hx;omega),wq,reduceCtorEq];refine ⟨fun e=>⟨fun _=>hQ _ ⟨hg.toGood.push _ hk hw,hg.wt.push ho him hks hr,?_,fun x hx=>?_⟩,fun h=>absurd h (by simp only [length_cons,length_nil];omega)⟩,fun _=>hQ _ hg.up⟩
 ·rw [List.nodup_append];exact ⟨hg.nd,by simp,fun a ha b hb=>by rw [mem_singleton.1 hb];exact fun h=>e (h▸ha)⟩
 ·rcases mem_append.1 hx with hx | hx
  ·exact hg.oe x hx
  ·rw [mem_singleton.1 hx];exact hoe
theorem ZL7 (n m:Int) (k:List Int) (hk:k.length<=3) (hn:I64 n) (hm:I64 m) (hkw:∀ x∈k,I64 x) (ho:opG n) (him:ZBE n m) (hks:k.map (Z6M out)=ksG n) (hr:∀ x∈k,inR out.length x):Ret (ZN0 l1 (i:Int) (out,n,m,k)) Q:=by
 have t:∀ b,(b=true->n=23\/n=28)->Ret (ZMJ l1 (i:Int) (b,out,n,m,k)) fun a=>Ret (Sum.elim ZMK some a) Q:=fun b hb=>by
  cases b
  ·simp only [ZMJ,wq,reduceCtorEq];exact ZL6 l1 i hi hi2 hg hQ n m k (ZRh ho him k) hk ⟨hn,hm,by show k.length<=1000;omega,hkw⟩ ho (Z8x ho him) hks hr
  ·simp only [ZMJ,wq,reduceCtorEq];refine Zaj (by omega) (by omega) fun y hy _=>ZBv (by omega) (by omega) fun r r0 r1=>ZL6 l1 i hi hi2 hg hQ n r k (by unfold opG at ho;unfold OpE;dsimp only;omega) hk ⟨hn,by constructor<;>(dsimp only;omega),by show k.length<=1000;omega,hkw⟩ ho ?_ hks hr;rcases hb rfl with rfl | rfl<;>(unfold Zfk;rw [decide_eq_true_eq];right;refine ⟨r0,fun h=>by omega,?_⟩;simp;omega)
 simp only [ZN0,wq,reduceCtorEq];refine ⟨fun e=>t _ fun _=>.inl e,fun _=>t _ fun e=>.inr (by simpa using e)⟩
theorem ZL8 (x n m:Int) (rd:List Int) (hn:I64 n) (hm:I64 m) (ho:opG n) (him:n=1\/m=0):Ret (ZN1 l1 (i:Int) (out,x,n,m,rd)) Q:=by
 simp only [ZN1,Zzi,wq,reduceCtorEq];have har:=Z8b ho;have hgl:=hg.len;have h3:(ksG n).length<=3:=by have:=Zsf n;omega
 refine Zac (fun q:Int×List Zae×Int×Int×Int×List Int×List Int=>∃ j:Nat,q.1=j/\q.2.2.2.2.2.2.length=j/\j<=(ksG n).length/\q.2.1=out/\q.2.2.2.1=n/\q.2.2.2.2.1=m/\q.2.2.2.2.2.2.map (Z6M out)=(ksG n).take j/\∀ y∈q.2.2.2.2.2.2,inR out.length y) (fun q=>3 - q.1.toNat) ?_ _ ⟨0,rfl,rfl,by omega,rfl,rfl,rfl,rfl,fun y hy=>by cases hy⟩;rintro ⟨j',out',x',n',m',rd',k⟩ ⟨j,e1,e2,e3,e4,e5,e6,e8,e7⟩;dsimp only at e1 e2 e4 e5 e6 e7 e8;subst out' n' m' j';have kI:∀ y∈k,I64 y:=fun y hy=>by obtain ⟨a,b⟩:=e7 y hy;constructor<;>omega
 simp only [ZOh,wq,reduceCtorEq];refine ⟨fun hlt=>?_,fun hge=>?_⟩
 ·obtain ⟨so,hso⟩:=ZeS (l:=ksG n) (i:=j) (by omega);have h12:so=1\/so=2:=by
   have:∀ y∈ksG n,y=1\/y=2:=by unfold ksG;(repeat' split)<;>simp
   exact this so (mem_of_getElem? hso)
  rw [ZtG ho hso];simp only [wq,reduceCtorEq];refine Ret.mono (ZmI _ _) fun rr _ _=>Ret.mono (ZNK (hg.G (by omega)) hg.wt so rr.1 (by rcases h12 with rfl | rfl;exact hg.one;exact hg.two)) fun q _ ⟨hq,hqs⟩=>?_;have hw:=Zab j (by omega);rw [hw];refine ⟨fun _=>⟨⟨j+1,rfl,by simp;omega,by omega,?_,fun y hy=>?_⟩,by omega⟩,fun h=>absurd h (by simp only [length_cons,length_nil];omega)⟩
  ·rw [map_append,e8,take_add_one,hso,<-hqs];rfl
  ·rcases mem_append.1 hy with hy | hy
   ·exact e7 y hy
   ·rw [mem_singleton.1 hy];exact hq
 ·rw [List.take_of_length_le (by omega)] at e8;refine ⟨fun e27=>?_,fun e27=>?_⟩
  ·refine Zaj (by omega) (by omega) fun y hy _=>ZBv (by omega) (by omega) fun r r0 r1=>?_;have hwr:wrap .i64 (1+r)=1+r:=Zau (by omega) (by omega);rw [hwr];exact ZL7 l1 i hi hi2 hg hQ _ _ k (by omega) hn (by constructor<;>omega) kI ho ⟨fun _=>by omega,fun h=>absurd e27 h⟩ e8 e7
  ·exact ZL7 l1 i hi hi2 hg hQ _ _ k (by omega) hn hm kI ho ⟨fun h=>absurd h e27,fun _=>him⟩ e8 e7
theorem ZL9 (hl:∀ x∈l1,I64 x) (x n:Int) (rd:List Int) (hn:I64 n) (ho:opG n):Ret (ZML l1 (i:Int) (out,x,n,0,rd)) Q:=by
 simp only [ZML,wq,reduceCtorEq];refine Zaj (by omega) (by omega) fun y hy hym=>ZBv (by omega) (by omega) fun r r0 r1=>⟨fun _=>?_,fun _=>?_⟩
 ·simp only [Za4 hy,wq,reduceCtorEq];exact Ret.mono (ZBi _ _ (hl y hym)) fun w _ hw=>ZL8 l1 i hi hi2 hg hQ _ _ _ _ (by constructor<;>omega) hw (by unfold opG;omega) (.inl rfl)
 ·exact ZL8 l1 i hi hi2 hg hQ _ _ _ _ hn (by decide) ho (.inr rfl)
theorem ZME (hl:∀ x∈l1,I64 x) (b:Bool) (x n:Int) (rd:List Int) (hn:I64 n) (ho:opG n):Ret (ZMI l1 (i:Int) (b,out,x,n,0,rd)) fun a=>Ret (Sum.elim (ZML l1 (i:Int)) some a) Q:=by
 cases b
 ·simp only [ZMI,wq,reduceCtorEq];exact ZL9 l1 i hi hi2 hg hQ hl _ _ _ hn ho
 ·simp only [ZMI,wq,reduceCtorEq];refine Zaj (by omega) (by omega) fun y hy _=>ZBv (by omega) (by omega) fun r r0 r1=>Zaj r0 (by simp only [length_cons,length_nil];omega) fun z hz _=>?_;simp only [Za4 hz,wq,reduceCtorEq];have key:∀ z∈([23,27,28,29,24]:List Int),23<=z/\z<=29/\z≠25:=by decide
  have hk:=key z (ZeR hz);exact ZL9 l1 i hi hi2 hg hQ hl _ _ _ (by constructor<;>omega) (by unfold opG;omega)
end
theorem ZNL (l:List Int) (hl:∀ x∈l,I64 x) (b:Bool):Ret (F17 l b) fun o=>Z6N o 14:=by
 unfold F17;refine Zac (fun q:Int×List Zae=>∃ m:Nat,q.1=m/\m<=14/\Z6N q.2 m) (fun q=>14 - q.1.toNat) ?_ _ ⟨0,rfl,by omega,⟨?_,?_,?_,rfl,rfl⟩,?_,?_,?_⟩
 ·rintro ⟨i',out⟩ ⟨m,e,hm,hg⟩;dsimp only at e hg;subst e;have up:∀ k,Z6N out (m+k):=fun k=>by
   induction k with
   | zero=>exact hg
   | succ k ih=>exact ih.up
  have fin:Ret (Z8T l b (m:Int) (false,out)) (Zev (fun q:Int×List Zae=>∃ m:Nat,q.1=m/\m<=14/\Z6N q.2 m) (fun q=>14 - q.1.toNat) (fun o=>Z6N o 14) ((m:Int),out)):=by
   simp only [Z8T,wq,reduceCtorEq];have:=up (14 - m)
   rwa [show m+(14 - m)=14 by omega] at this
  simp only [ZAd,wq,reduceCtorEq];refine ⟨fun hlt=>?_,fun _=>fin⟩;by_cases h14:m < 14
  ·have hw:=Zab m (by omega);rw [show decide ((m:Int) < 14)=true by simp;omega];simp only [Z8T,wq,reduceCtorEq];refine Zaj (by omega) hlt fun y hy _=>?_;simp only [Za4 hy,wq,reduceCtorEq];refine ZBv (by omega) (by omega) fun r r0 r1=>?_;have hwr:wrap .i64 (4+r)=4+r:=Zau (by omega) (by omega);rw [hwr];have J:=fun b x n rd hn ho=>ZME l m (by omega) h14 (Q:=fun a=>Ret (Sum.elim (Z8m (m:Int)) some a) (Zev (fun q:Int×List Zae=>∃ m:Nat,q.1=m/\m<=14/\Z6N q.2 m) (fun q=>14 - q.1.toNat) (fun o=>Z6N o 14) ((m:Int),out))) hg (fun o ho=>by
    simp only [Z8m,wq,reduceCtorEq,hw];exact ⟨⟨m+1,rfl,by omega,ho⟩,by omega⟩) hl b x n rd hn ho
   have hn:I64 (4+r):=by constructor<;>omega
   have ho:opG (4+r):=by unfold opG;omega
   exact ⟨fun _=>ZBv (by omega) (by omega) fun _ _ _=>J _ _ _ _ hn ho,fun _=>J _ _ _ _ hn ho⟩
  ·rw [show decide ((m:Int) < 14)=false by simp;omega];exact fin
 ·simp
 ·intro x hx;simp at hx;rcases hx with rfl | rfl | rfl<;>simp
 ·intro x hx;simp at hx;rcases hx with rfl | rfl | rfl<;>exact ⟨by decide,by decide,by decide,fun x hx=>by cases hx⟩
 ·intro i x hx;have:i=0\/i=1\/i=2:=by have:=ZaA hx;simp at this;omega
  rcases this with rfl | rfl | rfl<;>(simp at hx;subst hx;exact ⟨by unfold opG;decide,by decide,rfl,fun k hk=>by cases hk⟩)
 ·decide
 ·intro x hx;simp at hx;rcases hx with rfl | rfl | rfl<;>(unfold OpE;decide)
def AtT (o:List Zae) (i s:Int):Prop:=inR o.length i/\atI (Zam o o.length) i=s
theorem ZKX {l:List Zae} {j m:Nat} (h:j < m):atI (Zam l m) j=atI (Zam l (j+1)) j:=by
 unfold atI;rw [toNat_natCast,Zek l j m h]
theorem ZMF {o:List Zae} {i:Nat} {x:Zae} (hx:o[i]?=some x) (hk:∀ q∈x.2.2,0<=q/\q < i/\atI (Zam o o.length) q≠0):atI (Zam o o.length) i=nsM o x (x.2.2.map (atI (Zam o o.length))):=by
 have hi:=ZaA hx;have h2:(Zam o o.length)[i]?=some (Zbu o (Zam o i) i x):=by
  rw [Zek o i o.length hi];have hl:=ZaK o i;show (Zam o i++[match o[i]? with | some n=>Zbu o (Zam o i) i n | none=>0])[i]?=_;rw [getElem?_append_right (by omega),hl,hx];simp
 have h3:atI (Zam o o.length) i=Zbu o (Zam o i) i x:=by unfold atI;rw [toNat_natCast,h2];rfl
 have same:∀ q∈x.2.2,atI (Zam o i) q=atI (Zam o o.length) q:=fun q hq=>by
  obtain ⟨a,b,_⟩:=hk q hq;obtain ⟨n,rfl⟩:∃ n:Nat,q=n:=⟨q.toNat,by omega⟩
  rw [ZKX (show n < i by omega),ZKX (show n < o.length by omega)]
 have hok:okK (Zam o i) i x=true:=by
  unfold okK;rw [all_eq_true];intro q hq;obtain ⟨a,b,c⟩:=hk q hq;unfold okQ;rw [same q hq];simp only [Bool.and_eq_true,decide_eq_true_eq,Bool.not_eq_true',beq_eq_false_iff_ne];exact ⟨⟨a,b⟩,c⟩
 rw [h3];unfold Zbu;rw [hok,cond_true];congr 1;exact map_congr_left same
theorem ZKY (o:List Zae) (x:Zae) {j:Int} (hj:inR o.length j):atI (Zam (o++[x]) (o++[x]).length) j=atI (Zam o o.length) j:=by
 obtain ⟨n,rfl⟩:∃ n:Nat,j=n:=⟨j.toNat,by have:=hj.1;omega⟩
 have hn:n < o.length:=by have:=hj.2;omega
 rw [ZKX (show n < (o++[x]).length by rw [length_append];omega),ZKX hn];have:=ZeA (o++[x]) o.length (n+1) (by omega);rw [List.take_left] at this;rw [this]
structure PG (o:List Zae) (m:Nat):Prop where
 len:o.length<=m+3
 k:∀ x∈o,x.2.2.length<=3
 w:∀ x∈o,NodeW x
 z:AtT o 0 1
 e:AtT o 2 2
 nz:∀ i:Nat,i < o.length->atI (Zam o o.length) i≠0
 oe:∀ x∈o,OpE x
 nd:o.Nodup
theorem PG.G {o:List Zae} {m:Nat} (h:PG o m) (hm:m<=100):GraphH o:=⟨by have:=h.len;omega,fun x hx=>by have:=h.k x hx;omega⟩
theorem PG.le {o:List Zae} {m k:Nat} (h:PG o m) (hk:m<=k):PG o k:=⟨by have:=h.len;omega,h.k,h.w,h.z,h.e,h.nz,h.oe,h.nd⟩
theorem Z6N.pg {o:List Zae} {m:Nat} (h:Z6N o m):PG o m:=by
 have l2:=ZaA h.h2;refine ⟨h.len,h.k,h.w,⟨⟨by omega,by omega⟩,?_⟩,⟨⟨by omega,by omega⟩,?_⟩,fun i hi=>?_,h.oe,h.nd⟩
 ·rw [Z6O h.wt ⟨by omega,by omega⟩];unfold Z6M Zar;rw [show (0:Int).toNat=0 from rfl,h.h0];rfl
 ·rw [Z6O h.wt ⟨by omega,by omega⟩];unfold Z6M Zar;rw [show (2:Int).toNat=2 from rfl,h.h2];rfl
 ·rw [Z6O h.wt ⟨by omega,by omega⟩];unfold Z6M;rcases Z7Z (Zar o (i:Int)).1 with e | e<;>omega
structure ZNM (o:List Zae) (m:Nat) (s:Int) (r:List Zae×Int):Prop where
 g:PG r.1 (m+1)
 i:AtT r.1 r.2 s
 up:∀ i t,AtT o i t->AtT r.1 i t
theorem ZLp {o:List Zae} {m:Nat} (h:PG o m) (hm:m<=90) (op imm:Int) (ks ss:List Int) (s:Int) (hoe:OpE (op,imm,ks)) (hop:I64 op) (hI:I64 imm) (hk3:ks.length<=3) (hks:ks.map (atI (Zam o o.length))=ss) (hss:∀ t∈ss,t≠0) (hr:∀ k∈ks,inR o.length k) (hs:∀ l,F49 l (op,imm,ks) ss=some s) (hs0:s≠0):Ret (F19 o (op,imm,ks)) (ZNM o m s):=by
 have hl:=h.len;have hw:NodeW (op,imm,ks):=⟨hop,hI,by show ks.length<=1000;omega,fun x hx=>by have:=hr x hx;have h1:=this.1;have h2:=this.2;constructor<;>omega⟩
 have hkz:∀ q∈ks,atI (Zam o o.length) q≠0:=fun q hq=>hss _ (by rw [<-hks];exact mem_map.2 ⟨q,hq,rfl⟩);have hns:∀ l,nsM l (op,imm,ks) ss=s:=fun l=>by unfold nsM;rw [hs l];rfl
 simp only [F19];refine Zac (fun i:Int=>∃ k:Nat,i=k/\k<=o.length/\(op,imm,ks)∉o.take k) (fun i=>o.length - i.toNat) ?_ _ ⟨0,rfl,by omega,by simp⟩;rintro _ ⟨k,rfl,hk,hno⟩;have hwk:=Zab k (by omega);simp only [ZuP,wq,reduceCtorEq,hwk];refine ⟨fun hlt=>Zaj (by omega) hlt fun x hx hxm=>?_,fun hge=>?_⟩
 ·rw [Zax] at hx;simp only [Z75 x (op,imm,ks) (by have:=h.k x hxm;omega),wq,reduceCtorEq,decide_eq_true_eq];refine ⟨fun e=>?_,fun e=>⟨⟨k+1,rfl,by omega,?_⟩,by omega⟩⟩
  ·subst e;refine ⟨h.le (by omega),⟨⟨by omega,hlt⟩,?_⟩,fun i t hi=>hi⟩;have hS:=ZL4 (h.G (by omega)) hx (h.nz k (by omega));show atI (Zam o o.length) (k:Int)=s;rw [ZMF hx (fun q hq=>⟨(hS.k q hq).1,(hS.k q hq).2,hkz q hq⟩),hks];exact hns o
  ·rw [take_add_one,hx,mem_append];rintro (h | h)
   ·exact hno h
   ·have h:(op,imm,ks)=x:=by simpa using h
    exact e h.symm
 ·have hkk:k=o.length:=by omega
  subst hkk;refine ⟨fun _=>⟨fun _=>?_,fun h=>absurd h (by simp only [length_cons,length_nil];omega)⟩,fun h=>absurd h (by omega)⟩;have len:(o++[(op,imm,ks)]).length=o.length+1:=by rw [length_append,List.length_singleton]
  have up:∀ i t,AtT o i t->AtT (o++[(op,imm,ks)]) i t:=fun i t hi=>⟨⟨hi.1.1,by rw [len];have:=hi.1.2;omega⟩,by rw [ZKY o _ hi.1];exact hi.2⟩
  have new:atI (Zam (o++[(op,imm,ks)]) (o++[(op,imm,ks)]).length) (o.length:Nat)=s:=by
   have gx:(o++[(op,imm,ks)])[o.length]?=some (op,imm,ks):=by rw [getElem?_append_right (le_refl _),sub_self];rfl
   have e:ks.map (atI (Zam (o++[(op,imm,ks)]) (o++[(op,imm,ks)]).length))=ss:=by
    rw [<-hks];exact map_congr_left fun q hq=>ZKY o _ (hr q hq)
   rw [ZMF gx (fun q hq=>⟨(hr q hq).1,(hr q hq).2,by rw [ZKY o _ (hr q hq)];exact hkz q hq⟩)];show nsM _ _ (ks.map _)=s;rw [e];exact hns _
  refine ⟨⟨by show (o++[(op,imm,ks)]).length<=m+1+3;omega,fun x hx=>?_,fun x hx=>?_,up _ _ h.z,up _ _ h.e,fun i hi=>?_,fun x hx=>?_,?_⟩,⟨⟨by show (0:Int)<=o.length;omega,by show (o.length:Int) < (o++[(op,imm,ks)]).length;omega⟩,new⟩,up⟩
  ·rcases mem_append.1 hx with hx | hx
   ·exact h.k x hx
   ·rw [mem_singleton.1 hx];exact hk3
  ·rcases mem_append.1 hx with hx | hx
   ·exact h.w x hx
   ·rw [mem_singleton.1 hx];exact hw
  ·have hi:i < (o++[(op,imm,ks)]).length:=hi;show atI (Zam (o++[(op,imm,ks)]) (o++[(op,imm,ks)]).length) (i:Int)≠0;by_cases e:i < o.length
   ·rw [ZKY o _ ⟨by omega,by omega⟩];exact h.nz i e
   ·have:i=o.length:=by omega
    rw [this,new];exact hs0
  ·rcases mem_append.1 hx with hx | hx
   ·exact h.oe x hx
   ·rw [mem_singleton.1 hx];exact hoe
  ·show (o++[(op,imm,ks)]).Nodup;rw [List.nodup_append];rw [take_length] at hno;exact ⟨h.nd,by simp,fun a ha b hb=>by rw [mem_singleton.1 hb];exact fun e=>hno (e▸ha)⟩
theorem ZLc {op imm:Int} (h:op=1\/imm=0/\op≠27):Zfk op imm=true:=by
 unfold Zfk;rw [decide_eq_true_eq];rcases h with h | ⟨rfl,h⟩
 ·exact .inl h
 ·right;refine ⟨by omega,fun e=>absurd e h,?_⟩;(repeat' split)<;>omega
section
variable {o:List Zae} {m:Nat} (h:PG o m) (hm:m<=90)
include h hm
theorem ZON (imm:Int) (hI:I64 imm):Ret (F19 o (1,imm,[])) (ZNM o m 1):=ZLp h hm 1 imm [] [] 1 (by unfold OpE;dsimp only;omega) (by constructor<;>omega) hI (by simp) rfl (fun t ht=>by cases ht) (fun k hk=>by cases hk) (fun l=>ZBw l 1 imm [] (by unfold opG;omega) (ZLc (.inl rfl)) rfl) (by omega)
theorem ZQ3 {a:Int} (ha:AtT o a 1):Ret (F19 o (20,0,[a])) (ZNM o m 1):=by
 refine ZLp h hm 20 0 [a] [1] 1 (by unfold OpE;dsimp only;omega) (by constructor<;>omega) (by constructor<;>omega) (by simp) ?_ (fun t ht=>by simp at ht;omega) (fun k hk=>?_) (fun l=>ZBw l 20 0 [a] (by unfold opG;omega) (ZLc (.inr ⟨rfl,by omega⟩)) rfl) (by omega)
 ·simp [ha.2]
 ·rw [mem_singleton.1 hk];exact ha.1
theorem ZMZ (op:Int) (ho:4<=op/\op<=19) {a b:Int} (ha:AtT o a 1) (hb:AtT o b 1):Ret (F19 o (op,0,[a,b])) (ZNM o m 1):=by
 have e1:ksG op=[1,1]:=by unfold ksG;rw [if_neg (by omega),if_neg (by omega),if_neg (by omega),if_pos ho]
 have e2:opS op=1:=by unfold opS;rw [if_pos (by omega)]
 refine ZLp h hm op 0 [a,b] [1,1] 1 (by unfold OpE;dsimp only;omega) (by constructor<;>omega) (by constructor<;>omega) (by simp) ?_ (fun t ht=>by simp at ht;omega) (fun k hk=>?_) (fun l=>?_) (by omega)
 ·simp [ha.2,hb.2]
 ·rcases mem_cons.1 hk with rfl | hk
  ·exact ha.1
  ·rw [mem_singleton.1 hk];exact hb.1
 ·have:=ZBw l op 0 [a,b] (by unfold opG;omega) (ZLc (.inr ⟨rfl,by omega⟩)) (by rw [e1];rfl);rw [e1,e2] at this;exact this
theorem ZP3 {a b:Int} (ha:AtT o a 2) (hb:AtT o b 1):Ret (F19 o (23,0,[a,b])) (ZNM o m 1):=by
 refine ZLp h hm 23 0 [a,b] [2,1] 1 (by unfold OpE;dsimp only;omega) (by constructor<;>omega) (by constructor<;>omega) (by simp) ?_ (fun t ht=>by simp at ht;omega) (fun k hk=>?_) (fun l=>ZBw l 23 0 [a,b] (by unfold opG;omega) (ZLc (.inr ⟨rfl,by omega⟩)) rfl) (by omega)
 ·simp [ha.2,hb.2]
 ·rcases mem_cons.1 hk with rfl | hk
  ·exact ha.1
  ·rw [mem_singleton.1 hk];exact hb.1
theorem ZQ4 {a b c:Int} (ha:AtT o a 2) (hb:AtT o b 1) (hc:AtT o c 1):Ret (F19 o (28,0,[a,b,c])) (ZNM o m 2):=by
 refine ZLp h hm 28 0 [a,b,c] [2,1,1] 2 (by unfold OpE;dsimp only;omega) (by constructor<;>omega) (by constructor<;>omega) (by simp) ?_ (fun t ht=>by simp at ht;omega) (fun k hk=>?_) (fun l=>ZBw l 28 0 [a,b,c] (by unfold opG;omega) (ZLc (.inr ⟨rfl,by omega⟩)) rfl) (by omega)
 ·simp [ha.2,hb.2,hc.2]
 ·rcases mem_cons.1 hk with rfl | hk
  ·exact ha.1
  ·rcases mem_cons.1 hk with rfl | hk
   ·exact hb.1
   ·rw [mem_singleton.1 hk];exact hc.1
omit h hm in
theorem ZO9 (l:List Zae) (ks:List Int) (hl:ks.length=3):F49 l (22,0,ks) [1,2,2]=some 2:=by
 have hi:Zfk 22 0=true:=ZLc (.inr ⟨rfl,by omega⟩);simp [F49,Zzi,ZAN,hi,ZaY,hl,Z93,ZKI,ZKB,ZKJ,ZKA,ZKC,ZKD,ZKK,ZKU,Zzz,Zic,ZfI,gI]
theorem ZP4 {a b c:Int} (ha:AtT o a 1) (hb:AtT o b 2) (hc:AtT o c 2):Ret (F19 o (22,0,[a,b,c])) (ZNM o m 2):=by
 refine ZLp h hm 22 0 [a,b,c] [1,2,2] 2 (by unfold OpE;dsimp only;omega) (by constructor<;>omega) (by constructor<;>omega) (by simp) ?_ (fun t ht=>by simp at ht;omega) (fun k hk=>?_) (fun l=>ZO9 l _ rfl) (by omega)
 ·simp [ha.2,hb.2,hc.2]
 ·rcases mem_cons.1 hk with rfl | hk
  ·exact ha.1
  ·rcases mem_cons.1 hk with rfl | hk
   ·exact hb.1
   ·rw [mem_singleton.1 hk];exact hc.1
end
theorem ZQO {l l':List Zae} {op imm:Int} {ks ks' k:List Int} (h3:ks.length=ks'.length) (h4:op=25->k[0]?=some 3->((gI ks 0).bind fun y=>(gI l y).bind fun z=>some (z.2.2.length:Int))=((gI ks' 0).bind fun y=>(gI l' y).bind fun z=>some (z.2.2.length:Int))):F49 l (op,imm,ks) k=F49 l' (op,imm,ks') k:=by
 have hJ:Z93 l (op,imm,ks) k=Z93 l' (op,imm,ks') k:=by
  funext b;cases b
  ·unfold Z93;by_cases h25:op=25
   ·subst h25;simp only [cond_false,show ((25:Int)==3)=false from rfl,show ((25:Int)==26)=false from rfl,show ((25:Int)==22)=false from rfl,show ((25:Int)==23)=false from rfl,show ((25:Int)==24)=false from rfl,show ((25:Int)==25)=true from rfl,cond_true];have e4:ZKJ (25,imm,ks)=ZKJ (25,imm,ks'):=rfl;rw [e4];congr 1;cases hk:k[0]? with
    | none=>
     have:gI k 0=none:=by show gI k ((0:Nat):Int)=none;rw [Zax,hk]
     rw [this];rfl
    | some t=>
     have g0:gI k 0=some t:=by show gI k ((0:Nat):Int)=some t;rw [Zax,hk]
     rw [g0];simp only [bind_some];by_cases h3':t=3
     ·subst h3';have:=h4 rfl hk;simp only [bne_self_eq_false,cond_false];have conv:∀ (l:List Zae) (ks:List Int),((gI ks 0).bind fun y23=>(gI l y23).bind fun y24=>some (Sum.inl (decide (imm>=wrap .i64 (tdiv (List.length y24.2.2:Int) 2)))):Option (Bool⊕Int))=(((gI ks 0).bind fun y=>(gI l y).bind fun z=>some (z.2.2.length:Int)).bind fun n=>some (Sum.inl (decide (imm>=wrap .i64 (tdiv n 2))))):=fun l ks=>by
       cases gI ks 0 with
       | none=>rfl
       | some y=>
        simp only [bind_some];cases gI l y<;>rfl
      rw [conv,conv,this]
     ·have e3:(t != 3)=true:=by simpa using h3'
      simp only [e3,cond_true]
   ·have e25:(op==25)=false:=by simpa using h25
    simp only [e25,cond_false];rfl
  ·rfl
 unfold F49;rw [hJ];dsimp only;rw [h3]
theorem ZQJ {l:List Zae} {op imm:Int} {ks k:List Int} {s:Int} (ho:4<=op/\op<=19) (hk:k.length=ks.length) (hl:k.length<=1000) (h:F49 l (op,imm,ks) k=some s) (hs:s≠0):s=1/\(∀ t∈k,t=1)/\Zfk op imm=true:=by
 have ar:ZaY op=(2,true):=by unfold ZaY;rw [if_neg (by omega),if_neg (by omega),if_pos (by omega)]
 have b:∀ c:Int,(c < 4\/19 < c)->(op==c)=false:=fun c hc=>by simp;omega
 simp only [F49,Zzi,ZAN,ar,bind_some,Bool.not_true,cond_false,show decide ((2:Int)>=0)=true from rfl,cond_true] at h;by_cases h2:(ks.length:Int)=2
 ·have e2:((ks.length:Int) != 2)=false:=by simpa using h2
  simp only [e2,cond_false,bind_some,Sum.elim_inl] at h;cases hi:Zfk op imm
  ·rw [hi] at h;have:(some 0:Option Int)=some s:=h;exact absurd (inj this).symm hs
  ·rw [hi] at h;simp only [Bool.not_true,Z93,ZKA,cond_false,b 3 (by omega),b 26 (by omega),b 22 (by omega),b 23 (by omega),b 24 (by omega),b 25 (by omega),b 27 (by omega),b 29 (by omega),b 28 (by omega),b 30 (by omega),b 31 (by omega),bind_some,Sum.elim_inl,Zic k (by omega),Zzz,injEq] at h;cases ha:ZfI k
   ·rw [ha] at h;exact absurd h.symm hs
   ·rw [ha] at h;refine ⟨h.symm,fun t ht=>?_,rfl⟩;have:=all_eq_true.1 (show (k.all (·==1))=true from ha) t ht;simpa using this
 ·have e2:((ks.length:Int) != 2)=true:=by simpa using h2
  simp only [e2,cond_true,bind_some,Sum.elim_inl] at h;have:(some 0:Option Int)=some s:=h;exact absurd (inj this).symm hs
theorem ZRf {l:List Zae} {imm:Int} {ks k:List Int} {s:Int} (hk:k.length=ks.length) (h:F49 l (23,imm,ks) k=some s) (hs:s≠0):s=1/\k=[2,1]/\Zfk 23 imm=true:=by
 by_cases h2:ks.length=2
 ·obtain ⟨a,b,rfl⟩:∃ a b,k=[a,b]:=by
   rw [h2] at hk
   match k,hk with
   | [a,b],_=>exact ⟨a,b,rfl⟩
  cases hi:Zfk 23 imm
  ·simp [F49,Zzi,ZAN,hi,ZaY,h2,Z93] at h;exact absurd h.symm hs
  ·by_cases ha:a=2
   ·by_cases hb:b=1
    ·subst ha hb;simp [F49,Zzi,ZAN,hi,ZaY,h2,Z93,ZKB,Zzz,gI] at h;exact ⟨h.symm,rfl,rfl⟩
    ·have e:(b==1)=false:=by simpa using hb
     subst ha;simp [F49,Zzi,ZAN,hi,ZaY,h2,e,Z93,ZKB,Zzz,gI] at h;exact absurd h.symm hs
   ·have e:(a==2)=false:=by simpa using ha
    simp [F49,Zzi,ZAN,hi,ZaY,h2,e,Z93,ZKB,Zzz,gI] at h;exact absurd h.symm hs
 ·have e2:((ks.length:Int) != 2)=true:=by simpa using fun e:(ks.length:Int)=2=>h2 (by omega)
  simp [F49,Zzi,ZAN,ZaY,e2,Z93] at h;exact absurd h.symm hs
theorem ZQI {l:List Zae} {imm:Int} {ks k:List Int} {s:Int} (hk:k.length=ks.length) (h:F49 l (22,imm,ks) k=some s) (hs:s≠0):k=[1,s,s]/\s≠3:=by
 by_cases h2:ks.length=3
 ·obtain ⟨a,b,c,rfl⟩:∃ a b c,k=[a,b,c]:=by
   rw [h2] at hk
   match k,hk with
   | [a,b,c],_=>exact ⟨a,b,c,rfl⟩
  cases hi:Zfk 22 imm
  ·simp [F49,Zzi,ZAN,hi,ZaY,h2,Z93] at h;exact absurd h.symm hs
  ·by_cases ha:a=1
   ·by_cases hb:b=c
    ·subst ha hb;by_cases h3:b=3
     ·subst h3;simp [F49,Zzi,ZAN,hi,ZaY,h2,Z93,ZKI,gI] at h;exact absurd h.symm hs
     ·have e:(b==3)=false:=by simpa using h3
      simp [F49,Zzi,ZAN,hi,ZaY,h2,e,Z93,ZKI,gI] at h;subst h;exact ⟨rfl,h3⟩
    ·have e:(b != c)=true:=by simpa using hb
     subst ha;simp [F49,Zzi,ZAN,hi,ZaY,h2,e,Z93,ZKI,gI] at h;exact absurd h.symm hs
   ·have e:(a != 1)=true:=by simpa using ha
    simp [F49,Zzi,ZAN,hi,ZaY,h2,e,Z93,ZKI,gI] at h;exact absurd h.symm hs
 ·have e2:((ks.length:Int) != 3)=true:=by simpa using fun e:(ks.length:Int)=3=>h2 (by omega)
  simp [F49,Zzi,ZAN,ZaY,e2,Z93] at h;exact absurd h.symm hs
noncomputable def srt (L:List Zae) (i:Int):Int:=atI (Zam L L.length) i
theorem ZQN (o es:List Zae) {j:Int} (hj:inR o.length j):srt (o++es) j=srt o j:=by
 unfold srt;obtain ⟨n,rfl⟩:∃ n:Nat,j=n:=⟨j.toNat,by have:=hj.1;omega⟩
 have hn:n < o.length:=by have:=hj.2;omega
 rw [ZKX (show n < (o++es).length by rw [length_append];omega),ZKX hn];have:=ZeA (o++es) o.length (n+1) (by omega);rw [List.take_left] at this;rw [this]
def SP (L:List Zae):Prop:=∀ i:Int,inR L.length i->srt L i≠0
theorem ZQP {o:List Zae} {i:Int} (hi:inR o.length i) (hk:∀ q∈(nA o i).2.2,0<=q/\q < i/\srt o q≠0):srt o i=nsM o (nA o i) ((nA o i).2.2.map (srt o)):=by
 obtain ⟨n,rfl⟩:∃ n:Nat,i=n:=⟨i.toNat,by have:=hi.1;omega⟩
 exact ZMF (ZKS hi) fun q hq=>by
  obtain ⟨a,b,c⟩:=hk q hq;exact ⟨a,b,c⟩
theorem ZQK {l:List Zae} {n:Zae} {k:List Int} {s:Int} (h:s=nsM l n k) (hs:s≠0):F49 l n k=some s:=by
 unfold nsM at h;cases e:F49 l n k with
 | none=>rw [e] at h;exact absurd h hs
 | some t=>rw [e] at h;rw [h];rfl
theorem ZQU {L:List Zae} (hL:PoolH L) (hs:SP L) {i:Int} (hi:inR L.length i):F49 L (nA L i) ((nA L i).2.2.map (srt L))=some (srt L i):=by
 refine ZQK (ZQP hi fun q hq=>?_) (hs i hi);have:=hL.k _ _ (ZKS hi) q hq;have h1:=hi.1;have h2:=hi.2
 exact ⟨this.1,by omega,hs q ⟨this.1,by omega⟩⟩
theorem ZRi {L es:List Zae} {q:Int} (h:inR L.length q):gI (L++es) q=gI L q:=ZH3 h.2
section
variable {L:List Zae} (hL:ZLs L) (hs:SP L)
include hL hs
theorem ZQQ {n:Zae} (hn:ZLt L n) {s:Int} (h:F49 L n (n.2.2.map (srt L))=some s) (h0:s≠0):SP (plM L n).2/\srt (plM L n).2 (plM L n).1=s:=by
 obtain ⟨c1,c2,c3,⟨es,c4⟩⟩:=ZKT hL.toPoolH hn.k hn.a;obtain ⟨_,_,_,_,c5⟩:=hL.toPoolH.plM hn.k hn.a;have hext:∀ j,inR L.length j->srt (plM L n).2 j=srt L j:=fun j hj=>by rw [c4];exact ZQN L es hj
 have en:nA (plM L n).2 (plM L n).1=n:=by unfold nA;rw [c5];rfl
 -- the sort of the node itself
 have new:srt (plM L n).2 (plM L n).1=s:=by
  have hk:∀ q∈n.2.2,0<=q/\q < (plM L n).1:=fun q hq=>by
   have:=c1.k _ _ (ZKS c2) q (by rw [en];exact hq);have:=c2.1;omega
  have e1:=ZQP c2 (fun q hq=>by
   rw [en] at hq;exact ⟨(hk q hq).1,(hk q hq).2,by rw [hext q (hn.k q hq)];exact hs q (hn.k q hq)⟩)
  rw [en] at e1;have e2:n.2.2.map (srt (plM L n).2)=n.2.2.map (srt L):=map_congr_left fun q hq=>hext q (hn.k q hq);rw [e1,e2];have e3:F49 (plM L n).2 n (n.2.2.map (srt L))=F49 L n (n.2.2.map (srt L)):=ZiS fun q hq=>by rw [c4];exact ZRi (hn.k q hq)
  unfold nsM;rw [e3,h];rfl
 refine ⟨fun j hj=>?_,new⟩;by_cases hjl:inR L.length j
 ·rw [hext j hjl];exact hs j hjl
 ·have hjn:j=(plM L n).1:=by
   have e1:(plM L n).2=ZHQ L n:=rfl;have e2:(plM L n).1=ZH4 L n:=rfl;by_cases hm:n∈L
   ·have:ZHQ L n=L:=by unfold ZHQ;rw [if_pos hm]
    rw [e1,this] at hj;exact absurd hj hjl
   ·have h3:ZHQ L n=L++[n]:=by unfold ZHQ;rw [if_neg hm]
    have h4:ZH4 L n=L.length:=by unfold ZH4;rw [if_neg hm]
    rw [e1,h3,length_append,List.length_singleton] at hj;rw [e2,h4];have h1:=hj.1;have h2:=hj.2
    have:¬ (0<=j/\j < (L.length:Int)):=hjl;omega
  rw [hjn,new];exact h0
theorem ZLs.kid1 {op:Int} (ho:4<=op/\op<=19) {i:Int} (hi:inR L.length i) (e:(nA L i).1=op):srt L (kk (nA L i) 0)=1/\srt L (kk (nA L i) 1)=1/\Zfk op (nA L i).2.1=true:=by
 have h:=ZQU hL.toPoolH hs hi;have hk:=(hL.w _ (ZKF hi)).k;obtain ⟨x1,imm,ks,ex⟩:∃ a b c,nA L i=(a,b,c):=⟨_,_,_,rfl⟩
 rw [ex] at h e hk |-
 dsimp only at h e hk |-
 subst e;obtain ⟨_,b,c⟩:=ZQJ (l:=L) ho (by rw [length_map]) (by rw [length_map];exact hk) h (hs i hi);have hl:ks.length=2:=by
  have:=hL.a _ (ZKF hi) 2;rw [ex] at this;refine this ?_;dsimp only;unfold ZaY;rw [if_neg (by omega),if_neg (by omega),if_pos (by omega)];rfl
 exact ⟨b _ (mem_map.2 ⟨_,ZK6 (n:=(x1,imm,ks)) hl (by omega),rfl⟩),b _ (mem_map.2 ⟨_,ZK6 (n:=(x1,imm,ks)) hl (by omega),rfl⟩),c⟩
omit hL hs in
theorem ZQV {l:List Zae} {op imm a b:Int} (ho:4<=op/\op<=19) (hi:Zfk op imm=true):F49 l (op,imm,[a,b]) [1,1]=some 1:=by
 have e1:ksG op=[1,1]:=by unfold ksG;rw [if_neg (by omega),if_neg (by omega),if_neg (by omega),if_pos ho]
 have e2:opS op=1:=by unfold opS;rw [if_pos (by omega)]
 have:=ZBw l op imm [a,b] (by unfold opG;omega) hi (by rw [e1];rfl);rw [e1,e2] at this;exact this
theorem ZQW {n:Zae} (hn:ZLt L n) (h4:n.1=4) {s:Int} (h:F49 L n (n.2.2.map (srt L))=some s) (h0:s≠0):SP (plM L (ZLe L n)).2/\srt (plM L (ZLe L n)).2 (plM L (ZLe L n)).1=s:=by
 have hf:=ZLi hL hn h4;refine ZQQ hL hs hf ?_ h0;unfold ZLe;split
 ·obtain ⟨op,imm,ks⟩:=n;dsimp only at h4;subst h4;have hl:=hn.a 2 rfl;obtain ⟨rfl,b,c⟩:=ZQJ (l:=L) (by omega) (by rw [length_map]) (by rw [length_map];exact hn.w.k) h h0;have s0:srt L (kk (4,imm,ks) 0)=1:=b _ (mem_map.2 ⟨_,ZK6 (n:=(4,imm,ks)) hl (by omega),rfl⟩);have s1:srt L (kk (4,imm,ks) 1)=1:=b _ (mem_map.2 ⟨_,ZK6 (n:=(4,imm,ks)) hl (by omega),rfl⟩);show F49 L (4,imm,[kk (4,imm,ks) 1,kk (4,imm,ks) 0]) [srt L (kk (4,imm,ks) 1),srt L (kk (4,imm,ks) 0)]=some 1;rw [s0,s1];exact ZQV (by omega) c
 ·exact h
variable (p:List Int)
theorem ZRj (hb:L.length < 100000) {n:Zae} (hn:ZLt L n) {s:Int} (h:F49 L n (n.2.2.map (srt L))=some s) (h0:s≠0):SP (inM p L n).2/\srt (inM p L n).2 (inM p L n).1=s:=by
 have pl:=ZQQ hL hs hn h h0;unfold inM;split
 ·rename_i h4;exact ZQW hL hs hn h4 h h0
 ·split
  ·rename_i h4 h5;have hl:=hn.a 2 (by rw [h5.1];rfl);have r0:=hn.k _ (ZK6 (k:=0) hl (by omega));have hs1:s=1/\srt L (kk n 0)=1:=by
    obtain ⟨op,imm,ks⟩:=n;obtain ⟨e5,_⟩:=h5;dsimp only at e5;subst e5;obtain ⟨a,b,c⟩:=ZQJ (l:=L) (by omega) (by rw [length_map]) (by rw [length_map];exact hn.w.k) h h0;exact ⟨a,b _ (mem_map.2 ⟨_,ZK6 (n:=(5,imm,ks)) hl (by omega),rfl⟩)⟩
   obtain ⟨rfl,s0⟩:=hs1;have hc:ZLt L (1,wrap .i64 (-(nA L (kk n 1)).2.1),[]):=by
    refine ⟨⟨by show I64 1;constructor<;>omega,ZLB _,by simp,(fun x hx=>by cases hx)⟩,(fun q hq=>by cases hq),fun m hm=>?_⟩;have:ZaY 1=((m:Int),true):=hm;simp [ZaY] at this;show 0=m;omega
   have hL2:=ZKP hL hc hb;have hf2:=ZLI hL hc hb r0;obtain ⟨sp2,so2⟩:=ZQQ hL hs hc (s:=1) (ZBw L 1 _ [] (by unfold opG;omega) (ZLc (.inl rfl)) rfl) (by omega);obtain ⟨c1,c2,c3,⟨es,c4⟩⟩:=ZKT hL.toPoolH hc.k hc.a;refine ZQW hL2 sp2 hf2 rfl ?_ (by omega);have e0:srt (plM L (1,wrap .i64 (-(nA L (kk n 1)).2.1),[])).2 (kk n 0)=1:=by rw [c4,ZQN L es r0];exact s0
   show F49 _ (4,0,[_,_]) [srt _ (kk n 0),srt _ _]=some 1;rw [e0,so2];exact ZQV (by omega) (ZLc (.inr ⟨rfl,by omega⟩))
  ·split
   ·rename_i h9;have hl:=hn.a 2 (by rw [h9];rfl);have r0:=hn.k _ (ZK6 (k:=0) hl (by omega));cases hx:ZLh L p (kk n 0) (kk n 1) with
    | none=>exact pl
    | some x=>
     have hf:=ZLu hL p r0 hx;have hs1:s=1:=by
      obtain ⟨op,imm,ks⟩:=n;dsimp only at h9;subst h9;exact (ZQJ (l:=L) (by omega) (by rw [length_map]) (by rw [length_map];exact hn.w.k) h h0).1
     subst hs1;refine ZQQ hL hs hf ?_ (by omega);unfold ZLh at hx;split at hx
     ·rename_i h78;have ho:4<=(nA L (kk n 0)).1/\(nA L (kk n 0)).1<=19:=by rcases h78 with e | e<;>omega
      obtain ⟨k0,k1,ki⟩:=hL.kid1 hs ho r0 rfl;have ar:ZaY (nA L (kk n 0)).1=(((2:Nat):Int),true):=by rcases h78 with e | e<;>rw [e]<;>rfl
      have r1:=hL.kidR r0 ar (k:=1) (by omega);cases hd:ZLG L (kk (nA L (kk n 0)) 1) with
      | none=>rw [hd] at hx;cases hx
      | some be=>
       obtain ⟨b,e⟩:=be;rw [hd] at hx;dsimp only at hx;have hb1:srt L b=1:=by
        unfold ZLG at hd;split at hd
        ·rename_i h4;obtain ⟨j0,j1,_⟩:=hL.kid1 hs (op:=4) (by omega) r1 h4;split at hd
         ·cases hd;exact j0
         ·split at hd
          ·cases hd;exact j1
          ·cases hd
        ·cases hd
       split at hx
       ·cases hx;show F49 L ((nA L (kk n 0)).1,_,[_,_]) [srt L (kk (nA L (kk n 0)) 0),srt L b]=some 1;rw [k0,hb1];exact ZQV ho ki
       ·cases hx
     ·split at hx
      ·rename_i h23;split at hx
       ·rename_i hc;have ar:ZaY (nA L (kk n 0)).1=(((2:Nat):Int),true):=by rw [h23];rfl
        have r1:=hL.kidR r0 ar (k:=1) (by omega);have hla:=hL.a _ (ZKF r0) 2 ar;obtain ⟨j0,j1,_⟩:=hL.kid1 hs (op:=9) (by omega) r1 hc.1;have hns:=ZQU hL.toPoolH hs r0;have hsr:=hs _ r0;cases hx;obtain ⟨y,hy⟩:∃ y,y=nA L (kk n 0):=⟨_,rfl⟩
        rw [<-hy] at hns h23 hla j0 |-
        obtain ⟨op,imm,ks⟩:=y;dsimp only at h23 hla hns;subst h23;obtain ⟨_,e2,e3⟩:=ZRf (l:=L) (by rw [length_map]) hns hsr;have s0:srt L (kk (23,imm,ks) 0)=2:=by
         obtain ⟨a,b,rfl⟩:∃ a b,ks=[a,b]:=by
          match ks,hla with
          | [a,b],_=>exact ⟨a,b,rfl⟩
         have:=(List.cons.inj e2).1;exact this
        show F49 L (23,imm,[_,_]) [srt L (kk (23,imm,ks) 0),srt L (kk (nA L (kk (23,imm,ks) 1)) 0)]=some 1;rw [s0,j0];exact ZBw L 23 imm [_,_] (by unfold opG;omega) e3 rfl
       ·cases hx
      ·cases hx
   ·split
    ·rename_i h4 h5 h9 h22;obtain ⟨op,imm,ks⟩:=n;obtain ⟨e22,_⟩:=h22;dsimp only at e22;subst e22;have hl:=hn.a 3 rfl;obtain ⟨e,_⟩:=ZQI (l:=L) (by rw [length_map]) h h0;refine ⟨hs,?_⟩;show srt L (kk (22,imm,ks) 1)=s;obtain ⟨a,b,c,rfl⟩:∃ a b c,ks=[a,b,c]:=by
      match ks,hl with
      | [a,b,c],_=>exact ⟨a,b,c,rfl⟩
     exact (List.cons.inj (List.cons.inj e).2).1
    ·exact pl
theorem ZQX {n:Zae} (hn:ZLt L n) (h:F49 L n (n.2.2.map (srt L))=some 3):inM p L n=plM L n:=by
 obtain ⟨op,imm,ks⟩:=n;have nb:∀ o:Int,4<=o/\o<=19->op≠o:=fun o ho e=>by
  subst e;have:=(ZQJ (l:=L) ho (by rw [length_map]) (by rw [length_map];exact hn.w.k) h (by omega)).1;omega
 have ns:op≠22:=fun e=>by
  subst e;exact (ZQI (l:=L) (by rw [length_map]) h (by omega)).2 rfl
 unfold inM;rw [if_neg (nb 4 (by omega)),if_neg (fun e=>nb 5 (by omega) e.1),if_neg (nb 9 (by omega)),if_neg (fun e=>ns e.1)]
end
theorem ZNx {o:List Zae} {m:Nat} (h:PG o m) (hm:m<=100) {i:Int} (hi:inR o.length i):F18 o i=some (atI (Zam o o.length) i):=by
 rw [ZBj o (h.G hm) i];unfold ZfU;rw [if_pos (by rw [ZaK];exact hi)]
theorem ZMG {l:List Int} (hl:∀ x∈l,I64 x) {n:List Zae} {k:Nat} (hk:k < 4) (hkl:(k:Int) < l.length) (h:PG n (14+7 * k)) {v s:Int} (hv:AtT n v 1) (hs:AtT n s 2) (i:Int) (hi:¬ i < (n.length:Int)) {Q:_->Prop} (hQ:∀ o,PG o (14+7 * (k+1))->Q (.inr (.inl o))):Ret (ZOF l 3 n (k:Int) (v,s,i)) Q:=by
 have M:∀ {o:List Zae} {j:Nat},j<=7->PG o (14+7 * k+j)->PG o (14+7 * (k+1)):=fun hj h=>h.le (by omega);simp only [ZOF,wq,reduceCtorEq];refine ⟨fun h=>absurd h hi,fun _=>?_⟩;refine Zaj (by omega) hkl fun y _ _=>ZBv (by omega) (by omega) fun r r0 r1=>⟨fun _=>?_,fun _=>⟨fun _=>?_,fun _=>?_⟩⟩
 ·refine Ret.mono (ZON h (by omega) 0 (by constructor<;>omega)) fun c _ hc=>?_;refine Ret.mono (ZMZ hc.g (by omega) 15 (by omega) (hc.up _ _ hv) hc.i) fun e _ he=>?_;refine Ret.mono (ZMZ he.g (by omega) 4 (by omega) (he.up _ _ (hc.up _ _ hv)) he.i) fun d _ hd=>?_;refine Ret.mono (ZMZ hd.g (by omega) 8 (by omega) hd.g.z hd.i) fun d2 _ hd2=>?_;refine Ret.mono (ZON hd2.g (by omega) (-1) (by constructor<;>omega)) fun c2 _ hc2=>?_;refine Ret.mono (ZMZ hc2.g (by omega) 4 (by omega) (hc2.up _ _ (hd2.up _ _ (hd.up _ _ he.i))) hc2.i) fun e2 _ he2=>?_;refine Ret.mono (ZMZ he2.g (by omega) 9 (by omega) (he2.up _ _ (hc2.up _ _ hd2.i)) he2.i) fun f _ hf=>?_;exact hQ _ (M (j:=7) (by omega) hf.g)
 ·refine Ret.mono (ZON h (by omega) 3 (by constructor<;>omega)) fun c _ hc=>?_;refine Ret.mono (ZMZ hc.g (by omega) 19 (by omega) (hc.up _ _ hv) hc.i) fun e _ he=>?_;refine Ret.mono (ZQ3 he.g (by omega) he.i) fun d _ hd=>?_;refine Ret.mono (ZMZ hd.g (by omega) 9 (by omega) (hd.up _ _ (he.up _ _ (hc.up _ _ hv))) hd.i) fun d2 _ hd2=>?_;refine Ret.mono (ZP3 hd2.g (by omega) (hd2.up _ _ (hd.up _ _ (he.up _ _ (hc.up _ _ hs)))) hd2.i) fun c2 _ hc2=>?_;refine Ret.mono (ZMZ hc2.g (by omega) 9 (by omega) hc2.i (hc2.up _ _ (hd2.up _ _ hd.i))) fun f _ hf=>?_;exact hQ _ (M (j:=6) (by omega) hf.g)
 ·refine Ret.mono (ZON h (by omega) 3 (by constructor<;>omega)) fun c _ hc=>?_;refine Ret.mono (ZMZ hc.g (by omega) 19 (by omega) (hc.up _ _ hv) hc.i) fun e _ he=>?_;refine Ret.mono (ZQ4 he.g (by omega) (he.up _ _ (hc.up _ _ hs)) (he.up _ _ (hc.up _ _ hv)) he.g.z) fun d _ hd=>?_;refine Ret.mono (ZP4 hd.g (by omega) (hd.up _ _ he.i) hd.i (hd.up _ _ (he.up _ _ (hc.up _ _ hs)))) fun f _ hf=>?_;exact hQ _ (M (j:=4) (by omega) hf.g)
theorem Z1D (l:List Int) (hl:∀ x∈l,I64 x):Ret (F7 l 3) fun n=>PG n 42:=by
 simp only [F7,wq,reduceCtorEq];refine Ret.mono (ZNL l hl false) fun n0 _ h0=>?_;refine Zac (fun q:List Zae×Int=>∃ k:Nat,k<=4/\q.2=k/\PG q.1 (14+7 * k)) (fun q=>4 - q.2.toNat) ?_ _ ⟨0,by omega,rfl,h0.pg⟩;rintro ⟨n,_⟩ ⟨k,hk,rfl,h⟩;have fin:PG n 42:=h.le (by omega);have hwk:=Zab k (by omega);dsimp only at h;have hl0:=h.len;simp only [Z2c];by_cases h1:(k:Int) < l.length
 ·by_cases h2:(k:Int) < 4
  ·simp only [decide_eq_true h1,decide_eq_true h2,cond_true,bind_some,Sum.elim_inl,Z0f,wq,reduceCtorEq];refine Zac (fun q:Int×Int×Int=>∃ i:Nat,i<=n.length/\q.2.2=i/\AtT n q.1 1/\AtT n q.2.1 2) (fun q=>n.length - q.2.2.toNat) ?_ _ ⟨0,by omega,rfl,h.z,h.e⟩;rintro ⟨v,s,_⟩ ⟨i,hi,rfl,hv,hs⟩;dsimp only at hv hs;have hwi:=Zab i (by omega);by_cases hin:(i:Int) < (n.length:Int)
   ·have hir:inR n.length (i:Int):=⟨by omega,hin⟩
    have hsort:=ZNx h (by omega) hir
    -- the value,then the state
    have st:∀ v',AtT n v' 1->Ret (ZOT l n (k:Int) s (i:Int) v') fun a=>Ret (Sum.elim (ZOE (i:Int)) some a) (Zev (fun q:Int×Int×Int=>∃ i:Nat,i<=n.length/\q.2.2=i/\AtT n q.1 1/\AtT n q.2.1 2) (fun q=>n.length - q.2.2.toNat) (fun a=>Ret (Sum.elim (Z2b (k:Int)) some a) (Zev (fun q:List Zae×Int=>∃ k:Nat,k<=4/\q.2=k/\PG q.1 (14+7 * k)) (fun q=>4 - q.2.toNat) (fun n=>PG n 42) (n,(k:Int)))) (v,s,(i:Int))):=by
     intro v' hv';have go:∀ s',AtT n s' 2->(∃ i':Nat,i'<=n.length/\wrap .i64 ((i:Int)+1)=i'/\AtT n v' 1/\AtT n s' 2)/\n.length - (wrap .i64 ((i:Int)+1)).toNat < n.length - ((i:Int)).toNat:=fun s' hs'=>by
      rw [hwi];exact ⟨⟨i+1,by omega,rfl,hv',hs'⟩,by omega⟩
     simp only [ZOT,hsort,wq,reduceCtorEq];refine ⟨fun e=>Zaj (by omega) h1 fun y _ _=>ZBv (by omega) (by omega) fun r _ _=>?_,fun e=>?_⟩
     ·simp only [ZOS,ZOE,wq,reduceCtorEq];exact ⟨fun _=>go _ ⟨hir,e⟩,fun _=>go _ hs⟩
     ·simp only [ZOS,ZOE,wq,reduceCtorEq];exact go _ hs
    simp only [ZOF,decide_eq_true hin,cond_true,hsort,wq,reduceCtorEq];refine ⟨fun e=>Zaj (by omega) h1 fun y _ _=>ZBv (by omega) (by omega) fun r _ _=>?_,fun e=>?_⟩
    ·simp only [ZOR,wq,reduceCtorEq];exact ⟨fun _=>st _ ⟨hir,e⟩,fun _=>st _ hv⟩
    ·simp only [ZOR,wq,reduceCtorEq];exact st _ hv
   ·refine ZMG hl (by omega) h1 h hv hs _ hin fun o ho=>?_;show Ret (Sum.elim (Z2b (k:Int)) some (.inl o)) _;simp only [Sum.elim_inl,Z2b,hwk,wq,reduceCtorEq];exact ⟨⟨k+1,by omega,rfl,ho⟩,by show 4 - (((k+1:Nat):Int)).toNat < 4 - ((k:Int)).toNat;omega⟩
  ·simp only [decide_eq_true h1,decide_eq_false h2,cond_true,bind_some,Sum.elim_inl,Z0f,wq,reduceCtorEq];exact fin
 ·simp only [decide_eq_false h1,cond_false,bind_some,Sum.elim_inl,Z0f,wq,reduceCtorEq];exact fin
theorem Z5L {n:List Zae} {m:Nat} (h:PG n m) (hm:m<=100) {s i0:Int} (h0:AtT n i0 s):Ret (F8 n s) fun r=>AtT n r s:=by
 have hl:=h.len;obtain ⟨j0,e0⟩:∃ j:Nat,i0=j:=⟨i0.toNat,by have:=h0.1.1;omega⟩
 subst e0;simp only [F8];have j1:=h0.1.2;have w0:wrap .i64 ((n.length:Int) - 1)=(n.length:Int) - 1:=Zau (by omega) (by omega);rw [w0];refine Zac (fun i:Int=>(j0:Int)<=i/\i < n.length) (fun i=>i.toNat) ?_ _ ⟨by omega,by omega⟩;rintro i ⟨h1,h2⟩;have hir:inR n.length i:=⟨by omega,h2⟩
 have hwi:wrap .i64 (i - 1)=i - 1:=Zau (by omega) (by omega);simp only [Z5G,ZNx h hm hir,wq,reduceCtorEq,hwi];refine ⟨fun _=>⟨fun e=>⟨hir,e⟩,fun e=>?_⟩,fun h=>absurd h (by omega)⟩;by_cases e2:i=j0
 ·subst e2;exact absurd h0.2 e
 ·exact ⟨⟨by omega,by omega⟩,by omega⟩
def Zq1 (v:Int) (P:Int->Prop):Prop:=∃ a:Nat,v=a/\a < 65536/\∀ j:Nat,j < 16->(a.testBit j=true↔P j)
theorem Zq1.congr {v:Int} {P R:Int->Prop} (h:Zq1 v P) (e:∀ j:Nat,j < 16->(P j↔R j)):Zq1 v R:=by
 obtain ⟨a,h1,h2,h3⟩:=h;exact ⟨a,h1,h2,fun j hj=>(h3 j hj).trans (e j hj)⟩

theorem ZLm (a:List Zae) (hl:a.length<=1000000) (hk:∀ x∈a,x.2.2.length<=100000):F27 a a=some true:=by
 refine Ret.eq ?_;simp only [F27,wq,reduceCtorEq];refine Zac (fun i:Int=>∃ k:Nat,i=k/\k<=a.length) (fun i=>a.length - i.toNat) ?_ _ ⟨0,rfl,by omega⟩;rintro _ ⟨k,rfl,hk1⟩;have hw:=Zab k (by omega);simp only [Z8F,wq,reduceCtorEq,hw];refine fun hlt=>Zaj (by omega) hlt fun x hx hxm=>?_;have e:decide (x=x)=true:=decide_eq_true rfl;simp only [Za4 hx,Z75 x x (hk x hxm),e,wq,reduceCtorEq];exact ⟨⟨k+1,rfl,by omega⟩,by omega⟩
theorem ZLn (g:GrT) (hl:g.2.2.1.length<=1000000) (hk:∀ x∈g.2.2.1,x.2.2.length<=100000):F13 g g=some true:=by
 refine Ret.eq ?_;simp only [F13,ZLm _ hl hk,Z8l,wq,reduceCtorEq]
theorem ZNv.small {L:List Zae} {v s:Int} {out:List Zae} {v' s':Int} (h:ZNv L v s out v' s') (hL:ZLs L) (hv:inR L.length v) (hs:inR L.length s):out.length<=L.length/\∀ x∈out,NodeW x:=by
 obtain ⟨⟨num1,out1,num2,h1,h2,rfl,rfl⟩⟩:=h;have l0:(replicate L.length (-1:Int)).length=L.length:=by simp
 have kp1:=(Z2p.kp hL.toPoolH h1 hv l0).1;have ok1:=Z2p.ok hL.toPoolH h1 hv (ZLr.init L);have ok2:=Z2p.ok hL.toPoolH h2 hs ok1;have s1:=Z2p.sur hL.toPoolH h1 hv l0 (fun k hk=>by simp at hk);have s2:=Z2p.sur hL.toPoolH h2 hs kp1.len s1;have n1:=Z2p.negs hL.toPoolH h1 hv l0;have n2:=Z2p.negs hL.toPoolH h2 hs kp1.len;have c0:negs (replicate L.length (-1))<=L.length:=by
  unfold negs;have:=List.countP_le_length (p:=fun x:Int=>decide (x < 0)) (l:=replicate L.length (-1));simpa using this
 simp only [length_nil] at n1;have hol:out.length<=L.length:=by omega
 refine ⟨hol,fun x hx=>?_⟩;obtain ⟨k,hk⟩:=List.getElem?_of_mem hx;obtain ⟨j,j1,j2⟩:=s2 k (ZaA hk);obtain ⟨a,b,c⟩:=ok2.at_ j j1 (by omega);rw [j2,toNat_natCast,hk] at b;obtain rfl:=inj b;have hw:=hL.w _ (ZKF j1);refine ⟨hw.op,hw.imm,by rw [length_map];exact hw.k,fun q hq=>?_⟩;obtain ⟨q',hq',rfl⟩:=mem_map.1 hq;have:=c q' hq';have:=hL.n;constructor<;>omega
theorem ZLl.small {p:List Int} {g r:GrT} (h:ZLl p g r) (hW:ZhX g.2.2.1) (hl:g.2.2.1.length<=2500):r.2.2.1.length<=5000/\∀ x∈r.2.2.1,NodeW x:=by
 rcases h with ⟨ok,b,c,d⟩ | ⟨_,b⟩
 ·have hS:=ok.sortL hW.toGraphH;have hN:=ZLw (p:=p) hS hW.w (by omega) g.2.2.1.length (le_refl _);rw [take_length] at hN;have v0:=ZKQ (l:=Zam g.2.2.1 g.2.2.1.length) (i:=g.2.2.2.1) (by rw [ok.2.1];omega);have s0:=ZKQ (l:=Zam g.2.2.1 g.2.2.1.length) (i:=g.2.2.2.2) (by rw [ok.2.2];omega);rw [ZaK] at v0 s0;have gv:gI (ZK7 p g.2.2.1).1 g.2.2.2.1=some (atI (ZK7 p g.2.2.1).1 g.2.2.2.1):=ZaB (by rw [hN.len];exact v0);have gs:gI (ZK7 p g.2.2.1).1 g.2.2.2.2=some (atI (ZK7 p g.2.2.1).1 g.2.2.2.2):=ZaB (by rw [hN.len];exact s0);obtain ⟨a1,a2⟩:=d.small hN.W (hN.hb _ (ZeR gv)).r (hN.hb _ (ZeR gs)).r;exact ⟨by have:=hN.sz;omega,a2⟩
 ·rw [b];exact ⟨by simp,fun x hx=>by cases hx⟩
theorem ZJ5 {u:UnT} (h:u.1.length=2):Ret (F10 u) fun _=>True:=by
 simp only [F10];refine Zac (fun q:Int×List Int=>∃ k:Nat,q.1=k/\k<=2/\q.2.length=k) (fun q=>2 - q.1.toNat) ?_ _ ⟨0,rfl,by omega,rfl⟩;rintro ⟨_,l⟩ ⟨k,rfl,hk,hl⟩;dsimp only at hl;have hw:=Zab k (by omega);simp only [Z8V,wq,reduceCtorEq,hw];refine fun hlt=>Zaj (by omega) hlt fun y hy _=>⟨fun _=>⟨⟨k+1,rfl,by omega,by simp [hl]⟩,by omega⟩,fun h=>absurd h (by simp only [length_cons,length_nil];omega)⟩
theorem PG.W {o:List Zae} {m:Nat} (h:PG o m) (hm:m<=100):ZhX o:=⟨h.G hm,h.w⟩
structure ZRk (g:List Zae) (i:Nat) (nums:List Int) (L:List Zae):Prop where
 sp:SP L
 so:∀ j:Nat,j < i->srt L (atI nums j)=srt g j
 lp:∀ (j:Nat) x,j < i->g[j]?=some x->srt g j=3->(nA L (atI nums j)).2.2.length=x.2.2.length
theorem ZRl {g:List Zae} {i:Nat} {x:Zae} (hx:g[i]?=some x):nA g (i:Int)=x:=by unfold nA;rw [toNat_natCast,hx];rfl
theorem ZRm {α:Type} (i:Int):gI ([]:List α) i=none:=by
 cases e:gI ([]:List α) i with
 | none=>rfl
 | some x=>have:=ZaI e;simp at this
theorem ZQY {p:List Int} {g:List Zae} (hs:ZO7 g) (hw:∀ x∈g,NodeW x) (hl:g.length≤10000) (hz:∀ j:Nat,j < g.length->srt g j≠0):∀ i≤g.length,ZRk g i (ZK7 p (g.take i)).1 (ZK7 p (g.take i)).2
 | 0,_=>by
  have:ZK7 p (g.take 0)=([],[]):=by simp [ZK7]
  rw [this];exact ⟨fun i hi=>by have h1:=hi.1;have h2:=hi.2;simp at h2;omega,fun j hj=>by omega,fun j x hj=>by omega⟩
 | i+1,hi=>by
  obtain ⟨x,hx⟩:=ZeS (l:=g) (i:=i) (by omega);have hT:=ZQY (p:=p) hs hw hl hz i (by omega);have hN:=ZLw (p:=p) hs hw hl i (by omega);rw [ZLb hx];obtain ⟨nums,hnums⟩:∃ n,n=(ZK7 p (g.take i)).1:=⟨_,rfl⟩
  obtain ⟨L,hL⟩:∃ n,n=(ZK7 p (g.take i)).2:=⟨_,rfl⟩
  have e2:ZK7 p (g.take i)=(nums,L):=by rw [hnums,hL]
  rw [e2] at hT hN |-
  dsimp only at hT hN;have hxs:=hs i x hx;have hxw:=hw x (mem_of_getElem? hx);have hf:=ZM9 hN hxs hxw;have hb:L.length < 100000:=by have:=hN.sz;omega
  have nl:=hN.len;have hir:inR g.length (i:Int):=⟨by omega,by omega⟩
  have enx:=ZRl hx;have hzi:=hz i (by omega);have e0:F49 g x (x.2.2.map (srt g))=some (srt g i):=by
   refine ZQK ?_ hzi;have:=ZQP hir (fun q hq=>by
    rw [enx] at hq;obtain ⟨a,b⟩:=hxs.k q hq;obtain ⟨m,rfl⟩:∃ m:Nat,q=m:=⟨q.toNat,by omega⟩
    exact ⟨a,b,hz m (by omega)⟩)
   rw [enx] at this;exact this
  have em:(x.2.2.map (atI nums)).map (srt L)=x.2.2.map (srt g):=by
   rw [List.map_map];refine map_congr_left fun q hq=>?_;obtain ⟨a,b⟩:=hxs.k q hq;obtain ⟨m,rfl⟩:∃ m:Nat,q=m:=⟨q.toNat,by omega⟩
   exact hT.so m (by omega)
  have h1:F49 L (x.1,x.2.1,x.2.2.map (atI nums)) ((x.2.2.map (atI nums)).map (srt L))=some (srt g i):=by
   rw [em,<-e0];symm;refine ZQO (l:=g) (op:=x.1) (imm:=x.2.1) (ks:=x.2.2) (by rw [length_map]) fun _ hk=>?_;rw [getElem?_map] at hk;cases hq:x.2.2[0]? with
   | none=>rw [hq] at hk;cases hk
   | some q=>
    rw [hq] at hk;have h3:srt g q=3:=inj hk;have hqm:=mem_of_getElem? hq;obtain ⟨a,b⟩:=hxs.k q hqm;obtain ⟨m,rfl⟩:∃ m:Nat,q=m:=⟨q.toNat,by omega⟩
    obtain ⟨y,hy⟩:=ZeS (l:=g) (i:=m) (by omega);have g0:gI x.2.2 0=some (m:Int):=by show gI x.2.2 ((0:Nat):Int)=_;rw [Zax,hq]
    have g1:gI (x.2.2.map (atI nums)) 0=some (atI nums m):=by show gI _ ((0:Nat):Int)=_;rw [Zax,getElem?_map,hq];rfl
    have r1:inR L.length (atI nums m):=hf.k _ (mem_map.2 ⟨_,hqm,rfl⟩);rw [g0,g1];simp only [bind_some,ZGh hy,ZK8 r1];rw [hT.lp m y (by omega) hy h3]
  have hI:=ZOy hN.W.toPoolH p hf.k hf.a;obtain ⟨es,he⟩:=hI.e;obtain ⟨s1,s2⟩:=ZRj hN.W hT.sp p hb hf h1 hzi;have numR:∀ j:Nat,j < i->inR L.length (atI nums j):=fun j hj=>(hN.hb _ (by
   unfold atI;rw [toNat_natCast,List.getElem?_eq_getElem (by omega)];exact List.getElem_mem _)).r
  have old:∀ j:Nat,j < i->∀ r:Int,atI (nums++[r]) j=atI nums j:=fun j hj r=>by
   unfold atI;rw [toNat_natCast,List.getElem?_append_left (by omega)]
  have last:∀ r:Int,atI (nums++[r]) (i:Nat)=r:=fun r=>by
   unfold atI;rw [toNat_natCast,getElem?_append_right (by omega),nl,sub_self];rfl
  show ZRk g (i+1) (nums++[(inM p L (x.1,x.2.1,x.2.2.map (atI nums))).1]) (inM p L (x.1,x.2.1,x.2.2.map (atI nums))).2;refine ⟨s1,fun j hj=>?_,fun j y hj hy h3=>?_⟩
  ·by_cases e:j=i
   ·subst e;rw [last];exact s2
   ·rw [old j (by omega),he,ZQN L es (numR j (by omega))];exact hT.so j (by omega)
  ·by_cases e:j=i
   ·subst e;rw [hx] at hy;obtain rfl:=inj hy;rw [last,ZQX hN.W hT.sp p hf (by rw [h1,h3])];obtain ⟨_,_,_,_,c5⟩:=hN.W.toPoolH.plM hf.k hf.a;have:nA (plM L (x.1,x.2.1,x.2.2.map (atI nums))).2 (plM L (x.1,x.2.1,x.2.2.map (atI nums))).1=(x.1,x.2.1,x.2.2.map (atI nums)):=by unfold nA;rw [c5];rfl
    rw [this];show (x.2.2.map (atI nums)).length=_;rw [length_map]
   ·rw [old j (by omega),he,ZKM (numR j (by omega))];exact hT.lp j y (by omega) hy h3
section
variable {L:List Zae} (hL:ZLs L) {num:List Int} {out:List Zae} (ok:ZLr L num out)
include hL ok
theorem ZQZ (hs:SP L):∀ (b:Nat) (j:Int),inR L.length j->0<=atI num j->atI num j < b->srt out (atI num j)=srt L j
 | 0,j,hj,h0,hb=>by omega
 | b+1,j,hj,h0,hb=>by
  obtain ⟨a1,a2,a3⟩:=ok.at_ j hj h0;have en:=ZQG hL.toPoolH ok hj h0;have hkid:∀ q∈(nA L j).2.2,inR L.length q:=fun q hq=>by
   have:=hL.k _ _ (ZKS hj) q hq;have h1:=hj.1;have h2:=hj.2
   exact ⟨this.1,by omega⟩
  have ih:∀ q∈(nA L j).2.2,srt out (atI num q)=srt L q:=fun q hq=>ZQZ hs b q (hkid q hq) (a3 q hq).1 (by have:=(a3 q hq).2;omega);have e1:=ZQP (o:=out) (i:=atI num j) ⟨h0,a1⟩ (fun q hq=>by
   rw [en] at hq;obtain ⟨r,hr,rfl⟩:=mem_map.1 hq;exact ⟨(a3 r hr).1,(a3 r hr).2,by rw [ih r hr];exact hs r (hkid r hr)⟩)
  rw [en] at e1;have e2:((nA L j).2.2.map (atI num)).map (srt out)=(nA L j).2.2.map (srt L):=by
   rw [List.map_map];exact map_congr_left fun q hq=>ih q hq
  dsimp only at e1;rw [e2] at e1;have e3:F49 out ((nA L j).1,(nA L j).2.1,(nA L j).2.2.map (atI num)) ((nA L j).2.2.map (srt L))=some (srt L j):=by
   rw [<-ZQU hL.toPoolH hs hj];symm;refine ZQO (l:=L) (op:=(nA L j).1) (imm:=(nA L j).2.1) (ks:=(nA L j).2.2) (by rw [length_map]) fun _ _=>?_;cases hq:(nA L j).2.2[0]? with
   | none=>
    have:(nA L j).2.2=[]:=by
     cases h:(nA L j).2.2 with
     | nil=>rfl
     | cons a l=>rw [h] at hq;cases hq
    rw [this,List.map_nil,ZRm];rfl
   | some q=>
    have hqm:=mem_of_getElem? hq;have g0:gI (nA L j).2.2 0=some q:=by show gI _ ((0:Nat):Int)=_;rw [Zax,hq]
    have g1:gI ((nA L j).2.2.map (atI num)) 0=some (atI num q):=by show gI _ ((0:Nat):Int)=_;rw [Zax,getElem?_map,hq];rfl
    obtain ⟨b1,b2,_⟩:=ok.at_ q (hkid q hqm) (a3 q hqm).1;rw [g0,g1];simp only [bind_some,ZK8 (hkid q hqm),ZK8 (L:=out) ⟨(a3 q hqm).1,b1⟩,ZQG hL.toPoolH ok (hkid q hqm) (a3 q hqm).1];rw [length_map]
  rw [e1];unfold nsM;rw [e3];rfl
theorem ZQR {b:Nat} {j:Int} (h:HB L b j):0<=atI num j->HB out b (atI num j):=by
 induction h with
 | @mk b j hj hk ih=>
  intro h0;obtain ⟨a1,a2,a3⟩:=ok.at_ j hj h0;refine .mk ⟨h0,a1⟩ fun q hq=>?_;rw [ZQG hL.toPoolH ok hj h0] at hq;obtain ⟨r,hr,rfl⟩:=mem_map.1 hq;exact ih r hr (a3 r hr).1
end
structure ZRp (L:List Zae) (v s:Int) (out:List Zae) (v' s':Int):Prop where
 sp:SP out
 ev:srt out v'=srt L v
 es:srt out s'=srt L s
 dv:∀ b,HB L b v->HB out b v'
 ds:∀ b,HB L b s->HB out b s'
theorem ZNv.sorts {L:List Zae} {v s:Int} {out:List Zae} {v' s':Int} (h:ZNv L v s out v' s') (hL:ZLs L) (hS:SP L) (hv:inR L.length v) (hs:inR L.length s):ZRp L v s out v' s':=by
 obtain ⟨⟨num1,out1,num2,h1,h2,rfl,rfl⟩⟩:=h;have l0:(replicate L.length (-1:Int)).length=L.length:=by simp
 obtain ⟨kp1,p1⟩:=Z2p.kp hL.toPoolH h1 hv l0;obtain ⟨kp2,p2⟩:=Z2p.kp hL.toPoolH h2 hs kp1.len;have ok1:=Z2p.ok hL.toPoolH h1 hv (ZLr.init L);have ok2:=Z2p.ok hL.toPoolH h2 hs ok1;have s1:=Z2p.sur hL.toPoolH h1 hv l0 (fun k hk=>by simp at hk);have s2:=Z2p.sur hL.toPoolH h2 hs kp1.len s1;have pv:0<=atI num2 v:=by rw [kp2.old v hv.1 p1];exact p1
 have so:∀ j,inR L.length j->0<=atI num2 j->srt out (atI num2 j)=srt L j:=fun j hj h0=>ZQZ hL ok2 hS ((atI num2 j).toNat+1) j hj h0 (by omega);refine ⟨fun i hi=>?_,so v hv pv,so s hs p2,fun b hb=>ZQR hL ok2 hb pv,fun b hb=>ZQR hL ok2 hb p2⟩;obtain ⟨j,j1,j2⟩:=s2 i.toNat (by have h1:=hi.1;have h2:=hi.2;omega);have e:i=atI num2 j:=by have:=hi.1;omega
 rw [e,so j j1 (by have:=hi.1;omega)];exact hS j j1
structure ZRn (p:List Int) (g h:GrT):Prop where
 ok:OkS h
 dp:ZQ8 p h
 w:ZhX h.2.2.1
 n:h.2.2.1.length<=10000
 pos:0 < h.2.2.1.length
 again:∀ r,ZLl p h r->r=h
theorem ZQS {p:List Int} {g h:GrT} (hW:ZhX g.2.2.1) (hl:g.2.2.1.length<=2500) (ok:OkS g) (hn:ZLl p g h):ZRn p g h:=by
 obtain ⟨sm1,sm2⟩:=hn.small hW hl;obtain ⟨e1,e2,hx⟩:h.1=g.1/\h.2.1=g.2.1/\ZNv (ZK7 p g.2.2.1).2 (atI (ZK7 p g.2.2.1).1 g.2.2.2.1) (atI (ZK7 p g.2.2.1).1 g.2.2.2.2) h.2.2.1 h.2.2.2.1 h.2.2.2.2:=by
  rcases hn with ⟨_,h⟩ | ⟨hno,_⟩
  ·exact h
  ·exact absurd ok hno
 have hS:=ok.sortL hW.toGraphH;have hN:=ZLw (p:=p) hS hW.w (by omega) g.2.2.1.length (le_refl _);have hT:=ZQY (p:=p) hS hW.w (by omega) ok.1 g.2.2.1.length (le_refl _);rw [take_length] at hN hT;have v0:=ZKQ (l:=Zam g.2.2.1 g.2.2.1.length) (i:=g.2.2.2.1) (by rw [ok.2.1];omega);have s0:=ZKQ (l:=Zam g.2.2.1 g.2.2.1.length) (i:=g.2.2.2.2) (by rw [ok.2.2];omega);have sv:srt g.2.2.1 g.2.2.2.1=1:=by have:=ok.2.1;unfold ZfU at this;rw [if_pos v0] at this;exact this
 have ss:srt g.2.2.1 g.2.2.2.2=2:=by have:=ok.2.2;unfold ZfU at this;rw [if_pos s0] at this;exact this
 rw [ZaK] at v0 s0;have gv:gI (ZK7 p g.2.2.1).1 g.2.2.2.1=some (atI (ZK7 p g.2.2.1).1 g.2.2.2.1):=ZaB (by rw [hN.len];exact v0);have gs:gI (ZK7 p g.2.2.1).1 g.2.2.2.2=some (atI (ZK7 p g.2.2.1).1 g.2.2.2.2):=ZaB (by rw [hN.len];exact s0);have bv:=hN.hb _ (ZeR gv);have bs:=hN.hb _ (ZeR gs);have X:=hx.sorts hN.W hT.sp bv.r bs.r;have Y:=hx.props hN.W.toPoolH hN.irr hN.nd bv.r bs.r;have tv:srt (ZK7 p g.2.2.1).2 (atI (ZK7 p g.2.2.1).1 g.2.2.2.1)=1:=by
  obtain ⟨m,em⟩:∃ m:Nat,g.2.2.2.1=m:=⟨g.2.2.2.1.toNat,by have:=v0.1;omega⟩
  rw [em] at v0 sv |-
  rw [hT.so m (by have:=v0.2;omega)];exact sv
 have ts:srt (ZK7 p g.2.2.1).2 (atI (ZK7 p g.2.2.1).1 g.2.2.2.2)=2:=by
  obtain ⟨m,em⟩:∃ m:Nat,g.2.2.2.2=m:=⟨g.2.2.2.2.toNat,by have:=s0.1;omega⟩
  rw [em] at s0 ss |-
  rw [hT.so m (by have:=s0.2;omega)];exact ss
 have Wh:ZhX h.2.2.1:=⟨⟨by omega,fun x hx=>(sm2 x hx).k⟩,sm2⟩
 have ag:=ZQE p Y.p Y.i Y.d h.2.2.1.length (le_refl _);rw [take_length] at ag;have iv:atI (ZQF h.2.2.1.length) h.2.2.2.1=h.2.2.2.1:=ZQD Y.v;have is':atI (ZQF h.2.2.1.length) h.2.2.2.2=h.2.2.2.2:=ZQD Y.s;refine ⟨⟨fun i hi=>X.sp i ⟨by omega,by omega⟩,?_,?_⟩,⟨g.2.2.1.length,by omega,?_,?_⟩,Wh,by omega,by have h1:=Y.v.1;have h2:=Y.v.2;omega,fun r hr=>?_⟩
 ·unfold ZfU;rw [if_pos (by rw [ZaK];exact Y.v)];exact X.ev.trans tv
 ·unfold ZfU;rw [if_pos (by rw [ZaK];exact Y.s)];exact X.es.trans ts
 ·rw [ag];dsimp only;rw [iv];exact X.dv _ bv
 ·rw [ag];dsimp only;rw [is'];exact X.ds _ bs
 ·rcases hr with ⟨_,f1,f2,f3⟩ | ⟨hno,_⟩
  ·rw [ag] at f3;dsimp only at f3;rw [iv,is'] at f3;obtain ⟨k1,k2,k3⟩:=f3.det Y.again;obtain ⟨r1,r2,r3,r4,r5⟩:=r;obtain ⟨h1,h2,h3,h4,h5⟩:=h;dsimp only at *;rw [f1,f2,k1,k2,k3]
  ·exfalso;refine hno ⟨fun i hi=>X.sp i ⟨by omega,by omega⟩,?_,?_⟩
   ·unfold ZfU;rw [if_pos (by rw [ZaK];exact Y.v)];exact X.ev.trans tv
   ·unfold ZfU;rw [if_pos (by rw [ZaK];exact Y.s)];exact X.es.trans ts
theorem WfP.okS {g:GrT} (h:WfP g):OkS g:=⟨fun i hi=>(h.good i hi).1,h.va,h.st⟩
theorem PG.okS {n:List Zae} {m:Nat} (h:PG n m) {v s:Int} (hv:AtT n v 1) (hs:AtT n s 2) (nm:ByteArray) (pr:Int):OkS (nm,pr,n,v,s):=by
 refine ⟨fun i hi=>h.nz i hi,?_,?_⟩
 ·unfold ZfU;rw [if_pos (by rw [ZaK];exact hv.1)];exact hv.2
 ·unfold ZfU;rw [if_pos (by rw [ZaK];exact hs.1)];exact hs.2
theorem ZQL {g:GrT} (hW:ZhX g.2.2.1) (hl:g.2.2.1.length<=2500) (ok:OkS g) (lens:List Int):Ret (Z2d (g.1,g.2.1,g.2.2.1,g.2.2.2.1,g.2.2.2.2,lens)) fun b=>b=true:=by
 simp only [Z2d,wq,reduceCtorEq];have eg:(g.1,g.2.1,g.2.2.1,g.2.2.2.1,g.2.2.2.2)=g:=rfl;rw [eg];refine Ret.mono (Z4P hW hl lens) fun h _ hh=>?_;have A:=ZQS hW hl ok hh;have hp:=A.pos;refine ⟨fun _=>?_,fun h=>absurd h (by omega)⟩;refine Ret.mono (ZQ6 A.w A.n lens fun _=>A.dp) fun r _ hr=>?_;obtain rfl:=A.again r hr;have e:=ZLn r (by have:=A.n;omega) (fun z hz=>by have:=(A.w.w z hz).k;omega);simp only [e,F14,ZEQ,wq,reduceCtorEq]
theorem ZQA (l:List Int) (f:Int) (deep:Bool) (hl:∀ x∈l,I64 x) (hn:l.length<=9223372036854775807):F4 l f deep=some true:=by
 refine Ret.eq ?_;simp only [F4,wq,reduceCtorEq];refine ⟨fun _=>?_,fun h=>absurd h (by split<;>simp<;>omega)⟩;generalize hl':slI l 0 (if 36 < (List.length l:Int) then 36 else (List.length l:Int))=l';have h1:ZGD l':=by
  intro x hx;rw [<-hl'] at hx;unfold slI at hx;exact hl x (List.mem_of_mem_drop (List.mem_of_mem_take hx))
 have h2:l'.length<=9223372036854775807:=by
  rw [<-hl'];unfold slI;rw [List.length_take,List.length_drop];omega
 refine Ret.mono (ZOx l' h1 h2) fun u _ ⟨u0,u1,u2⟩=>?_;refine ZBv (by omega) (by omega) fun r r0 r1=>Zaj r0 (by omega) fun g _ hgm=>?_;have hg:=u2 g hgm;refine Ret.mono (ZJ5 u0) fun al _ _=>?_;refine ⟨fun _=>?_,fun _=>?_⟩
 ·refine Ret.mono (Z1D l hl) fun n _ hpg=>?_;have hpl:=hpg.len;refine Ret.mono (Z5L hpg (by omega) hpg.z) fun v _ hv=>?_;refine Ret.mono (Z5L hpg (by omega) hpg.e) fun s _ hs=>?_;exact ZQL (g:=(empty,2,n,v,s)) (hpg.W (by omega)) (by dsimp only;omega) (hpg.okS hv hs _ _) _
 ·exact ZQL hg.w (by have:=hg.n;omega) hg.wf.okS _
theorem ZQC (x0:List Int) (x1:Int) (x2:Bool) (hb:x0.length<=9223372036854775807) (hw0:∀ x∈x0,I64 x) (_:I64 x1):F4 x0 x1 x2=some true:=
 ZQA x0 x1 x2 hw0 hb
end Go.Dat
