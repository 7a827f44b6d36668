import Derived.Test.YtipafbfdjfbkbaaGreatDoorPl0
set_option linter.unusedSimpArgs false
set_option linter.unusedVariables false
set_option linter.unusedSectionVars false
open Go.IntKind (wrap)
open Option (bind_some getD_some)
open List.cons (inj)
open List (length_map replicate mem_singleton getElem?_eq_getElem length_cons length_nil mem_map mem_append length_append getElem?_map map_congr_left take_length getElem_mem take_add_one mem_cons getElem?_append_right mem_of_getElem? getElem?_append_left getElem?_of_mem mem_of_mem_take length_take map_append all_eq_true map_map)
open Int (toNat_natCast tdiv)
open ByteArray (empty)
open Nat (le_refl sub_self)
open Bool (and_eq_true)
namespace Go.Dat
open Go.Eng
def Sub (num numF:List Int):Prop:=∀ j,0<=j->0<=atI num j->atI numF j=atI num j
structure RnR (L:List Zae) (numF:List Int) (outF:List Zae) (num num2:List Int):Prop where
 len:num2.length=outF.length
 at_:∀ j,inR L.length j->0<=atI numF j->atI num2 (atI numF j)=atI num j
section
variable {L:List Zae} (hL:PoolH L) {numF:List Int} {outF:List Zae} (hF:ZLr L numF outF)
include hL hF
mutual
theorem Z2p.sim:∀ {i:Int} {num:List Int} {out:List Zae} {num':List Int} {out':List Zae} {num2:List Int},Z2p L i num out num' out'->inR L.length i->num.length=L.length->Sub num' numF->RnR L numF outF num num2->∃ num2',Z2p outF (atI numF i) num2 out num2' out'/\RnR L numF outF num' num2'
 | i,num,out,_,_,num2,.old h,hi,hn,hs,hr=>by
  have e:=hs i hi.1 h;exact ⟨num2,.old (by rw [hr.at_ i hi (by omega)];exact h),hr⟩
 | i,num,out,_,_,num2,.new (num':=num') (out':=out') (ks:=ks) h k,hi,hn,hs,hr=>by
  have hv:Z2p L i num out _ _:=.new h k;obtain ⟨kp,hp⟩:=Z2p.kp hL hv hi hn;have hρ:0<=atI numF i:=by rw [hs i hi.1 hp];exact hp
  obtain ⟨f1,f2,f3⟩:=hF.at_ i hi hρ;have hk:∀ q∈(nA L i).2.2,inR L.length q/\q<=i - 1:=fun q hq=>by
   have:=hL.k _ _ (ZKS hi) q hq;have h1:=hi.1;have h2:=hi.2
   exact ⟨⟨this.1,by omega⟩,by omega⟩
  have kpk:=ZKG.kp hL (i - 1) k hk hn;have hi':inR num'.length i:=by rw [kpk.len];exact hi
  have hs':Sub num' numF:=fun j hj h0=>by
   have hne:j≠i:=fun e=>by subst e;rw [kpk.above j (by omega)] at h0;omega
   have e:=ZKL num' hi' (out'.length:Int) j hj;rw [if_neg hne] at e;rw [<-e];exact hs j hj (by rw [e];exact h0)
  obtain ⟨num2',v2,r2⟩:=ZKG.sim k (fun q hq=>(hk q hq).1) hn hs' hr;have en:nA outF (atI numF i)=((nA L i).1,(nA L i).2.1,(nA L i).2.2.map (atI numF)):=by unfold nA;rw [f2];rfl
  have hv2:Z2p outF (atI numF i) num2 out _ _:=.new (by rw [hr.at_ i hi hρ];exact h) (by rw [en];exact v2);rw [en] at hv2;refine ⟨_,hv2,by rw [Zay,r2.len],fun j hj h0=>?_⟩;have hri:inR num2'.length (atI numF i):=by rw [r2.len];exact ⟨hρ,f1⟩
  rw [ZKL _ hri _ _ h0,ZKL _ hi' _ _ hj.1];by_cases e:j=i
  ·subst e;rw [if_pos rfl,if_pos rfl]
  ·rw [if_neg e,if_neg (fun e2=>e (hF.inj j i hj hi h0 e2))];exact r2.at_ j hj h0
theorem ZKG.sim:∀ {qs:List Int} {num:List Int} {out:List Zae} {ks:List Int} {num':List Int} {out':List Zae} {num2:List Int},ZKG L qs num out ks num' out'->(∀ q∈qs,inR L.length q)->num.length=L.length->Sub num' numF->RnR L numF outF num num2->∃ num2',ZKG outF (qs.map (atI numF)) num2 out ks num2' out'/\RnR L numF outF num' num2'
 | _,num,out,_,_,_,num2,.nil,_,hn,hs,hr=>⟨num2,.nil,hr⟩
 | _,num,out,_,_,_,num2,.cons (q:=q) (qs:=qs) (num1:=num1) h k,hq,hn,hs,hr=>by
  have q0:=hq q (by simp);obtain ⟨kp1,p1⟩:=Z2p.kp hL h q0 hn;have kp2:=ZKG.kp hL (L.length:Int) k (fun x hx=>⟨hq x (by simp [hx]),by have:=(hq x (by simp [hx])).2;omega⟩) kp1.len;have hs1:Sub num1 numF:=fun j hj h0=>by
   have e:=kp2.old j hj h0;rw [<-e];exact hs j hj (by rw [e];exact h0)
  obtain ⟨n1,v1,r1⟩:=Z2p.sim h q0 hn hs1 hr;obtain ⟨n2,v2,r2⟩:=ZKG.sim k (fun x hx=>hq x (by simp [hx])) kp1.len hs r1;refine ⟨n2,?_,r2⟩;have e:atI n1 (atI numF q)=atI num1 q:=r1.at_ q q0 (by rw [hs1 q q0.1 p1];exact p1);rw [List.map_cons,<-e];exact .cons v1 v2
end
end
section
variable {L:List Zae} (hL:PoolH L) {numF:List Int} {outF:List Zae} (hF:ZLr L numF outF)
include hL hF
theorem ZQG {i:Int} (hi:inR L.length i) (h0:0<=atI numF i):nA outF (atI numF i)=((nA L i).1,(nA L i).2.1,(nA L i).2.2.map (atI numF)):=by
 obtain ⟨f1,f2,f3⟩:=hF.at_ i hi h0;unfold nA;rw [f2];rfl
theorem ZRg {x:Zae} {m k:Nat} (hl:x.2.2.length=m) (hk:k < m):kk (x.1,x.2.1,x.2.2.map (atI numF)) k=atI numF (kk x k):=by
 unfold kk;simp only [getElem?_map];rw [getElem?_eq_getElem (by omega)];rfl
theorem ZQ9 {i:Int} (hi:inR L.length i) (h0:0<=atI numF i) {m k:Nat} (ha:ZaY (nA L i).1=((m:Int),true)) (hk:k < m):inR L.length (kk (nA L i) k)/\0<=atI numF (kk (nA L i) k)/\kk (nA outF (atI numF i)) k=atI numF (kk (nA L i) k):=by
 have hl:=hL.a _ (ZKF hi) m ha;refine ⟨hL.kidR hi ha hk,((hF.at_ i hi h0).2.2 _ (ZK6 hl hk)).1,?_⟩;rw [ZQG hL hF hi h0];exact ZRg hL hF hl hk
theorem ZQB {i:Int} (hi:inR L.length i) (h0:0<=atI numF i):(nA outF (atI numF i)).1=(nA L i).1/\(nA outF (atI numF i)).2.1=(nA L i).2.1:=by
 rw [ZQG hL hF hi h0];exact ⟨rfl,rfl⟩
theorem ZQH {i j:Int} (hi:inR L.length i) (hj:inR L.length j) (h0:0<=atI numF i):atI numF i=atI numF j↔i=j:=⟨hF.inj i j hi hj h0,fun e=>by rw [e]⟩
theorem ZQM {i n:Int} (hi:inR L.length i) (h0:0<=atI numF i):isC outF (atI numF i) n=isC L i n:=by
 obtain ⟨a,b⟩:=ZQB hL hF hi h0;unfold isC;rw [a,b]
theorem ZRc {i b:Int} (hi:inR L.length i) (h0:0<=atI numF i) (hb:inR L.length b):zT outF (atI numF i) (atI numF b)=zT L i b:=by
 obtain ⟨a,_⟩:=ZQB hL hF hi h0;unfold zT;rw [a];by_cases h15:(nA L i).1=15
 ·have ar:ZaY (nA L i).1=(((2:Nat):Int),true):=by rw [h15];rfl
  obtain ⟨p1,p2,p3⟩:=ZQ9 hL hF hi h0 ar (k:=0) (by omega);obtain ⟨q1,q2,q3⟩:=ZQ9 hL hF hi h0 ar (k:=1) (by omega);rw [p3,q3,ZQM hL hF q1 q2];congr 2;rw [Bool.eq_iff_iff,beq_iff_eq,beq_iff_eq];exact ZQH hL hF p1 hb p2
 ·have:((nA L i).1==15)=false:=by simpa using h15
  rw [this];simp
theorem ZQT {lens:List Int} {c i k:Int} (hc:inR L.length c) (h0:0<=atI numF c) (hi:inR L.length i):inB outF lens (atI numF c) (atI numF i) k=inB L lens c i k:=by
 obtain ⟨a,_⟩:=ZQB hL hF hc h0;unfold inB;rw [a];by_cases h19:(nA L c).1=19
 ·have ar:ZaY (nA L c).1=(((2:Nat):Int),true):=by rw [h19];rfl
  obtain ⟨p1,p2,p3⟩:=ZQ9 hL hF hc h0 ar (k:=0) (by omega);obtain ⟨q1,q2,q3⟩:=ZQ9 hL hF hc h0 ar (k:=1) (by omega);rw [p3,q3,ZQM hL hF q1 q2];congr 2;rw [Bool.eq_iff_iff,beq_iff_eq,beq_iff_eq];exact ZQH hL hF p1 hi p2
 ·have:((nA L c).1==19)=false:=by simpa using h19
  rw [this];simp
theorem ZRa {d:Int} (hd:inR L.length d) (h0:0<=atI numF d):ZLG outF (atI numF d)=(ZLG L d).map fun p=>(atI numF p.1,atI numF p.2):=by
 obtain ⟨a,_⟩:=ZQB hL hF hd h0;unfold ZLG;rw [a];by_cases h4:(nA L d).1=4
 ·have ar:ZaY (nA L d).1=(((2:Nat):Int),true):=by rw [h4];rfl
  obtain ⟨p1,p2,p3⟩:=ZQ9 hL hF hd h0 ar (k:=0) (by omega);obtain ⟨q1,q2,q3⟩:=ZQ9 hL hF hd h0 ar (k:=1) (by omega);rw [if_pos h4,if_pos h4,p3,q3,ZRc hL hF q1 q2 p1,ZRc hL hF p1 p2 q1];split
  ·rfl
  ·split<;>rfl
 ·rw [if_neg h4,if_neg h4];rfl
theorem ZRb {lens:List Int} {a m:Int} (ha:inR L.length a) (a0:0<=atI numF a) (hm:inR L.length m) (m0:0<=atI numF m) (h:∃ x,ZLh outF lens (atI numF a) (atI numF m)=some x):∃ x,ZLh L lens a m=some x:=by
 obtain ⟨x,h⟩:=h;obtain ⟨oa,ia⟩:=ZQB hL hF ha a0;obtain ⟨om,im⟩:=ZQB hL hF hm m0;unfold ZLh at h |-
 rw [oa] at h;by_cases h78:(nA L a).1=7\/(nA L a).1=8
 ·have ar:ZaY (nA L a).1=(((2:Nat):Int),true):=by rcases h78 with e | e<;>rw [e]<;>rfl
  obtain ⟨q1,q2,q3⟩:=ZQ9 hL hF ha a0 ar (k:=1) (by omega);rw [if_pos h78,q3,ZRa hL hF q1 q2] at h;rw [if_pos h78];cases hd:ZLG L (kk (nA L a) 1) with
  | none=>rw [hd] at h;cases h
  | some be=>
   obtain ⟨b,e⟩:=be;rw [hd] at h;dsimp only [Option.map] at h;dsimp only;split at h
   ·rename_i hc;obtain ⟨c1,c2,c3⟩:=hc;rw [om] at c1;have ar2:ZaY (nA L m).1=(((2:Nat):Int),true):=by rw [c1];rfl
    obtain ⟨r1,r2,r3⟩:=ZQ9 hL hF hm m0 ar2 (k:=0) (by omega);obtain ⟨s1,s2,s3⟩:=ZQ9 hL hF hm m0 ar2 (k:=1) (by omega);obtain ⟨_,he,_,_⟩:=ZND hL q1 hd;rw [r3,ZQH hL hF r1 he r2] at c2;rw [s3,ZQM hL hF s1 s2] at c3;rw [if_pos ⟨c1,c2,c3⟩];exact ⟨_,rfl⟩
   ·cases h
 ·rw [if_neg h78] at h |-
  by_cases h23:(nA L a).1=23
  ·have ar:ZaY (nA L a).1=(((2:Nat):Int),true):=by rw [h23];rfl
   obtain ⟨q1,q2,q3⟩:=ZQ9 hL hF ha a0 ar (k:=1) (by omega);rw [if_pos h23,q3,ia] at h;rw [if_pos h23];split at h
   ·rename_i hc;obtain ⟨c1,c2,c3,c4⟩:=hc;obtain ⟨od,_⟩:=ZQB hL hF q1 q2;rw [od] at c1;have ar2:ZaY (nA L (kk (nA L a) 1)).1=(((2:Nat):Int),true):=by rw [c1];rfl
    obtain ⟨r1,r2,r3⟩:=ZQ9 hL hF q1 q2 ar2 (k:=0) (by omega);obtain ⟨s1,s2,s3⟩:=ZQ9 hL hF q1 q2 ar2 (k:=1) (by omega);rw [s3,ZQH hL hF s1 hm s2] at c2;rw [om] at c3;have ar3:ZaY (nA L m).1=(((1:Nat):Int),true):=by rw [c3];rfl
    obtain ⟨t1,t2,t3⟩:=ZQ9 hL hF hm m0 ar3 (k:=0) (by omega);rw [t3,r3,ZQT hL hF t1 t2 r1] at c4;rw [if_pos ⟨c1,c2,c3,c4⟩];exact ⟨_,rfl⟩
   ·cases h
  ·rw [if_neg h23] at h;cases h
theorem ZRe {lens:List Int} {i:Int} (hi:inR L.length i) (h0:0<=atI numF i) (h:ZNQ lens outF (nA outF (atI numF i))):ZNQ lens L (nA L i):=by
 obtain ⟨oi,_⟩:=ZQB hL hF hi h0;unfold ZNQ at h |-
 rw [oi] at h;rcases h with ⟨e,c1,c2⟩ | ⟨e,c1⟩ | ⟨e,c1⟩ | ⟨e,c1⟩
 ·have ar:ZaY (nA L i).1=(((2:Nat):Int),true):=by rw [e];rfl
  obtain ⟨r1,r2,r3⟩:=ZQ9 hL hF hi h0 ar (k:=0) (by omega);obtain ⟨s1,s2,s3⟩:=ZQ9 hL hF hi h0 ar (k:=1) (by omega);obtain ⟨a1,a2⟩:=ZQB hL hF r1 r2;obtain ⟨b1,b2⟩:=ZQB hL hF s1 s2;rw [r3,a1] at c1;rw [r3,s3,a2,b1,b2] at c2;exact .inl ⟨e,c1,c2⟩
 ·have ar:ZaY (nA L i).1=(((2:Nat):Int),true):=by rw [e];rfl
  obtain ⟨s1,s2,s3⟩:=ZQ9 hL hF hi h0 ar (k:=1) (by omega);obtain ⟨b1,b2⟩:=ZQB hL hF s1 s2;rw [s3,b1] at c1;exact .inr (.inl ⟨e,c1⟩)
 ·have ar:ZaY (nA L i).1=(((2:Nat):Int),true):=by rw [e];rfl
  obtain ⟨r1,r2,r3⟩:=ZQ9 hL hF hi h0 ar (k:=0) (by omega);obtain ⟨s1,s2,s3⟩:=ZQ9 hL hF hi h0 ar (k:=1) (by omega);rw [r3,s3] at c1;exact .inr (.inr (.inl ⟨e,ZRb hL hF r1 r2 s1 s2 c1⟩))
 ·have ar:ZaY (nA L i).1=(((3:Nat):Int),true):=by rw [e];rfl
  obtain ⟨r1,r2,r3⟩:=ZQ9 hL hF hi h0 ar (k:=0) (by omega);obtain ⟨s1,s2,s3⟩:=ZQ9 hL hF hi h0 ar (k:=1) (by omega);obtain ⟨t1,t2,t3⟩:=ZQ9 hL hF hi h0 ar (k:=2) (by omega);obtain ⟨b1,b2⟩:=ZQB hL hF s1 s2;rw [r3,s3,t3,b1,b2] at c1;refine .inr (.inr (.inr ⟨e,?_⟩));rcases c1 with c1 | ⟨c1,c2,c3⟩
  ·exact .inl ((ZQH hL hF s1 t1 s2).1 c1)
  ·have ar2:ZaY (nA L (kk (nA L i) 1)).1=(((3:Nat):Int),true):=by rw [c1];rfl
   obtain ⟨u1,u2,u3⟩:=ZQ9 hL hF s1 s2 ar2 (k:=0) (by omega);obtain ⟨v1,v2,v3⟩:=ZQ9 hL hF s1 s2 ar2 (k:=1) (by omega);rw [u3,ZQH hL hF u1 t1 u2] at c2;rw [v3,ZQT hL hF r1 r2 v1] at c3;exact .inr ⟨c1,c2,c3⟩
end
def ZLQ (lens:List Int) (s:List Int×List Zae) (n:Zae):List Int×List Zae:=
 (s.1++[(inM lens s.2 (n.1,n.2.1,n.2.2.map (atI s.1))).1],(inM lens s.2 (n.1,n.2.1,n.2.2.map (atI s.1))).2)
def ZK7 (lens:List Int) (l:List Zae):List Int×List Zae:=l.foldl (ZLQ lens) ([],[])
theorem PoolH.take {L:List Zae} (h:PoolH L) (m:Nat):PoolH (L.take m):=by
 refine ⟨fun i x hx=>?_,fun x hx=>h.a x (mem_of_mem_take hx)⟩;rw [List.getElem?_take] at hx;split at hx
 ·exact h.k i x hx
 ·cases hx
def ZQF (m:Nat):List Int:=(List.range m).map fun (i:Nat)=>(i:Int)
theorem ZQD {m:Nat} {q:Int} (h:0<=q/\q < m):atI (ZQF m) q=q:=by
 unfold atI ZQF;rw [getElem?_map,List.getElem?_range (by omega)];show ((q.toNat:Nat):Int)=q;omega
theorem ZQE (lens:List Int) {out:List Zae} (hP:PoolH out) (hI:ZNR lens out) (hD:out.Nodup):∀ m≤out.length,ZK7 lens (out.take m)=(ZQF m,out.take m)
 | 0,_=>by simp [ZK7,ZQF]
 | m+1,hm=>by
  have ih:=ZQE lens hP hI hD m (by omega);have hx:out[m]?=some out[m]:=getElem?_eq_getElem (by omega);have hmem:out[m]∈out:=getElem_mem _;have e:out.take (m+1)=out.take m++[out[m]]:=by rw [take_add_one,hx];rfl
  have lt:(out.take m).length=m:=by rw [length_take];omega
  unfold ZK7 at ih |-
  rw [e,List.foldl_append,ih];show ZLQ lens (ZQF m,out.take m) out[m]=_;have hk:=hP.k m _ hx;have mapE:(out[m]).2.2.map (atI (ZQF m))=(out[m]).2.2:=by
   have:(out[m]).2.2.map (atI (ZQF m))=(out[m]).2.2.map id:=map_congr_left fun q hq=>ZQD (hk q hq);rw [this,List.map_id]
  have en:((out[m]).1,(out[m]).2.1,(out[m]).2.2)=out[m]:=rfl;have nred:¬ ZNQ lens (out.take m) out[m]:=by
   have:=ZLO (lens:=lens) (hP.take m) (out.drop m) (n:=out[m]) (fun q hq=>by have:=hk q hq;exact ⟨this.1,by rw [lt];exact this.2⟩) (fun k hkk=>hP.a _ hmem k hkk);rw [List.take_append_drop] at this;rw [<-this];exact hI _ hmem
  have nmem:out[m]∉out.take m:=fun hin=>by
   obtain ⟨i,hi⟩:=getElem?_of_mem hin;have il:=ZaA hi;rw [lt] at il;rw [List.getElem?_take,if_pos il] at hi;have:=(List.getElem?_inj (ZaA hi) hD).1 (hi.trans hx.symm);omega
  unfold ZLQ;dsimp only;rw [mapE,en,ZRd nred];unfold plM ZH4 ZHQ;rw [if_neg nmem,if_neg nmem,lt];unfold ZQF;rw [List.range_succ,map_append];rfl
def ZOM (L:List Zae) (num:List Int) (out:List Zae):Prop:=∀ k:Nat,k < out.length->∃ j,inR L.length j/\atI num j=k
mutual
theorem Z2p.sur {L:List Zae} (hL:PoolH L):∀ {i:Int} {num:List Int} {out:List Zae} {num':List Int} {out':List Zae},Z2p L i num out num' out'->inR L.length i->num.length=L.length->ZOM L num out->ZOM L num' out'
 | i,num,out,_,_,.old h,hi,hn,hs=>hs
 | i,num,out,_,_,.new (num':=num') (out':=out') (ks:=ks) h k,hi,hn,hs=>by
  have hk:∀ q∈(nA L i).2.2,inR L.length q/\q<=i - 1:=fun q hq=>by
   have:=hL.k _ _ (ZKS hi) q hq;have h1:=hi.1;have h2:=hi.2
   exact ⟨⟨this.1,by omega⟩,by omega⟩
  have kp:=ZKG.kp hL (i - 1) k hk hn;have su:=ZKG.sur hL k (fun q hq=>(hk q hq).1) hn hs;have hi':inR num'.length i:=by rw [kp.len];exact hi
  have hneg:atI num' i < 0:=by rw [kp.above i (by omega)];exact h
  intro m hm;by_cases e:m < out'.length
  ·obtain ⟨j,j1,j2⟩:=su m e;refine ⟨j,j1,?_⟩;rw [ZKL _ hi' _ _ j1.1,if_neg (fun e=>by subst e;omega)];exact j2
  ·refine ⟨i,hi,?_⟩;rw [ZKL _ hi' _ _ hi.1,if_pos rfl];simp at hm;omega
theorem ZKG.sur {L:List Zae} (hL:PoolH L):∀ {qs:List Int} {num:List Int} {out:List Zae} {ks:List Int} {num':List Int} {out':List Zae},ZKG L qs num out ks num' out'->(∀ q∈qs,inR L.length q)->num.length=L.length->ZOM L num out->ZOM L num' out'
 | _,num,out,_,_,_,.nil,_,hn,hs=>hs
 | _,num,out,_,_,_,.cons (q:=q) (qs:=qs) (num1:=num1) h k,hq,hn,hs=>by
  have q0:=hq q (by simp);have kp1:=(Z2p.kp hL h q0 hn).1;exact ZKG.sur hL k (fun x hx=>hq x (by simp [hx])) kp1.len (Z2p.sur hL h q0 hn hs)
end
structure ZNv (L:List Zae) (v s:Int) (out:List Zae) (v' s':Int):Prop where
 ex:∃ num1 out1 num2,Z2p L v (replicate L.length (-1)) [] num1 out1/\Z2p L s num1 out1 num2 out/\v'=atI num2 v/\s'=atI num2 s
theorem ZNv.det {L:List Zae} {v s:Int} {o1 o2:List Zae} {v1 s1 v2 s2:Int} (h:ZNv L v s o1 v1 s1) (h':ZNv L v s o2 v2 s2):o1=o2/\v1=v2/\s1=s2:=by
 obtain ⟨⟨n1,p1,m1,a1,b1,c1,d1⟩⟩:=h;obtain ⟨⟨n2,p2,m2,a2,b2,c2,d2⟩⟩:=h';obtain ⟨rfl,rfl⟩:=a1.det a2;obtain ⟨rfl,rfl⟩:=b1.det b2;exact ⟨rfl,c1.trans c2.symm,d1.trans d2.symm⟩
theorem Zgl {n:Nat} {q:Int} (h:inR n q):atI (replicate n (-1)) q=-1:=by
 have h1:=h.1;have h2:=h.2
 unfold atI;rw [List.getElem?_replicate,if_pos (by omega)];rfl
theorem ZLr.init (L:List Zae):ZLr L (replicate L.length (-1)) []:=by
 refine ⟨by simp,fun j hj h0=>?_,fun j j' hj _ h0=>?_⟩
 ·rw [Zgl hj] at h0;omega
 ·rw [Zgl hj] at h0;omega
structure ZRo (L:List Zae) (lens:List Int) (v s:Int) (out:List Zae) (v' s':Int):Prop where
 p:PoolH out
 i:ZNR lens out
 d:out.Nodup
 v:inR out.length v'
 s:inR out.length s'
 again:ZNv out v' s' out v' s'
theorem ZNv.props {L:List Zae} {lens:List Int} {v s:Int} {out:List Zae} {v' s':Int} (h:ZNv L v s out v' s') (hL:PoolH L) (hI:ZNR lens L) (hD:L.Nodup) (hv:inR L.length v) (hs:inR L.length s):ZRo L lens v s out v' s':=by
 obtain ⟨⟨num1,out1,num2,h1,h2,rfl,rfl⟩⟩:=h;have l0:(replicate L.length (-1:Int)).length=L.length:=by simp
 obtain ⟨k1,p1⟩:=Z2p.kp hL h1 hv l0;obtain ⟨k2,p2⟩:=Z2p.kp hL h2 hs k1.len;have ok1:=Z2p.ok hL h1 hv (ZLr.init L);have ok2:=Z2p.ok hL h2 hs ok1;have s1:=Z2p.sur hL h1 hv l0 (fun k hk=>by simp at hk);have s2:=Z2p.sur hL h2 hs k1.len s1;have pv:0<=atI num2 v:=by rw [k2.old v hv.1 p1];exact p1
 have get:∀ (k:Nat) x,out[k]?=some x->∃ j,inR L.length j/\atI num2 j=k/\x=((nA L j).1,(nA L j).2.1,(nA L j).2.2.map (atI num2))/\(∀ q∈(nA L j).2.2,inR L.length q/\0<=atI num2 q/\atI num2 q < k):=fun k x hx=>by
  obtain ⟨j,j1,j2⟩:=s2 k (ZaA hx);obtain ⟨a,b,c⟩:=ok2.at_ j j1 (by omega);rw [j2,toNat_natCast,hx] at b;refine ⟨j,j1,j2,Option.some.inj b,fun q hq=>⟨?_,(c q hq).1,by have:=(c q hq).2;omega⟩⟩;have:=hL.k _ _ (ZKS j1) q hq;have h1:=j1.1;have h2:=j1.2
  exact ⟨this.1,by omega⟩
 refine ⟨⟨fun k x hx q hq=>?_,fun x hx m hm=>?_⟩,fun x hx=>?_,?_,⟨pv,(ok2.at_ v hv pv).1⟩,⟨p2,(ok2.at_ s hs p2).1⟩,?_⟩
 ·obtain ⟨j,j1,j2,rfl,j4⟩:=get k x hx;obtain ⟨q',hq',rfl⟩:=mem_map.1 hq;exact (j4 q' hq').2
 ·obtain ⟨k,hk⟩:=getElem?_of_mem hx;obtain ⟨j,j1,j2,rfl,j4⟩:=get k x hk;rw [length_map];exact hL.a _ (ZKF j1) m hm
 ·obtain ⟨k,hk⟩:=getElem?_of_mem hx;obtain ⟨j,j1,j2,e,j4⟩:=get k x hk;have j0:0<=atI num2 j:=by omega
  have e2:=ZQG hL ok2 j1 j0;rw [<-e] at e2;rw [<-e2];exact fun hr=>hI _ (ZKF j1) (ZRe hL ok2 j1 j0 hr)
 ·rw [List.nodup_iff_pairwise_ne,List.pairwise_iff_getElem];intro a b ha hb hab e5;obtain ⟨j,j1,j2,e1,j4⟩:=get a _ (getElem?_eq_getElem ha);obtain ⟨i,i1,i2,e3,i4⟩:=get b _ (getElem?_eq_getElem hb);rw [e1,e3] at e5;injection e5 with f1 f2;injection f2 with f2 f3;have kids:(nA L j).2.2=(nA L i).2.2:=by
   have len:(nA L j).2.2.length=(nA L i).2.2.length:=by have:=congrArg List.length f3;simpa using this
   refine List.ext_getElem len fun n n1 n2=>?_;have e6:((nA L j).2.2.map (atI num2))[n]?=((nA L i).2.2.map (atI num2))[n]?:=by rw [f3]
   rw [getElem?_map,getElem?_map,getElem?_eq_getElem n1,getElem?_eq_getElem n2] at e6;have e7:=Option.some.inj e6;have m1:=j4 _ (getElem_mem n1);have m2:=i4 _ (getElem_mem n2);exact ok2.inj _ _ m1.1 m2.1 m1.2.1 e7
  have eN:nA L j=nA L i:=Prod.ext f1 (Prod.ext f2 kids);have gj:=ZKS j1;have gi:=ZKS i1;rw [eN] at gj;have lj:=ZaA gj;have:=(List.getElem?_inj lj hD).1 (gj.trans gi.symm);have:=j1.1;have:=i1.1
  have:j=i:=by omega
  subst this;omega
 ·have sub1:Sub num1 num2:=fun j hj h0=>k2.old j hj h0;have r0:RnR L num2 out (replicate L.length (-1)) (replicate out.length (-1)):=by
   refine ⟨by simp,fun j hj h0=>?_⟩;rw [Zgl hj,Zgl ⟨h0,(ok2.at_ j hj h0).1⟩]
  obtain ⟨m1,w1,r1⟩:=Z2p.sim hL ok2 h1 hv l0 sub1 r0;obtain ⟨m2,w2,r2⟩:=Z2p.sim hL ok2 h2 hs k1.len (fun _ _ _=>rfl) r1;exact ⟨m1,out1,m2,w1,w2,(r2.at_ v hv pv).symm,(r2.at_ s hs p2).symm⟩
theorem ZKH {L:List Zae} (h:L.Nodup) (n:Zae):(plM L n).2.Nodup:=by
 show (ZHQ L n).Nodup;unfold ZHQ;split
 ·exact h
 ·rename_i hn;rw [List.nodup_append];exact ⟨h,by simp,fun a ha b hb=>by rw [mem_singleton.1 hb];rintro rfl;exact hn ha⟩
theorem ZM2 {lens:List Int} {L:List Zae} (h:L.Nodup) (n:Zae):(inM lens L n).2.Nodup:=by
 unfold inM;split
 ·exact ZKH h _
 ·split
  ·exact ZKH (ZKH h _) _
  ·split
   ·split
    ·exact ZKH h _
    ·exact ZKH h _
   ·split
    ·exact h
    ·exact ZKH h _
def ZLV (idx:List (ByteArray×Int)) (N:List Zae):Prop:=∀ y:Zae,Zc3 (ZaS .str) idx (Zvy y.1 y.2.1 y.2.2)=if y∈N then some (ZH4 N y) else none
theorem ZLV.nil:ZLV [] []:=fun y=>by simp [Zc3]
theorem ZMV {N es:List Zae} {y:Zae} (h:y∈N):ZH4 (N++es) y=ZH4 N y:=by
 unfold ZH4;rw [if_pos (List.mem_append_left _ h),if_pos h,List.idxOf_append,if_pos h]
theorem ZM3 {N:List Zae} {y:Zae} (h:y∉N):ZH4 (N++[y]) y=N.length:=by
 unfold ZH4;rw [if_pos (by simp),List.idxOf_append,if_neg h];simp
theorem ZLV.snoc {idx:List (ByteArray×Int)} {N:List Zae} (h:ZLV idx N) {y:Zae} (hy:y∉N):ZLV (ZfQ (ZaS .str) idx (Zvy y.1 y.2.1 y.2.2) (N.length:Int)) (N++[y]):=fun z=>by
 rw [ZeW];by_cases e:z=y
 ·subst e;rw [if_pos rfl,if_pos (by simp),ZM3 hy]
 ·have hk:Zvy z.1 z.2.1 z.2.2≠Zvy y.1 y.2.1 y.2.2:=fun hk=>by
   obtain ⟨k1,k2,k3⟩:=Zm7 hk;exact e (Prod.ext k1 (Prod.ext k2 k3))
  rw [if_neg hk,h z];by_cases m:z∈N
  ·rw [if_pos m,if_pos (List.mem_append_left _ m),ZMV m]
  ·rw [if_neg m,if_neg (fun q=>by rcases mem_append.1 q with q | q;exact m q;exact e (mem_singleton.1 q))]
def PR (p:List Int) (q:Int×List Zae) (r:Int×List Int×List Zae×List (ByteArray×Int)):Prop:=∃ idx,ZLV idx q.2/\r=(q.1,p,q.2,idx)
structure ZLs (L:List Zae):Prop extends PoolH L where
 w:∀ x∈L,ZiV x
 n:L.length<=100000
theorem ZmI (p:List Int) {L:List Zae} (hL:L.length<=100000) {idx:List (ByteArray×Int)} (hI:ZLV idx L) (n:Zae) (hn:ZiV n):Ret (F34 n.1 n.2.1 p n.2.2 L idx) (PR p (plM L n)):=by
 have l1:=ZdS hn.op.1 hn.op.2;have l2:=ZdS hn.imm.1 hn.imm.2;simp only [F34,ZCf _ hn.op.1 hn.op.2 [] (by simp),wq,reduceCtorEq,List.nil_append];refine ⟨fun _=>?_,fun h=>absurd h (by simp only [length_cons,length_nil];omega)⟩;rw [ZCf _ hn.imm.1 hn.imm.2 _ (by simp only [length_append,length_cons,length_nil];omega)];simp only [ZaH];refine Zac (fun q:Int×List Int×List Int×List Int×List Zae×List (ByteArray×Int)=>∃ j:Nat,j<=n.2.2.length/\q=((j:Int),p,n.2.2,ZgW n.1 (n.2.1::n.2.2.take j),L,idx)) (fun q=>n.2.2.length - q.1.toNat) ?_ _ ⟨0,by omega,by simp [ZgW,ZfT]⟩;rintro _ ⟨j,hj,rfl⟩;have hk:=hn.k;simp only [ZwQ,wq,reduceCtorEq];refine ⟨fun hlt=>Zaj (by omega) hlt fun y hy hm=>?_,fun hge=>?_⟩
 ·have hb:(ZgW n.1 (n.2.1::n.2.2.take j)).length<=30000:=by
   have h1:=Zm8 (l:=n.2.1::n.2.2.take j) (fun x hx=>by
    rcases mem_cons.1 hx with rfl | hx
    ·exact hn.imm
    ·exact hn.kid x (mem_of_mem_take hx))
   have h2:(n.2.2.take j).length<=1000:=by rw [length_take];omega
   simp only [length_cons] at h1;simp only [ZgW,length_append];omega
  simp only [Za4 hy];refine ⟨fun _=>?_,fun h=>absurd h (by simp only [length_cons,length_nil];omega)⟩;have hy':=hn.kid y hm;rw [ZCf _ hy'.1 hy'.2 _ (by simp only [length_append,length_cons,length_nil];omega)];have hw:=Zab j (by omega);simp only [ZaH,hw];refine ⟨⟨j+1,by omega,?_⟩,by omega⟩;rw [Zax] at hy;rw [take_add_one,hy];have e:ZgW n.1 (n.2.1::(n.2.2.take j++[y]))=ZgW n.1 (n.2.1::n.2.2.take j)++(32::ZeB y):=by simp [ZgW,ZfT]
  show _=((_:Int),p,n.2.2,ZgW n.1 (n.2.1::(n.2.2.take j++[y])),L,idx)
  rw [e];simp
 ·have:j=n.2.2.length:=by omega
  subst this;rw [take_length];have hg:Zc3 (ZaS .str) idx (ofB (ZgW n.1 (n.2.1::n.2.2)))=if n∈L then some (ZH4 L n) else none:=hI n
  have e3:(n.1,n.2.1,([]:List Int)++n.2.2)=n:=rfl;rw [hg,e3];by_cases hm:n∈L
  ·rw [if_pos hm];simp only [Option.isSome_some,getD_some,wq,reduceCtorEq];refine ⟨idx,?_,?_⟩
   ·show ZLV idx (ZHQ L n);unfold ZHQ;rw [if_pos hm];exact hI
   ·show _=(ZH4 L n,p,ZHQ L n,idx)
    unfold ZHQ;rw [if_pos hm]
  ·rw [if_neg hm];simp only [Option.isSome_none,wq,reduceCtorEq];refine ⟨fun _=>⟨fun _=>?_,fun h=>absurd h (by simp only [length_cons,length_nil];omega)⟩,fun h=>absurd h (by simp only [length_cons,length_nil];omega)⟩;refine ⟨ZfQ (ZaS .str) idx (Zvy n.1 n.2.1 n.2.2) (L.length:Int),?_,?_⟩
   ·show ZLV _ (ZHQ L n);unfold ZHQ;rw [if_neg hm];exact hI.snoc hm
   ·show _=(ZH4 L n,p,ZHQ L n,_)
    unfold ZHQ ZH4;rw [if_neg hm,if_neg hm];have:wrap .i64 (((L++[n]).length:Int) - 1)=(L.length:Int):=by
     rw [Zau (by simp<;>omega) (by simp<;>omega)];simp
    rw [this];rfl
theorem ZK8 {L:List Zae} {i:Int} (h:inR L.length i):gI L i=some (nA L i):=by
 obtain ⟨a,b⟩:=h;obtain ⟨k,rfl⟩:∃ k:Nat,i=k:=⟨i.toNat,by omega⟩
 rw [Zax];exact ZKS ⟨a,b⟩
theorem ZNG {n:Zae} {m:Nat} (hl:n.2.2.length=m) {k:Nat} (hk:k < m):gI n.2.2 (k:Int)=some (kk n k):=by
 rw [Zax];unfold kk;rw [getElem?_eq_getElem (by omega)];rfl
theorem ZLa {n:Zae} {m:Nat} (hl:n.2.2.length=m) (hk:0 < m):gI n.2.2 0=some (kk n 0):=ZNG hl hk
theorem ZLf {n:Zae} {m:Nat} (hl:n.2.2.length=m) (hk:1 < m):gI n.2.2 1=some (kk n 1):=ZNG hl hk
theorem ZO1 {n:Zae} {m:Nat} (hl:n.2.2.length=m) (hk:2 < m):gI n.2.2 2=some (kk n 2):=ZNG hl hk
theorem ZM4 {lens:List Int} {k:Int} (h:0<=k/\k < lens.length):gI lens k=some (atI lens k):=ZaB h
section
variable {L:List Zae} (hL:PoolH L) (p:List Int) (idx:List (ByteArray×Int))
include hL
theorem PoolH.two {i:Int} (hi:inR L.length i) {op:Int} (e:(nA L i).1=op) (ar:ZaY op=(((2:Nat):Int),true)):gI (nA L i).2.2 0=some (kk (nA L i) 0)/\gI (nA L i).2.2 1=some (kk (nA L i) 1)/\inR L.length (kk (nA L i) 0)/\inR L.length (kk (nA L i) 1):=by
 have ha:ZaY (nA L i).1=(((2:Nat):Int),true):=by rw [e];exact ar
 have hl:=hL.a _ (ZKF hi) 2 ha;exact ⟨ZLa hl (by omega),ZLf hl (by omega),hL.kidR hi ha (k:=0) (by omega),hL.kidR hi ha (k:=1) (by omega)⟩
theorem ZJo {i:Int} (h:inR L.length i) (n:Int):F54 i n p L idx=some (isC L i n,p,L,idx):=by
 simp only [F54,ZK8 h,bind_some,isC];cases hb:((nA L i).1==1)<;>simp [ZuN]
omit hL in
theorem Zz8 (k:Int):F56 k p L idx=some (if 0<=Zjl p k then Zjl p k else 0,decide (0<=Zjl p k),p,L,idx):=by
 simp only [F56];by_cases h0:k < 0
 ·have e:Zjl p k=-1:=by unfold Zjl;rw [if_neg (by omega)]
  simp [e,decide_eq_true h0,ZEj]
 ·rw [decide_eq_false h0];by_cases h1:k>=(p.length:Int)
  ·have e:Zjl p k=-1:=by unfold Zjl;rw [if_neg (by omega)]
   simp [e,decide_eq_true h1,ZEj]
  ·have e:Zjl p k=atI p k:=by unfold Zjl;rw [if_pos (by omega)]
   have g:=ZM4 (show 0<=k/\k < p.length by omega);simp only [decide_eq_false h1,cond_false,g,bind_some,Sum.elim_inl,e];by_cases h2:atI p k < 0
   ·rw [decide_eq_true h2,if_neg (by omega),decide_eq_false (by omega)];simp [ZEj]
   ·rw [decide_eq_false h2,if_pos (by omega),decide_eq_true (show 0<=atI p k by omega)];simp [ZEj,g]
theorem Zzj {c:Int} (hc:inR L.length c) (i k:Int):F37 c i k p L idx=some (inB L p c i k,p,L,idx):=by
 simp only [F37,ZK8 hc,Zz8,bind_some,inB];by_cases h0:0<=Zjl p k
 ·rw [decide_eq_true h0,if_pos h0];by_cases h1:(nA L c).1=19
  ·obtain ⟨a,b,r0,r1⟩:=hL.two hc h1 rfl;simp only [h1,a,b,bind_some,cond_true,beq_self_eq_true,Bool.true_and];by_cases h2:kk (nA L c) 0=i
   ·subst h2;simp [ZJo hL p idx r1,Z8S]
   ·have e2:(kk (nA L c) 0==i)=false:=by simpa using h2
    simp [e2,Z8S]
  ·have:((nA L c).1==19)=false:=by simpa using h1
   simp [this,Z8S]
 ·rw [decide_eq_false h0];simp [Z8S]
theorem Z6Y {m:Int} (hm:inR L.length m) (i k:Int):F55 m i k p L idx=some ((nA L m).1==20&&inB L p (kk (nA L m) 0) i k,p,L,idx):=by
 simp only [F55,ZK8 hm,bind_some];by_cases h1:(nA L m).1=20
 ·have ha:ZaY (nA L m).1=(((1:Nat):Int),true):=by rw [h1];rfl
  have hl:=hL.a _ (ZKF hm) 1 ha;simp [h1,ZLa hl,Zzj hL p idx (hL.kidR hm ha (k:=0) (by omega)),ZuW]
 ·have:((nA L m).1==20)=false:=by simpa using h1
  simp [this,ZuW]
def ZLW (L:List Zae) (d:Int):Int×Int×Bool:=match ZLG L d with
 | some (b,e)=>(b,e,true)
 | none=>(0,0,false)
theorem Z7l {d:Int} (hd:inR L.length d):F53 d p L idx=some ((ZLW L d).1,(ZLW L d).2.1,(ZLW L d).2.2,p,L,idx):=by
 refine Ret.eq ?_;simp only [F53,ZK8 hd,wq,reduceCtorEq];by_cases h4:(nA L d).1=4
 ·obtain ⟨a,b,r0,r1⟩:=hL.two hd h4 rfl;refine ⟨fun h=>absurd h4 h,fun _=>?_⟩;have w1:wrap .i64 (1 - 0)=1:=rfl;have w0:wrap .i64 (1 - 1)=0:=rfl
  -- one turn
  have turn:∀ (k:Int) (b e:Int),inR L.length e->gI (nA L d).2.2 k=some b->gI (nA L d).2.2 (wrap .i64 (1 - k))=some e->k < 2->∀ Q:(Int×List Int×List Zae×List (ByteArray×Int))⊕(Int×Int×Bool×List Int×List Zae×List (ByteArray×Int))->Prop,
   (zT L e b=true->Q (.inr (b,e,true,p,L,idx)))->(zT L e b=false->Q (.inl (wrap .i64 (k+1),p,L,idx)))->Ret (ZDn (nA L d) (k,p,L,idx)) Q:=by
   intro k b e he hb hbe hk Q q1 q2;simp only [ZDn,decide_eq_true hk,cond_true,hb,hbe,ZK8 he,bind_some];by_cases h15:(nA L e).1=15
   ·obtain ⟨a',b',r0',r1'⟩:=hL.two he h15 rfl;simp only [h15,beq_self_eq_true,cond_true,a',b',bind_some];by_cases e0:kk (nA L e) 0=b
    ·have ez:zT L e b=isC L (kk (nA L e) 1) 0:=by unfold zT;simp [h15,e0]
     rw [ez] at q1 q2;simp only [e0,beq_self_eq_true,cond_true,ZJo hL p idx r1',bind_some,Sum.elim_inl,ZDm];cases hz:isC L (kk (nA L e) 1) 0
     ·simpa [ZaH] using q2 hz
     ·simpa [ZaH] using q1 hz
    ·have ez:zT L e b=false:=by unfold zT;simp [e0]
     have e1:(kk (nA L e) 0==b)=false:=by simpa using e0
     simp only [e1,cond_false,bind_some,Sum.elim_inl,ZDm];simpa [ZaH] using q2 ez
   ·have ez:zT L e b=false:=by
     unfold zT;have:((nA L e).1==15)=false:=by simpa using h15
     simp [this]
    have e1:((nA L e).1==15)=false:=by simpa using h15
    simp only [e1,cond_false,bind_some,Sum.elim_inl,ZDm];simpa [ZaH] using q2 ez
  have ed:ZLW L d=(if zT L (kk (nA L d) 1) (kk (nA L d) 0)=true then (kk (nA L d) 0,kk (nA L d) 1,true) else if zT L (kk (nA L d) 0) (kk (nA L d) 1)=true then (kk (nA L d) 1,kk (nA L d) 0,true) else (0,0,false)):=by
   cases z1:zT L (kk (nA L d) 1) (kk (nA L d) 0)<;>cases z2:zT L (kk (nA L d) 0) (kk (nA L d) 1)<;>simp [ZLW,ZLG,h4,z1,z2]
  refine Zac (fun q:Int×List Int×List Zae×List (ByteArray×Int)=>∃ k:Nat,k<=2/\q=((k:Int),p,L,idx)/\(1<=k->zT L (kk (nA L d) 1) (kk (nA L d) 0)=false)/\(2<=k->zT L (kk (nA L d) 0) (kk (nA L d) 1)=false)) (fun q=>2 - q.1.toNat) ?_ _ ⟨0,by omega,rfl,(fun h=>by omega),fun h=>by omega⟩;rintro _ ⟨k,hk,rfl,k1,k2⟩;have hk3:k=0\/k=1\/k=2:=by omega
  rcases hk3 with rfl | rfl | rfl
  ·refine turn 0 _ _ r1 a b (by omega) _ (fun hz=>?_) (fun hz=>?_)
   ·rw [ed,if_pos hz];rfl
   ·exact ⟨⟨1,by omega,rfl,fun _=>hz,fun h=>by omega⟩,by show 2 - 1 < 2 - 0;omega⟩
  ·refine turn 1 _ _ r0 b a (by omega) _ (fun hz=>?_) (fun hz=>?_)
   ·rw [ed,if_neg (by simp [k1 (by omega)]),if_pos hz];rfl
   ·exact ⟨⟨2,by omega,rfl,fun _=>k1 (by omega),fun _=>hz⟩,by show 2 - 2 < 2 - 1;omega⟩
  ·simp only [ZDn,wq,reduceCtorEq];rw [ed,if_neg (by simp [k1 (by omega)]),if_neg (by simp [k2 (by omega)])];exact ⟨fun h=>by omega,fun _=>rfl⟩
 ·refine ⟨fun _=>?_,fun h=>absurd h h4⟩;unfold ZLW ZLG;rw [if_neg h4]
end
section
variable {L:List Zae} (hL:PoolH L) (p:List Int) (idx:List (ByteArray×Int))
include hL
theorem ZTy (rec:Int->Int->(List Int)->(List Int)->(List (Int×Int×List Int))->(List (ByteArray×Int))->Option (Int×List Int×(List (Int×Int×List Int))×List (ByteArray×Int))) {x m:Int} (hx:inR L.length x) (hm:inR L.length m):E36 rec x m p L idx=match ZLh L p x m with
 | none=>some (0,false,p,L,idx)
 | some n=>(rec n.1 n.2.1 p n.2.2 L idx).bind fun r=>some (r.1,true,r.2.1,r.2.2.1,r.2.2.2):=by
 simp only [E36,ZK8 hx,ZK8 hm,bind_some];by_cases h78:(nA L x).1=7\/(nA L x).1=8
 ·have ar:ZaY (nA L x).1=(((2:Nat):Int),true):=by rcases h78 with e | e<;>rw [e]<;>rfl
  obtain ⟨a,b,r0,r1⟩:=hL.two hx (op:=(nA L x).1) rfl ar;unfold ZLh;rw [if_pos h78];have e79:∀ {β:Type} (f:Bool->Option β),(bif (nA L x).1==7 then f true else f ((nA L x).1==8))=f true:=fun f=>by
   rcases h78 with e | e<;>simp [e]
  rw [e79 (fun z=>some (Sum.inl (z,p,L,idx)))];simp only [bind_some,Sum.elim_inl,ZD8,cond_true,a,b,Z7l hL p idx r1];unfold ZLW;cases hd:ZLG L (kk (nA L x) 1) with
  | none=>simp [ZDA,Z9P]
  | some be=>
   obtain ⟨b',e⟩:=be;dsimp only;by_cases h4:(nA L m).1=4
   ·obtain ⟨c,d,s0,s1⟩:=hL.two hm h4 rfl;simp only [h4,beq_self_eq_true,cond_true,c,d,bind_some];by_cases he:kk (nA L m) 0=e
    ·subst he;simp only [beq_self_eq_true,cond_true,ZJo hL p idx s1,bind_some,Sum.elim_inl,ZDA,true_and];cases hz:isC L (kk (nA L m) 1) (-1)
     ·simp [Z9P]
     ·simp only [cond_true,a,bind_some,if_true];cases rec (nA L x).1 (nA L x).2.1 p [kk (nA L x) 0,b'] L idx<;>simp [Z9P]
    ·have e2:(kk (nA L m) 0==e)=false:=by simpa using he
     rw [if_neg (fun h=>he h.2.1)];simp [e2,ZDA,Z9P]
   ·have e2:((nA L m).1==4)=false:=by simpa using h4
    rw [if_neg (fun h=>h4 h.1)];simp [e2,ZDA,Z9P]
 ·have e7:((nA L x).1==7)=false:=by simpa using fun e=>h78 (.inl e)
  have e8:((nA L x).1==8)=false:=by simpa using fun e=>h78 (.inr e)
  unfold ZLh;rw [if_neg h78];simp only [e7,e8,cond_false,bind_some,Sum.elim_inl,ZD8];by_cases h23:(nA L x).1=23
  ·obtain ⟨a,b,r0,r1⟩:=hL.two hx h23 rfl;rw [if_pos h23];simp only [h23,beq_self_eq_true,cond_true,b,ZK8 r1,bind_some];by_cases h9:(nA L (kk (nA L x) 1)).1=9
   ·obtain ⟨c,d,s0,s1⟩:=hL.two r1 h9 rfl;simp only [h9,beq_self_eq_true,cond_true,c,d,bind_some];by_cases hk:kk (nA L (kk (nA L x) 1)) 1=m
    ·simp only [hk,beq_self_eq_true,cond_true,Z6Y hL p idx hm,bind_some,Sum.elim_inl,ZD9,true_and];by_cases hz:(nA L m).1=20/\inB L p (kk (nA L m) 0) (kk (nA L (kk (nA L x) 1)) 0) (nA L x).2.1=true
     ·rw [if_pos hz];have:((nA L m).1==20&&inB L p (kk (nA L m) 0) (kk (nA L (kk (nA L x) 1)) 0) (nA L x).2.1)=true:=by rw [hz.2,hz.1];rfl
      simp only [this,cond_true,a,c,bind_some];cases rec 23 (nA L x).2.1 p [kk (nA L x) 0,kk (nA L (kk (nA L x) 1)) 0] L idx<;>simp [Z9P]
     ·rw [if_neg hz];have:((nA L m).1==20&&inB L p (kk (nA L m) 0) (kk (nA L (kk (nA L x) 1)) 0) (nA L x).2.1)=false:=by
       rw [Bool.eq_false_iff];intro h;rw [and_eq_true] at h;exact hz ⟨by simpa using h.1,h.2⟩
      simp only [this];simp [Z9P]
    ·have e2:(kk (nA L (kk (nA L x) 1)) 1==m)=false:=by simpa using hk
     rw [if_neg (fun h=>hk h.2.1)];simp [e2,ZD9,Z9P]
   ·have e2:((nA L (kk (nA L x) 1)).1==9)=false:=by simpa using h9
    rw [if_neg (fun h=>h9 h.1)];simp [e2,ZD9,Z9P]
  ·have e2:((nA L x).1==23)=false:=by simpa using h23
   rw [if_neg h23];simp [e2,Z9P]
end
structure ZLt (L:List Zae) (n:Zae):Prop where
 w:ZiV n
 k:∀ q∈n.2.2,inR L.length q
 a:∀ m:Nat,ZaY n.1=((m:Int),true)->n.2.2.length=m
def ImZ (n:Zae):Prop:=n.1=5\/n.1=7\/n.1=8->n.2.1=0
theorem ZM5 {L:List Zae} (hL:ZLs L) {q:Int} (h:inR L.length q):I64 q:=by
 have:=hL.n;have:=h.1;have:=h.2;constructor<;>omega
section
variable {L:List Zae} (hL:ZLs L) (p:List Int)
include hL
theorem ZLi {n:Zae} (hn:ZLt L n) (h4:n.1=4):ZLt L (ZLe L n):=by
 obtain ⟨f1,f2⟩:=ZLk (L:=L) h4 (hn.a 2 (by rw [h4];rfl)) hn.k;refine ⟨?_,f1,f2⟩;unfold ZLe;split
 ·refine ⟨?_,hn.w.imm,by show 2<=1000;omega,fun x hx=>?_⟩
  ·show I64 4;constructor<;>omega
  ·have hl:=hn.a 2 (by rw [h4];rfl);have k0:=hn.k _ (ZK6 (k:=0) hl (by omega));have k1:=hn.k _ (ZK6 (k:=1) hl (by omega));rcases mem_cons.1 hx with rfl | hx
   ·exact ZM5 hL k1
   ·rw [mem_singleton.1 hx];exact ZM5 hL k0
 ·exact hn.w
theorem ZLu {a m:Int} {n:Zae} (ha:inR L.length a) (hx:ZLh L p a m=some n):ZLt L n:=by
 obtain ⟨x1,x2,x3,x4⟩:=ZKW hL.toPoolH ha hx;have hw:=hL.w _ (ZKF ha);refine ⟨⟨?_,by rw [x3];exact hw.imm,by omega,fun q hq=>ZM5 hL (x4 q hq).1⟩,fun q hq=>(x4 q hq).1,fun k hk=>?_⟩
 ·rcases x1 with e | e | e<;>rw [e]<;>constructor<;>omega
 ·rcases x1 with e | e | e<;>rw [e] at hk<;>simp [ZaY] at hk<;>omega
omit hL in
theorem ZNH {L:List Zae} (n:Zae):(plM L n).2.length<=L.length+1:=ZHl L n
theorem ZLS {n:Zae} (hn:ZiV n):∀ x∈(plM L n).2,ZiV x:=fun x hx=>by
 have hx:x∈ZHQ L n:=hx;unfold ZHQ at hx;split at hx
 ·exact hL.w x hx
 ·rcases mem_append.1 hx with hx | hx
  ·exact hL.w x hx
  ·rw [mem_singleton.1 hx];exact hn
theorem ZKP {n:Zae} (hn:ZLt L n) (hb:L.length < 100000):ZLs (plM L n).2:=
 ⟨(ZKT hL.toPoolH hn.k hn.a).p,ZLS hL hn.w,by have:=ZNH (L:=L) n;omega⟩
theorem ZLI {c:Zae} (hc:ZLt L c) (hb:L.length < 100000) {q:Int} (hq:inR L.length q):ZLt (plM L c).2 (4,0,[q,(plM L c).1]):=by
 obtain ⟨c1,c2,c3,⟨es,c4⟩⟩:=ZKT hL.toPoolH hc.k hc.a;have hW:=ZKP hL hc hb;have hk:∀ x∈[q,(plM L c).1],inR (plM L c).2.length x:=fun x hx=>by
  rcases mem_cons.1 hx with rfl | hx
  ·exact ⟨hq.1,by rw [c4,length_append];have:=hq.2;omega⟩
  ·rw [mem_singleton.1 hx];exact c2
 refine ⟨⟨by show I64 4;constructor<;>omega,by show I64 0;constructor<;>omega,by show 2<=1000;omega,fun x hx=>ZM5 hW (hk x hx)⟩,hk,fun m hm=>?_⟩;have:ZaY 4=((m:Int),true):=hm;simp [ZaY] at this;show 2=m;omega
variable {idx:List (ByteArray×Int)} (hI:ZLV idx L)
include hI
theorem ZSK (rec) {n:Zae} (hn:ZLt L n) (h4:n.1≠4) (h5:n.1≠5) (h9:n.1≠9) (h22:n.1≠22):Ret (G17 rec n.1 n.2.1 p n.2.2 L idx) (PR p (plM L n)):=by
 have e4:(n.1==4)=false:=by simpa using h4
 have e5:(n.1==5)=false:=by simpa using h5
 have e9:(n.1==9)=false:=by simpa using h9
 have e22:(n.1==22)=false:=by simpa using h22
 simp only [G17,e4,e5,e9,e22,cond_false,Z8T,wq,reduceCtorEq];exact ZmI p hL.n hI n hn.w
theorem ZSm (rec) {n:Zae} (hn:ZLt L n) (h4:n.1=4):Ret (G17 rec n.1 n.2.1 p n.2.2 L idx) (PR p (plM L (ZLe L n))):=by
 have hl:=hn.a 2 (by rw [h4];rfl);have r0:=hn.k _ (ZK6 (k:=0) hl (by omega));have r1:=hn.k _ (ZK6 (k:=1) hl (by omega));have hf:=ZLi hL hn h4;have pl:=ZmI p hL.n hI (ZLe L n) hf.w;unfold ZLe at pl |-
 obtain ⟨op,imm,kids⟩:=n;dsimp only at h4;subst h4;have g0:gI kids 0=some (kk (4,imm,kids) 0):=ZLa hl (by omega);have g1:gI kids 1=some (kk (4,imm,kids) 1):=ZLf hl (by omega);simp only [G17,g0,g1,ZK8 r0,ZK8 r1,bind_some,beq_self_eq_true,cond_true];by_cases h1:(nA L (kk (4,imm,kids) 0)).1=1
 ·by_cases h2:(nA L (kk (4,imm,kids) 1)).1=1
  ·by_cases h3:(nA L (kk (4,imm,kids) 0)).2.1 > (nA L (kk (4,imm,kids) 1)).2.1
   ·rw [if_pos ⟨h1,.inr h3⟩] at pl |-
    simp only [h1,h2,h3,beq_self_eq_true,bne_self_eq_false,decide_true,cond_true,cond_false,Z8T,Z8m,g0,g1,wq,reduceCtorEq];exact pl
   ·rw [if_neg (fun h=>h.2.elim (fun e=>e h2) h3)] at pl |-
    simp only [h1,h2,h3,beq_self_eq_true,bne_self_eq_false,decide_false,cond_true,cond_false,Z8T,Z8m,g0,g1,wq,reduceCtorEq];exact pl
  ·rw [if_pos ⟨h1,.inl h2⟩] at pl |-
   have e2:((nA L (kk (4,imm,kids) 1)).1 != 1)=true:=by simpa using h2
   simp only [h1,e2,beq_self_eq_true,cond_true,Z8T,Z8m,g0,g1,wq,reduceCtorEq];exact pl
 ·rw [if_neg (fun h=>h1 h.1)] at pl |-
  have e1:((nA L (kk (4,imm,kids) 0)).1==1)=false:=by simpa using h1
  simp only [e1,cond_false,Z8T,Z8m,g0,g1,wq,reduceCtorEq];exact pl
theorem ZTz (k:Nat) {n:Zae} (hn:ZLt L n) (hb:L.length < 100000):Ret (N17 (k+2) n.1 n.2.1 p n.2.2 L idx) (PR p (inM p L n)):=by
 show Ret (G17 (N17 (k+1)) n.1 n.2.1 p n.2.2 L idx) (PR p (inM p L n));have pl:=ZmI p hL.n hI n hn.w;unfold inM;split
 ·rename_i h4;exact ZSm hL p hI _ hn h4
 ·rename_i h4;have e4:(n.1==4)=false:=by simpa using h4
  by_cases h5:n.1=5
  ·have hl:=hn.a 2 (by rw [h5];rfl);have r0:=hn.k _ (ZK6 (k:=0) hl (by omega));have r1:=hn.k _ (ZK6 (k:=1) hl (by omega));have e5:(n.1==5)=true:=by simpa using h5
   simp only [G17,e4,e5,ZLa hl (by omega),ZLf hl (by omega),ZK8 r0,ZK8 r1,bind_some,cond_true,cond_false];by_cases h1:(nA L (kk n 1)).1=1
   ·rw [if_pos ⟨h5,h1⟩];have i1:=hL.w _ (ZKF r1);have wI:∀ x:Int,I64 (wrap .i64 x):=fun x=>by
     exact ZLB x
    have hc:ZLt L (1,wrap .i64 (-(nA L (kk n 1)).2.1),[]):=by
     refine ⟨⟨by show I64 1;constructor<;>omega,wI _,by simp,(fun x hx=>by cases hx)⟩,(fun q hq=>by cases hq),fun m hm=>?_⟩;have:ZaY 1=((m:Int),true):=hm;simp [ZaY] at this;show 0=m;omega
    have plc:=ZmI p hL.n hI _ hc.w;obtain ⟨c1,c2,c3,⟨es,c4⟩⟩:=ZKT hL.toPoolH hc.k hc.a;simp only [h1,beq_self_eq_true,cond_true,F35,Int.zero_sub,wq,reduceCtorEq];refine Ret.mono plc fun r _ ⟨idx',hI',hr⟩=>?_;subst hr;dsimp only;have hL2:ZLs (plM L (1,wrap .i64 (-(nA L (kk n 1)).2.1),[])).2:=ZKP hL hc hb;have hf2:ZLt (plM L (1,wrap .i64 (-(nA L (kk n 1)).2.1),[])).2 (4,0,[kk n 0,(plM L (1,wrap .i64 (-(nA L (kk n 1)).2.1),[])).1]):=ZLI hL hc hb r0;exact ZSm hL2 p hI' _ hf2 rfl
   ·rw [if_neg (fun h=>h1 h.2),if_neg (by omega),if_neg (fun h=>by have:=h.1;omega)];have e1:((nA L (kk n 1)).1==1)=false:=by simpa using h1
    simp only [e1,cond_false,Z8T,wq,reduceCtorEq];exact pl
  ·have e5:(n.1==5)=false:=by simpa using h5
   rw [if_neg (fun h=>h5 h.1)];by_cases h9:n.1=9
   ·have hl:=hn.a 2 (by rw [h9];rfl);have r0:=hn.k _ (ZK6 (k:=0) hl (by omega));have r1:=hn.k _ (ZK6 (k:=1) hl (by omega));have e9:(n.1==9)=true:=by simpa using h9
    rw [if_pos h9];simp only [G17,e4,e5,e9,ZLa hl (by omega),ZLf hl (by omega),bind_some,cond_true,cond_false,ZTy hL.toPoolH p idx _ r0 r1];cases hx:ZLh L p (kk n 0) (kk n 1) with
    | none=>
     simp only [Z8T,wq,reduceCtorEq];exact pl
    | some x=>
     have hf:=ZLu hL p r0 hx;obtain ⟨x1,_⟩:=ZKW hL.toPoolH r0 hx;have:=ZSK hL p hI (N17 k) hf (by omega) (by omega) (by omega) (by omega);simp only [wq,reduceCtorEq];exact Ret.mono this fun r _ h=>h
   ·have e9:(n.1==9)=false:=by simpa using h9
    rw [if_neg h9];by_cases h22:n.1=22
    ·have hl:=hn.a 3 (by rw [h22];rfl);have r0:=hn.k _ (ZK6 (k:=0) hl (by omega));have r1:=hn.k _ (ZK6 (k:=1) hl (by omega));have e22:(n.1==22)=true:=by simpa using h22
     simp only [G17,e4,e5,e9,e22,ZLa hl (by omega),ZLf hl (by omega),ZO1 hl (by omega),bind_some,cond_true,cond_false];by_cases h12:kk n 1=kk n 2
     ·rw [if_pos ⟨h22,.inl h12⟩];have e12:(kk n 1==kk n 2)=true:=by simpa using h12
      simp only [e12,cond_true,wq,reduceCtorEq];exact ⟨idx,hI,rfl⟩
     ·have e12:(kk n 1==kk n 2)=false:=by simpa using h12
      simp only [e12,cond_false,ZK8 r1,bind_some];by_cases h28:(nA L (kk n 1)).1=28
      ·have ar:ZaY (nA L (kk n 1)).1=(((3:Nat):Int),true):=by rw [h28];rfl
       have hl2:=hL.a _ (ZKF r1) 3 ar;simp only [h28,beq_self_eq_true,cond_true,ZLa hl2 (by omega),ZLf hl2 (by omega),bind_some];by_cases h3:kk (nA L (kk n 1)) 0=kk n 2
       ·have e3:(kk (nA L (kk n 1)) 0==kk n 2)=true:=by simpa using h3
        simp only [e3,cond_true,Zzj hL.toPoolH p idx r0,bind_some,Sum.elim_inl,ZML];cases hb:inB L p (kk n 0) (kk (nA L (kk n 1)) 1) (nA L (kk n 1)).2.1
        ·rw [if_neg (by rintro ⟨_,h | ⟨_,_,h⟩⟩;exact h12 h;cases h)];simp only [Z8T,wq,reduceCtorEq];exact pl
        ·rw [if_pos ⟨h22,.inr ⟨trivial,h3,rfl⟩⟩];simp only [wq,reduceCtorEq];exact ⟨idx,hI,rfl⟩
       ·have e3:(kk (nA L (kk n 1)) 0==kk n 2)=false:=by simpa using h3
        rw [if_neg (by rintro ⟨_,h | ⟨_,h,_⟩⟩;exact h12 h;exact h3 h)];simp only [e3,Z8T,ZML,wq,reduceCtorEq];exact pl
      ·have e28:((nA L (kk n 1)).1==28)=false:=by simpa using h28
       rw [if_neg (by rintro ⟨_,h | ⟨h,_⟩⟩;exact h12 h;exact h28 h)];simp only [e28,Z8T,ZML,wq,reduceCtorEq];exact pl
    ·rw [if_neg (fun h=>h22 h.1)];exact ZSK hL p hI _ hn h4 h5 h9 h22
end
section
variable {L:List Zae} (hL:ZLs L) (p:List Int)
include hL
end
theorem ZNI {L:List Zae} {p:List Int} {n:Zae} (hL:PoolH L) (hn:ZLt L n) (hz:ImZ n) (hzL:∀ x∈L,ImZ x):∀ x∈(inM p L n).2,ImZ x:=by
 have pl:∀ {M:List Zae} {c:Zae},(∀ x∈M,ImZ x)->ImZ c->∀ x∈(plM M c).2,ImZ x:=fun {M c} hM hc x hx=>by
  have hx:x∈ZHQ M c:=hx;unfold ZHQ at hx;split at hx
  ·exact hM x hx
  ·rcases mem_append.1 hx with hx | hx
   ·exact hM x hx
   ·rw [mem_singleton.1 hx];exact hc
 have ad:∀ {M:List Zae} {c:Zae},(∀ x∈M,ImZ x)->c.1=4->∀ x∈(plM M (ZLe M c)).2,ImZ x:=fun {M c} hM hc=>pl hM (by
  unfold ZLe;split
  ·intro h;rcases h with h | h | h<;>(exfalso;revert h;show ¬ (4:Int)=_;omega)
  ·intro h;omega)
 unfold inM;split
 ·rename_i h4;exact ad hzL h4
 ·split
  ·exact ad (pl hzL (by intro h;rcases h with h | h | h<;>(exfalso;revert h;show ¬ (1:Int)=_;omega))) rfl
  ·split
   ·rename_i h9;have hl:=hn.a 2 (by rw [h9];rfl);have r0:=hn.k _ (ZK6 (k:=0) hl (by omega));cases hx:ZLh L p (kk n 0) (kk n 1) with
    | none=>exact pl hzL hz
    | some x=>
     obtain ⟨x1,x2,x3,x4⟩:=ZKW hL r0 hx;refine pl hzL fun h=>?_;rw [x3];have:=hzL _ (ZKF r0);unfold ZLh at hx;split at hx
     ·exact this (.inr (by assumption))
     ·split at hx
      ·split at hx
       ·cases hx;rcases h with h | h | h<;>(exfalso;revert h;show ¬ (23:Int)=_;omega)
       ·cases hx
      ·cases hx
   ·split
    ·exact hzL
    ·exact pl hzL hz
structure ZMW (i:Nat) (x:Zae):Prop where
 k:∀ q∈x.2.2,0<=q/\q < i
 a:∀ m:Nat,ZaY x.1=((m:Int),true)->x.2.2.length=m
 i:Zfk x.1 x.2.1=true
theorem ZL4 {l:List Zae} (hG:GraphH l) {i:Nat} {x:Zae} (hx:l[i]?=some x) (h1:atI (Zam l l.length) i≠0):ZMW i x:=by
 have hi:=ZaA hx;have h2:(Zam l l.length)[i]?=some (Zbu l (Zam l i) i x):=by
  rw [Zek l i l.length hi];have hl:=ZaK l i;show (Zam l i++[match l[i]? with | some n=>Zbu l (Zam l i) i n | none=>0])[i]?=_;rw [getElem?_append_right (by omega),hl,hx];simp
 have h3:atI (Zam l l.length) i=Zbu l (Zam l i) i x:=by unfold atI;rw [toNat_natCast,h2];rfl
 rw [h3] at h1;have h4:okK (Zam l i) i x=true:=by
  cases h:okK (Zam l i) i x
  ·unfold Zbu at h1;rw [h] at h1;exact absurd rfl h1
  ·rfl
 have hT:Zlj l x (kS (Zam l i) x):=Zgh hG hx (fun j a b hj ha hb=>Zej hG i j a b ha hb) (by rw [ZaK];exact le_refl _) h4;have hns:nsM l x (kS (Zam l i) x)≠0:=by unfold Zbu at h1;rw [h4] at h1;exact h1
 have he:=hT.ns;generalize kS (Zam l i) x=k at *;refine ⟨fun q hq=>?_,fun m hm=>?_,?_⟩
 ·unfold okK at h4;have:=all_eq_true.1 h4 q hq;unfold okQ at this;simp only [and_eq_true,decide_eq_true_eq] at this;exact this.1
 ·by_cases hl:x.2.2.length=m
  ·exact hl
  exfalso;have ht:ZRq l x k true=some 0:=rfl;have e1:((x.2.2.length:Int) != (m:Int))=true:=by simpa using fun e:(x.2.2.length:Int)=m=>hl (by omega)
  have e2:decide ((m:Int)>=0)=true:=decide_eq_true (by omega);have:F50 l x k=some 0:=by
   simp only [F50,Z6K,hm,bind_some,Bool.not_true,cond_false,e2,cond_true,e1,Sum.elim_inl,ht]
  rw [this] at he;exact hns (Option.some.inj he).symm
 ·cases hb:Zfk x.1 x.2.1
  ·exfalso;have ht:ZRq l x k true=some 0:=rfl;have:F50 l x k=some 0:=by
    have h:Ret (F50 l x k) fun a=>a=0:=by
     simp only [F50,Z6K,ZAN,hb,ht,wq,reduceCtorEq]
     repeat' first | apply And.intro | intro _ | trivial
    exact h.eq
   rw [this] at he;exact hns (Option.some.inj he).symm
  ·rfl
theorem ZO6 {x:Zae} (h:Zfk x.1 x.2.1=true):ImZ x:=by
 intro hh;unfold Zfk at h;rw [decide_eq_true_eq] at h;rcases hh with e | e | e<;>rw [e] at h<;>simp at h<;>omega
theorem ZTa (l:List Zae) (h:GraphH l) (i:Int):F15 l i=some (ZfU (Zam l l.length) i):=by
 by_cases hi:inR l.length i
 ·obtain ⟨j,rfl⟩:∃ j:Nat,i=j:=⟨i.toNat,by have:=hi.1;omega⟩
  have hj:j < l.length:=by have:=hi.2;omega
  rw [ZJq l h j hj];unfold ZfU;rw [if_pos (by rw [ZaK];exact hi)]
 ·unfold ZfU;rw [if_neg (by rw [ZaK];exact hi)];simp only [F15];by_cases h0:i < 0
  ·simp [decide_eq_true h0,ZS5]
  ·have h1:i>=(l.length:Int):=by
    have:¬ (0<=i/\i < l.length):=hi;omega
   simp [decide_eq_false h0,decide_eq_true h1,ZS5]
structure ZL5 (i:Nat) (nums:List Int) (p:List Int) (L:List Zae):Prop where
 len:nums.length=i
 W:ZLs L
 sz:L.length<=2 * i
 z:∀ x∈L,ImZ x
 irr:ZNR p L
 nd:L.Nodup
 hb:∀ q∈nums,HB L i q
theorem ZP2 {L:List Zae} (hL:ZLs L) (hb:L.length < 100000) {p:List Int} {n:Zae} (hn:ZLt L n):∀ x∈(inM p L n).2,ZiV x:=by
 unfold inM;split
 ·rename_i h4;exact ZLS hL (ZLi hL hn h4).w
 ·split
  ·rename_i h4 h5;have hl:=hn.a 2 (by rw [h5.1];rfl);have r0:=hn.k _ (ZK6 (k:=0) hl (by omega));have hc:ZLt L (1,wrap .i64 (-(nA L (kk n 1)).2.1),[]):=by
    refine ⟨⟨by show I64 1;constructor<;>omega,ZLB _,by simp,(fun x hx=>by cases hx)⟩,(fun q hq=>by cases hq),fun m hm=>?_⟩;have:ZaY 1=((m:Int),true):=hm;simp [ZaY] at this;show 0=m;omega
   exact ZLS (ZKP hL hc hb) (ZLi (ZKP hL hc hb) (ZLI hL hc hb r0) rfl).w
  ·split
   ·rename_i h9;have hl:=hn.a 2 (by rw [h9];rfl);have r0:=hn.k _ (ZK6 (k:=0) hl (by omega));cases hx:ZLh L p (kk n 0) (kk n 1) with
    | none=>exact ZLS hL hn.w
    | some x=>exact ZLS hL (ZLu hL p r0 hx).w
   ·split
    ·exact hL.w
    ·exact ZLS hL hn.w
theorem ZM9 {i:Nat} {nums p:List Int} {L:List Zae} (h:ZL5 i nums p L) {x:Zae} (hs:ZMW i x) (hw:ZiV x):ZLt L (x.1,x.2.1,x.2.2.map (atI nums)):=by
 have hq:∀ q∈x.2.2,atI nums q∈nums:=fun q hq=>by
  obtain ⟨a,b⟩:=hs.k q hq;unfold atI;rw [getElem?_eq_getElem (by rw [h.len];omega)];exact getElem_mem _
 have hk:∀ q∈x.2.2.map (atI nums),inR L.length q:=fun q hq'=>by
  obtain ⟨r,hr,rfl⟩:=mem_map.1 hq';exact (h.hb _ (hq r hr)).r
 refine ⟨⟨hw.op,hw.imm,by rw [length_map];exact hw.k,fun q hq'=>ZM5 h.W (hk q hq')⟩,hk,fun m hm=>?_⟩;rw [length_map];exact hs.a m hm
theorem ZL5.step {i:Nat} {nums p:List Int} {L:List Zae} (h:ZL5 i nums p L) (hi:i<=10000) {x:Zae} (hs:ZMW i x) (hw:ZiV x):ZL5 (i+1) (ZLQ p (nums,L) x).1 p (ZLQ p (nums,L) x).2:=by
 have hf:=ZM9 h hs hw;have hr:=ZOy h.W.toPoolH p hf.k hf.a;have hb:L.length < 100000:=by have:=h.sz;omega
 obtain ⟨es,he⟩:=hr.e;have hq:∀ q∈x.2.2,atI nums q∈nums:=fun q hq=>by
  obtain ⟨a,b⟩:=hs.k q hq;unfold atI;rw [getElem?_eq_getElem (by rw [h.len];omega)];exact getElem_mem _
 have hbk:∀ q∈x.2.2.map (atI nums),HB L i q:=fun q hq'=>by
  obtain ⟨r,hr,rfl⟩:=mem_map.1 hq';exact h.hb _ (hq r hr)
 have hz:ImZ (x.1,x.2.1,x.2.2.map (atI nums)):=ZO6 hs.i;have hn:=hr.n;refine ⟨?_,⟨hr.p,ZP2 h.W hb hf,?_⟩,?_,ZNI h.W.toPoolH hf hz h.z,ZMU h.W.toPoolH h.irr hf.k hf.a,ZM2 h.nd _,fun q hq'=>?_⟩
 ·show (nums++[_]).length=i+1;rw [length_append,h.len];rfl
 ·have:=h.sz;show (inM p L (x.1,x.2.1,x.2.2.map (atI nums))).2.length<=100000;omega
 ·have:=h.sz;show (inM p L (x.1,x.2.1,x.2.2.map (atI nums))).2.length<=2 * (i+1);omega
 ·rcases mem_append.1 hq' with hq' | hq'
  ·show HB (inM p L _).2 (i+1) q;rw [he];exact ((h.hb q hq').app es).mono (by omega)
  ·rw [mem_singleton.1 hq'];exact ZOz h.W.toPoolH p hbk hf.a
theorem ZL5.zero (p:List Int):ZL5 0 [] p []:=⟨rfl,⟨PoolH.nil,(fun x h=>by cases h),by simp⟩,by simp,(fun x h=>by cases h),(fun x h=>by cases h),List.nodup_nil,fun q h=>by cases h⟩
theorem ZLb {p:List Int} {l:List Zae} {i:Nat} {x:Zae} (hx:l[i]?=some x):ZK7 p (l.take (i+1))=ZLQ p (ZK7 p (l.take i)) x:=by
 unfold ZK7;rw [take_add_one,hx,List.foldl_append];rfl
def ZO7 (l:List Zae):Prop:=∀ (i:Nat) x,l[i]?=some x->ZMW i x
theorem ZLw {p:List Int} {l:List Zae} (hs:ZO7 l) (hw:∀ x∈l,ZiV x) (hl:l.length≤10000):∀ i≤l.length,ZL5 i (ZK7 p (l.take i)).1 p (ZK7 p (l.take i)).2
 | 0,_=>by
  have:ZK7 p (l.take 0)=([],[]):=by simp [ZK7]
  rw [this];exact ZL5.zero p
 | i+1,hi=>by
  obtain ⟨x,hx⟩:=ZeS (l:=l) (i:=i) (by omega);rw [ZLb hx];exact (ZLw hs hw hl i (by omega)).step (by omega) (hs i x hx) (hw x (mem_of_getElem? hx))
end Go.Dat
namespace Go.Dat
open Go.Eng
def negs (num:List Int):Nat:=num.countP fun x=>decide (x < 0)
theorem ZMX {num:List Int} {i:Int} (hi:inR num.length i) (h:atI num i < 0) {v:Int} (hv:0<=v):negs (Zaq num i v)+1=negs num:=by
 have h1:=hi.1;have h2:=hi.2
 have hl:i.toNat < num.length:=by omega
 have hx:num[i.toNat] < 0:=by unfold atI at h;rw [getElem?_eq_getElem hl] at h;exact h
 have hp:0 < negs num:=List.countP_pos_iff.2 ⟨_,getElem_mem hl,by simpa using hx⟩;unfold negs at hp |-
 unfold Zaq;rw [List.countP_set hl];simp only [hx,decide_true,if_true];rw [if_neg (by simpa using hv)];omega
mutual
theorem Z2p.negs {L:List Zae} (hL:PoolH L):∀ {i:Int} {num:List Int} {out:List Zae} {num':List Int} {out':List Zae},Z2p L i num out num' out'->inR L.length i->num.length=L.length->out'.length+Go.Dat.negs num'=out.length+Go.Dat.negs num
 | i,num,out,_,_,.old h,hi,hn=>rfl
 | i,num,out,_,_,.new (num':=num') (out':=out') (ks:=ks) h k,hi,hn=>by
  have hk:∀ q∈(nA L i).2.2,inR L.length q/\q<=i - 1:=fun q hq=>by
   have:=hL.k _ _ (ZKS hi) q hq;have h1:=hi.1;have h2:=hi.2
   exact ⟨⟨this.1,by omega⟩,by omega⟩
  have kp:=ZKG.kp hL (i - 1) k hk hn;have ih:=ZKG.negs hL k (fun q hq=>(hk q hq).1) hn;have hneg:atI num' i < 0:=by rw [kp.above i (by omega)];exact h
  have:=ZMX (num:=num') (i:=i) (by rw [kp.len];exact hi) hneg (v:=(out'.length:Int)) (by omega);simp only [length_append,List.length_singleton];omega
theorem ZKG.negs {L:List Zae} (hL:PoolH L):∀ {qs:List Int} {num:List Int} {out:List Zae} {ks:List Int} {num':List Int} {out':List Zae},ZKG L qs num out ks num' out'->(∀ q∈qs,inR L.length q)->num.length=L.length->out'.length+Go.Dat.negs num'=out.length+Go.Dat.negs num
 | _,num,out,_,_,_,.nil,_,hn=>rfl
 | _,num,out,_,_,_,.cons (q:=q) (qs:=qs) (num1:=num1) h k,hq,hn=>by
  have q0:=hq q (by simp);have kp1:=(Z2p.kp hL h q0 hn).1;have a:=Z2p.negs hL h q0 hn;have b:=ZKG.negs hL k (fun x hx=>hq x (by simp [hx])) kp1.len;omega
end
theorem ZKG.klen {L:List Zae}:∀ {qs:List Int} {num:List Int} {out:List Zae} {ks:List Int} {num':List Int} {out':List Zae},ZKG L qs num out ks num' out'->ks.length=qs.length
 | _,_,_,_,_,_,.nil=>rfl
 | _,_,_,_,_,_,.cons h k=>by rw [length_cons,length_cons,ZKG.klen k]
section
variable {L:List Zae} (hL:ZLs L) (p:List Int)
include hL
theorem ZSn (idx:List (ByteArray×Int)):∀ (fuel b:Nat),b<=fuel->∀ (i:Int),HB L b i->∀ (num:List Int) (out:List Zae),num.length=L.length->out.length+negs num<=200000->Ret (N38 fuel i num p out L idx) fun r=>∃ num' out',Z2p L i num out num' out'/\r=(num',p,out',L,idx)
 | 0,b,hb,i,hi,num,out,hn,hs=>by cases hi;omega
 | fuel+1,b,hb,i,hi,num,out,hn,hs=>by
  have hr:=hi.r;have hrn:inR num.length i:=by rw [hn];exact hr
  have hk:∀ q∈(nA L i).2.2,inR L.length q/\q<=i - 1:=fun q hq=>by
   have:=hL.k _ _ (ZKS hr) q hq;have h1:=hr.1;have h2:=hr.2
   exact ⟨⟨this.1,by omega⟩,by omega⟩
  have hkw:=(hL.w _ (ZKF hr)).k;show Ret (G38 (N38 fuel) i num p out L idx) _;simp only [G38,ZaB hrn,ZK8 hr,wq,reduceCtorEq];refine ⟨fun h=>⟨num,out,.old h,rfl⟩,fun h=>?_⟩;refine Zac (fun q:Int×List Int×List Int×List Int×List Zae×List Zae×List (ByteArray×Int)=>∃ (k:Nat) (ks num1:List Int) (out1:List Zae),k<=(nA L i).2.2.length/\ZKG L ((nA L i).2.2.take k) num out ks num1 out1/\q=((k:Int),ks,num1,p,out1,L,idx)) (fun q=>(nA L i).2.2.length - q.1.toNat) ?_ _ ⟨0,[],num,out,by omega,by simpa using ZKG.nil,rfl⟩;rintro _ ⟨k,ks,num1,out1,hk1,hv,rfl⟩;have hw:=Zab k (by omega);have kp1:=ZKG.kp hL.toPoolH (i - 1) hv (fun q hq=>hk q (mem_of_mem_take hq)) hn;have ng1:=ZKG.negs hL.toPoolH hv (fun q hq=>(hk q (mem_of_mem_take hq)).1) hn;have kl:=hv.klen;rw [length_take] at kl;simp only [Zx2,wq,reduceCtorEq,hw];refine ⟨fun hlt=>Zaj (by omega) hlt fun y hy hym=>?_,fun hge=>?_⟩
  ·rw [Zax] at hy;obtain ⟨c,rfl,hc⟩:=hi.kid hym;refine Ret.mono (ZSn idx fuel c (by omega) y hc num1 out1 kp1.len (by omega)) fun r _ ⟨num2,out2,hv2,hr2⟩=>?_;subst hr2;obtain ⟨kp2,p2⟩:=Z2p.kp hL.toPoolH hv2 hc.r kp1.len;have g2:gI num2 y=some (atI num2 y):=ZaB (by rw [kp2.len];exact hc.r);simp only [g2,wq,reduceCtorEq];refine ⟨fun _=>⟨⟨k+1,ks++[atI num2 y],num2,out2,by omega,?_,rfl⟩,by omega⟩,fun h=>absurd h (by simp only [length_cons,length_nil];omega)⟩;rw [take_add_one,hy];exact hv.snoc hv2
  ·have hkk:k=(nA L i).2.2.length:=by omega
   subst hkk;rw [take_length] at hv;have g2:gI num1 i=some (atI num1 i):=ZaB (by rw [kp1.len];exact hr);simp only [g2,wq,reduceCtorEq];refine ⟨fun _=>⟨_,_,.new (by omega) hv,rfl⟩,fun h=>absurd h (by simp only [length_cons,length_nil];omega)⟩
theorem ZCn (idx:List (ByteArray×Int)) {b:Nat} (hb:b<=3000) {v s:Int} (hv:HB L b v) (hs:HB L b s):Ret (F18 v s p L idx) fun r=>ZNv L v s r.2.2 r.1 r.2.1:=by
 have hn:=hL.n;simp only [F18,wq,reduceCtorEq];refine ⟨fun _=>?_,fun h=>absurd h (by omega)⟩;refine Zac (fun q:Int×List Int×List Int×List Zae×List (ByteArray×Int)=>∃ (k:Nat) (num:List Int),k<=L.length/\num.length=L.length/\(∀ j:Nat,j < k->num[j]?=some (-1))/\q=((k:Int),p,num,L,idx)) (fun q=>L.length - q.1.toNat) ?_ _ ⟨0,_,by omega,by simp,(fun j hj=>by omega),rfl⟩;rintro _ ⟨k,num,hk,hl,hj,rfl⟩;have hw:=Zab k (by omega);simp only [ZAc,wq,reduceCtorEq,hw,List.length_replicate,toNat_natCast];refine ⟨fun hlt=>?_,fun hge=>?_⟩
 ·have hr:inR num.length (k:Int):=⟨by omega,by omega⟩
  simp only [ZaB hr,wq,reduceCtorEq];refine ⟨⟨k+1,Zaq num (k:Int) (-1),by omega,by rw [Zay];exact hl,fun j h=>?_,rfl⟩,by omega⟩;unfold Zaq;rw [toNat_natCast,List.getElem?_set];by_cases e:k=j
  ·rw [if_pos e,if_pos (by omega)]
  ·rw [if_neg e];exact hj j (by omega)
 ·have hnum:num=replicate L.length (-1):=by
   refine List.ext_getElem? fun j=>?_;by_cases h:j < L.length
   ·rw [hj j (by omega),List.getElem?_replicate,if_pos h]
   ·rw [List.getElem?_eq_none (by omega),List.getElem?_eq_none (by simp;omega)]
  subst hnum;have c0:negs (replicate L.length (-1))<=L.length:=by
   unfold negs;have:=List.countP_le_length (p:=fun x:Int=>decide (x < 0)) (l:=replicate L.length (-1));simpa using this
  refine Ret.mono (ZSn hL p idx 3000 b hb v hv (replicate L.length (-1)) [] (by simp) (by simp only [length_nil];omega)) fun r _ ⟨num1,out1,h1,e1⟩=>?_;subst e1;obtain ⟨kp1,p1⟩:=Z2p.kp hL.toPoolH h1 hv.r (by simp);have n1:=Z2p.negs hL.toPoolH h1 hv.r (by simp);simp only [length_nil] at n1;refine Ret.mono (ZSn hL p idx 3000 b hb s hs num1 out1 kp1.len (by omega)) fun r _ ⟨num2,out2,h2,e2⟩=>?_;subst e2;obtain ⟨kp2,p2⟩:=Z2p.kp hL.toPoolH h2 hs.r kp1.len;have gv:gI num2 v=some (atI num2 v):=ZaB (by rw [kp2.len];exact hv.r);have gs:gI num2 s=some (atI num2 s):=ZaB (by rw [kp2.len];exact hs.r);simp only [gv,gs,wq,reduceCtorEq];exact ⟨num1,out1,num2,h1,h2,rfl,rfl⟩
end
end Go.Dat
namespace Go.Dat
open Go.Eng
def OkS (g:GrT):Prop:=(∀ i:Nat,i < g.2.2.1.length->atI (Zam g.2.2.1 g.2.2.1.length) i≠0)/\ZfU (Zam g.2.2.1 g.2.2.1.length) g.2.2.2.1=1/\ZfU (Zam g.2.2.1 g.2.2.1.length) g.2.2.2.2=2
def ZLl (p:List Int) (g r:GrT):Prop:=(OkS g/\r.1=g.1/\r.2.1=g.2.1/\ZNv (ZK7 p g.2.2.1).2 (atI (ZK7 p g.2.2.1).1 g.2.2.2.1) (atI (ZK7 p g.2.2.1).1 g.2.2.2.2) r.2.2.1 r.2.2.2.1 r.2.2.2.2)\/(¬ OkS g/\r=(empty,0,[],0,0))
theorem OkS.sortL {g:GrT} (h:OkS g) (hG:GraphH g.2.2.1):ZO7 g.2.2.1:=fun i x hx=>ZL4 hG hx (h.1 i (ZaA hx))
theorem ZKQ {l:List Int} {i:Int} (h:ZfU l i≠0):inR l.length i:=by
 unfold ZfU at h;split at h
 ·assumption
 ·exact absurd rfl h
theorem ZMY (nums:List Int) (m:Nat) (v:Int):Zaq (nums++replicate (m+1) 0) (nums.length:Int) v=(nums++[v])++replicate m 0:=by
 unfold Zaq;rw [toNat_natCast,List.set_append_right _ _ (le_refl _),sub_self,List.replicate_succ,List.set_cons_zero,List.append_assoc];rfl
def ZQ8 (p:List Int) (g:GrT):Prop:=∃ b:Nat,b<=3000/\HB (ZK7 p g.2.2.1).2 b (atI (ZK7 p g.2.2.1).1 g.2.2.2.1)/\HB (ZK7 p g.2.2.1).2 b (atI (ZK7 p g.2.2.1).1 g.2.2.2.2)
section
variable {g:GrT} (hW:ZhX g.2.2.1) (hl:g.2.2.1.length<=10000) (p:List Int) (hd:OkS g->ZQ8 p g)
include hW hl hd
theorem ZMD (ok:OkS g):Ret (Zao (ZJQ g) (0,empty,0,0,0,p,replicate g.2.2.1.length 0,[],[])) (ZLl p g):=by
 have hS:=ok.sortL hW.toGraphH;have hN:=ZLw (p:=p) hS hW.w (by omega);refine Zac (fun q:Int×ByteArray×Int×Int×Int×List Int×List Int×List Zae×List (ByteArray×Int)=>∃ (i:Nat) (idx:List (ByteArray×Int)),i<=g.2.2.1.length/\ZLV idx (ZK7 p (g.2.2.1.take i)).2/\q=((i:Int),empty,0,0,0,p,(ZK7 p (g.2.2.1.take i)).1++replicate (g.2.2.1.length - i) 0,(ZK7 p (g.2.2.1.take i)).2,idx)) (fun q=>g.2.2.1.length - q.1.toNat) ?_ _ ⟨0,[],by omega,by simpa [ZK7] using ZLV.nil,by simp [ZK7]⟩;rintro _ ⟨i,idx,hi,hI,rfl⟩;have hNi:=hN i hi;have hw:=Zab i (by omega);have hnl:=hNi.len;simp only [ZJQ,wq,reduceCtorEq];refine ⟨fun hlt=>Zaj (by omega) hlt fun x hx hxm=>?_,fun hge=>?_⟩
 ·rw [Zax] at hx;have hxs:=hS i x hx;have hxw:=hW.w x hxm;have hxk:=hxw.k;have e1:=ZLb (p:=p) hx;obtain ⟨nums,hnums⟩:∃ n,n=(ZK7 p (g.2.2.1.take i)).1:=⟨_,rfl⟩
  obtain ⟨L,hL⟩:∃ n,n=(ZK7 p (g.2.2.1.take i)).2:=⟨_,rfl⟩
  have e2:ZK7 p (g.2.2.1.take i)=(nums,L):=by rw [hnums,hL]
  rw [e2] at e1 hI hnl hNi;rw [<-hnums,<-hL];dsimp only at hI hnl hNi;refine Zac (fun q:Int×ByteArray×Int×Int×Int×List Int×List Int×List Int×List Zae×List (ByteArray×Int)=>∃ k:Nat,k<=x.2.2.length/\q=((k:Int),empty,0,0,0,p,nums++replicate (g.2.2.1.length - i) 0,(x.2.2.take k).map (atI nums),L,idx)) (fun q=>x.2.2.length - q.1.toNat) ?_ _ ⟨0,by omega,by simp⟩;rintro _ ⟨k,hk,rfl⟩;have hwk:=Zab k (by omega);simp only [ZTN,wq,reduceCtorEq,hwk,hw];refine ⟨fun hlt2=>Zaj (by omega) hlt2 fun y hy hym=>?_,fun hge2=>?_⟩
  ·rw [Zax] at hy;obtain ⟨y0,y1⟩:=hxs.k y hym;have gy:gI (nums++replicate (g.2.2.1.length - i) 0) y=some (atI nums y):=by
    rw [ZH3 (by omega)];exact ZaB ⟨y0,by omega⟩
   simp only [gy,wq,reduceCtorEq];refine ⟨fun _=>⟨⟨k+1,by omega,?_⟩,by omega⟩,fun h=>absurd h (by simp only [length_map,length_take,length_cons,length_nil];omega)⟩;rw [take_add_one,hy,map_append];rfl
  ·have hkk:k=x.2.2.length:=by omega
   subst hkk;rw [take_length];have hf:=ZM9 hNi hxs hxw;have hb:L.length < 100000:=by have:=hNi.sz;omega
   have hint:Ret (F17 x.1 x.2.1 p (x.2.2.map (atI nums)) L idx) (PR p (inM p L (x.1,x.2.1,x.2.2.map (atI nums)))):=ZTz hNi.W p hI 2998 hf hb;refine Ret.mono hint fun r _ ⟨idx',hI',hr⟩=>?_;subst hr;have gi:gI (nums++replicate (g.2.2.1.length - i) 0) (i:Int)=some 0:=by
    rw [Zax,getElem?_append_right (by omega),hnl,sub_self,List.getElem?_replicate,if_pos (by omega)]
   simp only [gi,wq,reduceCtorEq];have e3:ZLQ p (nums,L) x=(nums++[(inM p L (x.1,x.2.1,x.2.2.map (atI nums))).1],(inM p L (x.1,x.2.1,x.2.2.map (atI nums))).2):=rfl;refine ⟨⟨i+1,idx',by omega,by rw [e1,e3];exact hI',?_⟩,by show g.2.2.1.length - (((i+1:Nat):Int)).toNat < g.2.2.1.length - ((i:Int)).toNat;omega⟩;have e4:g.2.2.1.length - i=(g.2.2.1.length - (i+1))+1:=by omega
   rw [e1,e3,e4,<-hnl,ZMY]
 ·have hii:i=g.2.2.1.length:=by omega
  subst hii;rw [take_length] at hNi hI hnl |-
  have v0:=ZKQ (l:=Zam g.2.2.1 g.2.2.1.length) (i:=g.2.2.2.1) (by rw [ok.2.1];omega);have s0:=ZKQ (l:=Zam g.2.2.1 g.2.2.1.length) (i:=g.2.2.2.2) (by rw [ok.2.2];omega);rw [ZaK] at v0 s0;rw [sub_self,List.replicate_zero,List.append_nil];have gv:gI (ZK7 p g.2.2.1).1 g.2.2.2.1=some (atI (ZK7 p g.2.2.1).1 g.2.2.2.1):=ZaB (by rw [hnl];exact v0);have gs:gI (ZK7 p g.2.2.1).1 g.2.2.2.2=some (atI (ZK7 p g.2.2.1).1 g.2.2.2.2):=ZaB (by rw [hnl];exact s0);simp only [gv,gs,wq,reduceCtorEq];obtain ⟨b,hb,b1,b2⟩:=hd ok;refine Ret.mono (ZCn hNi.W p idx (b:=b) hb b1 b2) fun r _ hr=>?_;exact .inl ⟨ok,rfl,rfl,hr⟩
theorem ZT0:Ret (F6 g p) (ZLl p g):=by
 have bad:¬ OkS g->ZLl p g (empty,0,[],0,0):=fun h=>.inr ⟨h,rfl⟩;simp only [F6];refine Zac (fun q:Int×ByteArray×Int×Int×Int=>∃ i:Nat,i<=g.2.2.1.length/\(∀ j:Nat,j < i->atI (Zam g.2.2.1 g.2.2.1.length) j≠0)/\q=((i:Int),empty,0,0,0)) (fun q=>g.2.2.1.length - q.1.toNat) ?_ _ ⟨0,by omega,(fun j hj=>by omega),rfl⟩;rintro _ ⟨i,hi,hj,rfl⟩;have hw:=Zab i (by omega);simp only [ZER,ZTa _ hW.toGraphH,wq,reduceCtorEq,hw];refine ⟨fun hlt=>⟨fun h0=>bad fun h=>?_,fun h0=>⟨⟨i+1,by omega,fun j hj'=>?_,rfl⟩,by omega⟩⟩,fun hge=>?_⟩
 ·have e:ZfU (Zam g.2.2.1 g.2.2.1.length) (i:Int)=atI (Zam g.2.2.1 g.2.2.1.length) i:=by
   unfold ZfU;rw [if_pos ⟨by omega,by rw [ZaK];omega⟩]
  rw [e] at h0;exact h.1 i (by omega) h0
 ·have e:ZfU (Zam g.2.2.1 g.2.2.1.length) (i:Int)=atI (Zam g.2.2.1 g.2.2.1.length) i:=by
   unfold ZfU;rw [if_pos ⟨by omega,by rw [ZaK];omega⟩]
  rw [e] at h0;by_cases e2:j=i
  ·subst e2;exact h0
  ·exact hj j (by omega)
 ·have hii:i=g.2.2.1.length:=by omega
  subst hii;simp only [Z6J,F16,wq,reduceCtorEq];refine ⟨fun h=>bad fun ok=>absurd ok.2.1 (by simpa using h),fun h1=>⟨fun h=>bad fun ok=>absurd ok.2.2 (by simpa using h),fun h2=>⟨fun _=>?_,fun h=>absurd h (by omega)⟩⟩⟩;exact ZMD hW hl p hd ⟨hj,by simpa using h1,by simpa using h2⟩
end
theorem ZQ5 {g:GrT} (hW:ZhX g.2.2.1) (hl:g.2.2.1.length<=2500) (p:List Int) (ok:OkS g):ZQ8 p g:=by
 have hS:=ok.sortL hW.toGraphH;have hN:=ZLw (p:=p) hS hW.w (by omega) g.2.2.1.length (le_refl _);rw [take_length] at hN;have v0:=ZKQ (l:=Zam g.2.2.1 g.2.2.1.length) (i:=g.2.2.2.1) (by rw [ok.2.1];omega);have s0:=ZKQ (l:=Zam g.2.2.1 g.2.2.1.length) (i:=g.2.2.2.2) (by rw [ok.2.2];omega);rw [ZaK] at v0 s0;have gv:gI (ZK7 p g.2.2.1).1 g.2.2.2.1=some (atI (ZK7 p g.2.2.1).1 g.2.2.2.1):=ZaB (by rw [hN.len];exact v0);have gs:gI (ZK7 p g.2.2.1).1 g.2.2.2.2=some (atI (ZK7 p g.2.2.1).1 g.2.2.2.2):=ZaB (by rw [hN.len];exact s0);exact ⟨g.2.2.1.length,by omega,hN.hb _ (ZeR gv),hN.hb _ (ZeR gs)⟩
theorem ZBv {g:GrT} (hW:ZhX g.2.2.1) (hl:g.2.2.1.length<=2500) (p:List Int):Ret (F6 g p) (ZLl p g):=ZT0 hW (by omega) p (ZQ5 hW hl p)
def opS (op:Int):Int:=if op<=24 then 1 else 2
def Z6M (l:List Zae) (k:Int):Int:=opS (Zar l k).1
def ksG (op:Int):List Int:=
 if op=1\/op=2\/op=26 then [] else if op=20\/op=21 then [1] else if op=24 then [2] else if 4<=op/\op<=19 then [1,1] else if op=23\/op=27\/op=29 then [2,1] else if op=22 then [1,1,1] else if op=28 then [2,1,1] else []
def opG (op:Int):Prop:=1<=op/\op<=29/\op≠3/\op≠25
theorem Z7b {op:Int} {P:Int->Prop} (h:opG op) (h1:P 1) (h2:P 2) (h4:P 4) (h5:P 5) (h6:P 6) (h7:P 7) (h8:P 8) (h9:P 9) (h10:P 10) (h11:P 11) (h12:P 12) (h13:P 13) (h14:P 14) (h15:P 15) (h16:P 16) (h17:P 17) (h18:P 18) (h19:P 19) (h20:P 20) (h21:P 21) (h22:P 22) (h23:P 23) (h24:P 24) (h26:P 26) (h27:P 27) (h28:P 28) (h29:P 29):P op:=by
 obtain ⟨a,b,c,d⟩:=h;have:op=1\/op=2\/op=4\/op=5\/op=6\/op=7\/op=8\/op=9\/op=10\/op=11\/op=12\/op=13\/op=14\/op=15\/op=16\/op=17\/op=18\/op=19\/op=20\/op=21\/op=22\/op=23\/op=24\/op=26\/op=27\/op=28\/op=29:=by omega
 rcases this with rfl | rfl | rfl | rfl | rfl | rfl | rfl | rfl | rfl | rfl | rfl | rfl | rfl | rfl | rfl | rfl | rfl | rfl | rfl | rfl | rfl | rfl | rfl | rfl | rfl | rfl | rfl<;>assumption
structure WtN (l:List Zae) (i:Nat) (x:Zae):Prop where
 op:opG x.1
 im:Zfk x.1 x.2.1=true
 ks:x.2.2.map (Z6M l)=ksG x.1
 lt:∀ k∈x.2.2,0<=k/\k < i
def Wt (l:List Zae):Prop:=∀ (i:Nat) x,l[i]?=some x->WtN l i x
theorem Z7Z (op:Int):opS op=1\/opS op=2:=by unfold opS;split<;>simp
theorem ZBw (l:List Zae) (op imm:Int) (ks:List Int) (h:opG op) (hi:Zfk op imm=true) (hk:ks.length=(ksG op).length):F50 l (op,imm,ks) (ksG op)=some (opS op):=by
 revert hi hk;refine Z7b (P:=fun op=>Zfk op imm=true->ks.length=(ksG op).length->F50 l (op,imm,ks) (ksG op)=some (opS op)) h ?_ ?_ ?_ ?_ ?_ ?_ ?_ ?_ ?_ ?_ ?_ ?_ ?_ ?_ ?_ ?_ ?_ ?_ ?_ ?_ ?_ ?_ ?_ ?_ ?_ ?_ ?_<;>intro hi hk <;>
  ·simp [ksG] at hk;simp [F50,Z6K,ZAN,hi,ZaY,ksG,opS,hk,ZRq,ZRz,ZRv,ZR3,ZRs,ZRw,ZRu,ZR6,ZRD,Zzz,Zic,ZfI,gI]
theorem Z7D {l:List Zae} (h:Wt l):∀ m≤l.length,Zam l m=(l.take m).map fun x=>opS x.1
 | 0,_=>by simp [Zam]
 | m+1,hm=>by
  obtain ⟨x,hx⟩:=ZeS (l:=l) (i:=m) (by omega);have ih:=Z7D h m (by omega);have hW:=h m x hx;unfold Zam;rw [take_add_one,hx,map_append,<-ih];congr 1;have hat:∀ k∈x.2.2,atI (Zam l m) k=Z6M l k:=fun k hk=>by
   obtain ⟨a,b⟩:=hW.lt k hk;obtain ⟨y,hy⟩:=ZeS (l:=l) (i:=k.toNat) (by omega);rw [ih];unfold atI Z6M Zar;rw [getElem?_map,List.getElem?_take_of_lt (by omega),hy];rfl
  have hok:okK (Zam l m) m x=true:=by
   unfold okK;rw [all_eq_true];intro k hk;obtain ⟨a,b⟩:=hW.lt k hk;unfold okQ;rw [hat k hk];have:=Z7Z (Zar l k).1;simp only [Z6M,and_eq_true,decide_eq_true_eq,Bool.not_eq_true',beq_eq_false_iff_ne];omega
  have hks:kS (Zam l m) x=ksG x.1:=by
   unfold kS;rw [<-hW.ks];exact map_congr_left hat
  show [Zbu l (Zam l m) m x]=[opS x.1]
  unfold Zbu;rw [hok,hks,cond_true];unfold nsM;obtain ⟨op,imm,ks⟩:=x;rw [ZBw l op imm ks hW.op hW.im (by have:=congrArg List.length hW.ks;simpa using this)];rfl
theorem Z6O {l:List Zae} (h:Wt l) {i:Int} (hi:inR l.length i):atI (Zam l l.length) i=Z6M l i:=by
 have h1:=hi.1;have h2:=hi.2
 rw [Z7D h _ (le_refl _),take_length];obtain ⟨y,hy⟩:=ZeS (l:=l) (i:=i.toNat) (by omega);unfold atI Z6M Zar;rw [getElem?_map,hy];rfl
theorem Z7E {l:List Zae} {n:Zae} {k:Int} (h:inR l.length k):Z6M (l++[n]) k=Z6M l k:=by
 have:=h.1;have:=h.2
 unfold Z6M Zar;rw [getElem?_append_left (by omega)]
theorem Wt.push {l:List Zae} (h:Wt l) {n:Zae} (ho:opG n.1) (hi:Zfk n.1 n.2.1=true) (hk:n.2.2.map (Z6M l)=ksG n.1) (hr:∀ k∈n.2.2,inR l.length k):Wt (l++[n]):=by
 intro i x hx;by_cases e:i < l.length
 ·rw [getElem?_append_left e] at hx;obtain ⟨a,b,c,d⟩:=h i x hx;exact ⟨a,b,by rw [<-c];exact map_congr_left fun k hk=>Z7E ⟨(d k hk).1,by have:=(d k hk).2;omega⟩,d⟩
 ·have:i=l.length:=by have:=ZaA hx;simp at this;omega
  subst this;rw [getElem?_append_right (le_refl _)] at hx;simp at hx;subst hx;exact ⟨ho,hi,by rw [<-hk];exact map_congr_left fun k hk=>Z7E (hr k hk),fun k hk=>hr k hk⟩
theorem Z9g {l:List Zae} (hG:GraphH l) (hW:Wt l) (sort n:Int) (hs:∃ i,inR l.length i/\Z6M l i=sort):Ret (F27 l sort n) fun r=>inR l.length r/\Z6M l r=sort:=by
 have hn:=hG.n;have hsl:=ZaK l l.length;simp only [F27,ZAR l hG,wq,reduceCtorEq];refine Zac (fun q:Int×List Int=>∃ m:Nat,q.1=m/\m<=l.length/\q.2.length<=m/\(∀ x∈q.2,inR l.length x/\Z6M l x=sort)/\(∀ i:Nat,i < m->Z6M l (i:Int)=sort->q.2≠[])) (fun q=>l.length - q.1.toNat) ?_ _ ⟨0,rfl,by omega,by simp,(fun x hx=>by cases hx),fun i hi=>by omega⟩;rintro ⟨i',all⟩ ⟨m,e,hm,ha,hx,hne⟩;dsimp only at e ha hx hne;subst e;simp only [Z8F,Z5I,wq,reduceCtorEq];refine ⟨fun hlt=>?_,fun hge=>?_⟩
 ·have hw:=Zab m (by omega);have hmr:inR l.length (m:Int):=⟨by omega,hlt⟩
  rw [ZaB (l:=Zam l l.length) (by rw [hsl];exact hmr),Z6O hW hmr,hw];simp only [wq,reduceCtorEq];refine ⟨fun h=>⟨fun _=>?_,fun h=>absurd h (by simp only [length_cons,length_nil];omega)⟩,fun h=>?_⟩
  ·refine ⟨⟨m+1,rfl,by omega,by simp;omega,fun x h'=>?_,fun i _ _=>by simp⟩,by omega⟩;rcases mem_append.1 h' with h' | h'
   ·exact hx x h'
   ·rw [mem_singleton.1 h'];exact ⟨hmr,h⟩
  ·refine ⟨⟨m+1,rfl,by omega,by omega,hx,fun i hi hso=>?_⟩,by omega⟩;by_cases e:i < m
   ·exact hne i e hso
   ·have:i=m:=by omega
    subst this;exact absurd hso h
 ·obtain ⟨i,hi,hik⟩:=hs;have hnn:all≠[]:=hne i.toNat (by have:=hi.1;have:=hi.2;omega) (by rw [show ((i.toNat:Nat):Int)=i by have:=hi.1;omega];exact hik);have hpos:0 < all.length:=List.length_pos_iff.2 hnn;refine Z5k (by omega) (by omega) fun r r0 r1=>?_;rw [Zau (n:=(all.length:Int) - 1) (by omega) (by omega),Zau (by omega) (by omega)];refine Zaj (by omega) (by omega) fun y hy hm=>?_;simp only [Za4 hy];exact hx y hm
theorem ZBm {op:Int} (h:opG op) {j:Nat} {x:Int} (hx:(ksG op)[j]?=some x):F28 op (j:Int)=some x:=by
 have hj:j < 3:=by
  have:=ZaA hx;have h2:(ksG op).length<=3:=by unfold ksG;(repeat' split)<;>simp
  omega
 revert hx;have:j=0\/j=1\/j=2:=by omega
 refine Z7b (P:=fun op=>(ksG op)[j]?=some x->F28 op (j:Int)=some x) h ?_ ?_ ?_ ?_ ?_ ?_ ?_ ?_ ?_ ?_ ?_ ?_ ?_ ?_ ?_ ?_ ?_ ?_ ?_ ?_ ?_ ?_ ?_ ?_ ?_ ?_ ?_<;>(intro hx;rcases this with rfl | rfl | rfl)<;>first | (simp [ksG] at hx;done) | (simp [ksG] at hx;subst hx;rfl)
theorem Z8b {op:Int} (h:opG op):(ZaY op).1=(ksG op).length:=by
 refine Z7b (P:=fun op=>(ZaY op).1=(ksG op).length) h ?_ ?_ ?_ ?_ ?_ ?_ ?_ ?_ ?_ ?_ ?_ ?_ ?_ ?_ ?_ ?_ ?_ ?_ ?_ ?_ ?_ ?_ ?_ ?_ ?_ ?_ ?_<;>rfl
theorem ZBn (l:List Zae) (n:Zae) (hl:l.length<=100000) (hk:∀ x∈l,x.2.2.length<=100000):F30 l n=some (decide (n∈l)):=by
 refine Ret.eq ?_;unfold F30;refine Zac (fun i:Int=>∃ m:Nat,i=m/\m<=l.length/\n∉l.take m) (fun i=>l.length - i.toNat) ?_ _ ⟨0,rfl,by omega,by simp⟩;rintro _ ⟨m,rfl,hm,hno⟩;have hw:=Zab m (by omega);simp only [Z8H,wq,reduceCtorEq,hw];refine ⟨fun hlt=>Zaj (by omega) hlt fun y hy hym=>?_,fun hge=>?_⟩
 ·rw [ZJp y n (by have:=hk y hym;omega)];simp only [wq,reduceCtorEq];rw [Zax] at hy;refine ⟨fun e=>?_,fun e=>⟨⟨m+1,rfl,by omega,?_⟩,by omega⟩⟩
  ·symm;rw [decide_eq_true_eq];exact e▸hym
  ·rw [take_add_one,hy,mem_append];rintro (h | h)
   ·exact hno h
   ·have h:n=y:=by simpa using h
    exact e h.symm
 ·rw [List.take_of_length_le (by omega)] at hno;symm;rw [decide_eq_false_iff_not];exact hno
def OpE (n:Zae):Prop:=(n.1=1\/n.1=2\/(4<=n.1/\n.1<=24)\/(26<=n.1/\n.1<=29))/\(n.1=2->n.2.1 < 2)/\(n.1=23->n.2.1 < 2)/\(n.1=28->n.2.1 < 2)
structure Z6N (l:List Zae) (m:Nat):Prop extends Good l m where
 wt:Wt l
 nd:l.Nodup
 oe:∀ x∈l,OpE x
theorem Z6N.G {l:List Zae} {m:Nat} (h:Z6N l m) (hm:m<=100):GraphH l:=⟨by have:=h.len;omega,fun x hx=>by have:=h.k x hx;omega⟩
theorem Z6N.up {l:List Zae} {m:Nat} (h:Z6N l m):Z6N l (m+1):=⟨h.toGood.up,h.wt,h.nd,h.oe⟩
theorem Z6N.one {l:List Zae} {m:Nat} (h:Z6N l m):∃ i,inR l.length i/\Z6M l i=1:=⟨0,⟨by omega,by have:=ZaA h.h2;omega⟩,by unfold Z6M Zar;rw [show (0:Int).toNat=0 from rfl,h.h0];rfl⟩
theorem Z6N.two {l:List Zae} {m:Nat} (h:Z6N l m):∃ i,inR l.length i/\Z6M l i=2:=⟨2,⟨by omega,by have:=ZaA h.h2;omega⟩,by unfold Z6M Zar;rw [show (2:Int).toNat=2 from rfl,h.h2];rfl⟩
def ZBE (op imm:Int):Prop:=(op=27->1<=imm/\imm<=2)/\(op≠27->op=1\/imm=0)
theorem Z8x {op imm:Int} (h:opG op) (hp:ZBE op imm):Zfk op imm=true:=by
 unfold Zfk;rw [decide_eq_true_eq];obtain ⟨h1,h2⟩:=hp;by_cases e:op=27
 ·have:=h1 e;subst e;right;refine ⟨by omega,fun _=>by omega,?_⟩;simp;omega
 ·rcases h2 e with h | rfl
  ·exact .inl h
  ·right;refine ⟨by omega,fun h=>absurd h e,?_⟩;(repeat' split)<;>omega
theorem ZRh {op imm:Int} (h:opG op) (hp:ZBE op imm) (k:List Int):OpE (op,imm,k):=by
 unfold opG at h;obtain ⟨h1,h2⟩:=hp;unfold OpE;dsimp only;omega
section
variable (l1:List Int) (i:Nat) (hi:i < l1.length) (hi2:i < 14)
 {Q:((List Zae)⊕((Int×List Zae)⊕(List Zae)))->Prop} {out:List Zae} (hg:Z6N out i) (hQ:∀ o,Z6N o (i+1)->Q (.inl o))
include hg hQ hi hi2
theorem ZRJ (n m:Int) (k:List Int) (hoe:OpE (n,m,k)) (hk:k.length<=3) (hw:ZiV (n,m,k)) (ho:opG n) (him:Zfk n m=true) (hks:k.map (Z6M out)=ksG n) (hr:∀ x∈k,inR out.length x):Ret (ZS3 (out,n,m,k)) Q:=by
 have:=hg.len;simp only [ZS3,ZBn out (n,m,k) (by omega) (fun x hx=>by have:=hg.k x hx;omega),wq,reduceCtorEq];refine ⟨fun e=>⟨fun _=>hQ _ ⟨hg.toGood.push _ hk hw,hg.wt.push ho him hks hr,?_,fun x hx=>?_⟩,fun h=>absurd h (by simp only [length_cons,length_nil];omega)⟩,fun _=>hQ _ hg.up⟩
 ·rw [List.nodup_append];exact ⟨hg.nd,by simp,fun a ha b hb=>by rw [mem_singleton.1 hb];exact fun h=>e (h▸ha)⟩
 ·rcases mem_append.1 hx with hx | hx
  ·exact hg.oe x hx
  ·rw [mem_singleton.1 hx];exact hoe
theorem ZRK (n m:Int) (k:List Int) (hk:k.length<=3) (hn:I64 n) (hm:I64 m) (hkw:∀ x∈k,I64 x) (ho:opG n) (him:ZBE n m) (hks:k.map (Z6M out)=ksG n) (hr:∀ x∈k,inR out.length x):Ret (ZSS l1 (i:Int) (out,n,m,k)) Q:=by
 have t:∀ b,(b=true->n=23\/n=28)->Ret (ZS2 l1 (i:Int) (b,out,n,m,k)) fun a=>Ret (Sum.elim ZS3 some a) Q:=fun b hb=>by
  cases b
  ·simp only [ZS2,wq,reduceCtorEq];exact ZRJ l1 i hi hi2 hg hQ n m k (ZRh ho him k) hk ⟨hn,hm,by show k.length<=1000;omega,hkw⟩ ho (Z8x ho him) hks hr
  ·simp only [ZS2,wq,reduceCtorEq];refine Zaj (by omega) (by omega) fun y hy _=>Z5k (by omega) (by omega) fun r r0 r1=>ZRJ l1 i hi hi2 hg hQ n r k (by unfold opG at ho;unfold OpE;dsimp only;omega) hk ⟨hn,by constructor<;>(dsimp only;omega),by show k.length<=1000;omega,hkw⟩ ho ?_ hks hr;rcases hb rfl with rfl | rfl<;>(unfold Zfk;rw [decide_eq_true_eq];right;refine ⟨r0,fun h=>by omega,?_⟩;simp;omega)
 simp only [ZSS,wq,reduceCtorEq];refine ⟨fun e=>t _ fun _=>.inl e,fun _=>t _ fun e=>.inr (by simpa using e)⟩
theorem ZRL (x n m:Int) (rd:List Int) (hn:I64 n) (hm:I64 m) (ho:opG n) (him:n=1\/m=0):Ret (ZST l1 (i:Int) (out,x,n,m,rd)) Q:=by
 simp only [ZST,Z6K,wq,reduceCtorEq];have har:=Z8b ho;have hgl:=hg.len;have h3:(ksG n).length<=3:=by have:=Zsf n;omega
 refine Zac (fun q:Int×List Zae×Int×Int×Int×List Int×List Int=>∃ j:Nat,q.1=j/\q.2.2.2.2.2.2.length=j/\j<=(ksG n).length/\q.2.1=out/\q.2.2.2.1=n/\q.2.2.2.2.1=m/\q.2.2.2.2.2.2.map (Z6M out)=(ksG n).take j/\∀ y∈q.2.2.2.2.2.2,inR out.length y) (fun q=>3 - q.1.toNat) ?_ _ ⟨0,rfl,rfl,by omega,rfl,rfl,rfl,rfl,fun y hy=>by cases hy⟩;rintro ⟨j',out',x',n',m',rd',k⟩ ⟨j,e1,e2,e3,e4,e5,e6,e8,e7⟩;dsimp only at e1 e2 e4 e5 e6 e7 e8;subst out' n' m' j';have kI:∀ y∈k,I64 y:=fun y hy=>by obtain ⟨a,b⟩:=e7 y hy;constructor<;>omega
 simp only [ZFZ,wq,reduceCtorEq];refine ⟨fun hlt=>?_,fun hge=>?_⟩
 ·obtain ⟨so,hso⟩:=ZeS (l:=ksG n) (i:=j) (by omega);have h12:so=1\/so=2:=by
   have:∀ y∈ksG n,y=1\/y=2:=by unfold ksG;(repeat' split)<;>simp
   exact this so (mem_of_getElem? hso)
  rw [ZBm ho hso];simp only [wq,reduceCtorEq];refine Ret.mono (Z8A _ _) fun rr _ _=>Ret.mono (Z9g (hg.G (by omega)) hg.wt so rr.1 (by rcases h12 with rfl | rfl;exact hg.one;exact hg.two)) fun q _ ⟨hq,hqs⟩=>?_;have hw:=Zab j (by omega);rw [hw];refine ⟨fun _=>⟨⟨j+1,rfl,by simp;omega,by omega,?_,fun y hy=>?_⟩,by omega⟩,fun h=>absurd h (by simp only [length_cons,length_nil];omega)⟩
  ·rw [map_append,e8,take_add_one,hso,<-hqs];rfl
  ·rcases mem_append.1 hy with hy | hy
   ·exact e7 y hy
   ·rw [mem_singleton.1 hy];exact hq
 ·rw [List.take_of_length_le (by omega)] at e8;refine ⟨fun e27=>?_,fun e27=>?_⟩
  ·refine Zaj (by omega) (by omega) fun y hy _=>Z5k (by omega) (by omega) fun r r0 r1=>?_;have hwr:wrap .i64 (1+r)=1+r:=Zau (by omega) (by omega);rw [hwr];exact ZRK l1 i hi hi2 hg hQ _ _ k (by omega) hn (by constructor<;>omega) kI ho ⟨fun _=>by omega,fun h=>absurd e27 h⟩ e8 e7
  ·exact ZRK l1 i hi hi2 hg hQ _ _ k (by omega) hn hm kI ho ⟨fun h=>absurd h e27,fun _=>him⟩ e8 e7
theorem ZRM (hl:∀ x∈l1,I64 x) (x n:Int) (rd:List Int) (hn:I64 n) (ho:opG n):Ret (ZS4 l1 (i:Int) (out,x,n,0,rd)) Q:=by
 simp only [ZS4,wq,reduceCtorEq];refine Zaj (by omega) (by omega) fun y hy hym=>Z5k (by omega) (by omega) fun r r0 r1=>⟨fun _=>?_,fun _=>?_⟩
 ·simp only [Za4 hy,wq,reduceCtorEq];exact Ret.mono (Zzt _ _ (hl y hym)) fun w _ hw=>ZRL l1 i hi hi2 hg hQ _ _ _ _ (by constructor<;>omega) hw (by unfold opG;omega) (.inl rfl)
 ·exact ZRL l1 i hi hi2 hg hQ _ _ _ _ hn (by decide) ho (.inr rfl)
theorem ZSo (hl:∀ x∈l1,I64 x) (b:Bool) (x n:Int) (rd:List Int) (hn:I64 n) (ho:opG n):Ret (ZS1 l1 (i:Int) (b,out,x,n,0,rd)) fun a=>Ret (Sum.elim (ZS4 l1 (i:Int)) some a) Q:=by
 cases b
 ·simp only [ZS1,wq,reduceCtorEq];exact ZRM l1 i hi hi2 hg hQ hl _ _ _ hn ho
 ·simp only [ZS1,wq,reduceCtorEq];refine Zaj (by omega) (by omega) fun y hy _=>Z5k (by omega) (by omega) fun r r0 r1=>Zaj r0 (by simp only [length_cons,length_nil];omega) fun z hz _=>?_;simp only [Za4 hz,wq,reduceCtorEq];have key:∀ z∈([23,27,28,29,24]:List Int),23<=z/\z<=29/\z≠25:=by decide
  have hk:=key z (ZeR hz);exact ZRM l1 i hi hi2 hg hQ hl _ _ _ (by constructor<;>omega) (by unfold opG;omega)
end
theorem ZTb (l:List Int) (hl:∀ x∈l,I64 x) (b:Bool):Ret (F11 l b) fun o=>Z6N o 14:=by
 unfold F11;refine Zac (fun q:Int×List Zae=>∃ m:Nat,q.1=m/\m<=14/\Z6N q.2 m) (fun q=>14 - q.1.toNat) ?_ _ ⟨0,rfl,by omega,⟨?_,?_,?_,rfl,rfl⟩,?_,?_,?_⟩
 ·rintro ⟨i',out⟩ ⟨m,e,hm,hg⟩;dsimp only at e hg;subst e;have up:∀ k,Z6N out (m+k):=fun k=>by
   induction k with
   | zero=>exact hg
   | succ k ih=>exact ih.up
  have fin:Ret (ZGa l b (m:Int) (false,out)) (Zev (fun q:Int×List Zae=>∃ m:Nat,q.1=m/\m<=14/\Z6N q.2 m) (fun q=>14 - q.1.toNat) (fun o=>Z6N o 14) ((m:Int),out)):=by
   simp only [ZGa,wq,reduceCtorEq];have:=up (14 - m)
   rwa [show m+(14 - m)=14 by omega] at this
  simp only [ZGg,wq,reduceCtorEq];refine ⟨fun hlt=>?_,fun _=>fin⟩;by_cases h14:m < 14
  ·have hw:=Zab m (by omega);rw [show decide ((m:Int) < 14)=true by simp;omega];simp only [ZGa,wq,reduceCtorEq];refine Zaj (by omega) hlt fun y hy _=>?_;simp only [Za4 hy,wq,reduceCtorEq];refine Z5k (by omega) (by omega) fun r r0 r1=>?_;have hwr:wrap .i64 (4+r)=4+r:=Zau (by omega) (by omega);rw [hwr];have J:=fun b x n rd hn ho=>ZSo l m (by omega) h14 (Q:=fun a=>Ret (Sum.elim (ZGf (m:Int)) some a) (Zev (fun q:Int×List Zae=>∃ m:Nat,q.1=m/\m<=14/\Z6N q.2 m) (fun q=>14 - q.1.toNat) (fun o=>Z6N o 14) ((m:Int),out))) hg (fun o ho=>by
    simp only [ZGf,wq,reduceCtorEq,hw];exact ⟨⟨m+1,rfl,by omega,ho⟩,by omega⟩) hl b x n rd hn ho
   have hn:I64 (4+r):=by constructor<;>omega
   have ho:opG (4+r):=by unfold opG;omega
   exact ⟨fun _=>Z5k (by omega) (by omega) fun _ _ _=>J _ _ _ _ hn ho,fun _=>J _ _ _ _ hn ho⟩
  ·rw [show decide ((m:Int) < 14)=false by simp;omega];exact fin
 ·simp
 ·intro x hx;simp at hx;rcases hx with rfl | rfl | rfl<;>simp
 ·intro x hx;simp at hx;rcases hx with rfl | rfl | rfl<;>exact ⟨by decide,by decide,by decide,fun x hx=>by cases hx⟩
 ·intro i x hx;have:i=0\/i=1\/i=2:=by have:=ZaA hx;simp at this;omega
  rcases this with rfl | rfl | rfl<;>(simp at hx;subst hx;exact ⟨by unfold opG;decide,by decide,rfl,fun k hk=>by cases hk⟩)
 ·decide
 ·intro x hx;simp at hx;rcases hx with rfl | rfl | rfl<;>(unfold OpE;decide)
def AtT (o:List Zae) (i s:Int):Prop:=inR o.length i/\atI (Zam o o.length) i=s
theorem ZKX {l:List Zae} {j m:Nat} (h:j < m):atI (Zam l m) j=atI (Zam l (j+1)) j:=by
 unfold atI;rw [toNat_natCast,Zek l j m h]
theorem ZMF {o:List Zae} {i:Nat} {x:Zae} (hx:o[i]?=some x) (hk:∀ q∈x.2.2,0<=q/\q < i/\atI (Zam o o.length) q≠0):atI (Zam o o.length) i=nsM o x (x.2.2.map (atI (Zam o o.length))):=by
 have hi:=ZaA hx;have h2:(Zam o o.length)[i]?=some (Zbu o (Zam o i) i x):=by
  rw [Zek o i o.length hi];have hl:=ZaK o i;show (Zam o i++[match o[i]? with | some n=>Zbu o (Zam o i) i n | none=>0])[i]?=_;rw [getElem?_append_right (by omega),hl,hx];simp
 have h3:atI (Zam o o.length) i=Zbu o (Zam o i) i x:=by unfold atI;rw [toNat_natCast,h2];rfl
 have same:∀ q∈x.2.2,atI (Zam o i) q=atI (Zam o o.length) q:=fun q hq=>by
  obtain ⟨a,b,_⟩:=hk q hq;obtain ⟨n,rfl⟩:∃ n:Nat,q=n:=⟨q.toNat,by omega⟩
  rw [ZKX (show n < i by omega),ZKX (show n < o.length by omega)]
 have hok:okK (Zam o i) i x=true:=by
  unfold okK;rw [all_eq_true];intro q hq;obtain ⟨a,b,c⟩:=hk q hq;unfold okQ;rw [same q hq];simp only [and_eq_true,decide_eq_true_eq,Bool.not_eq_true',beq_eq_false_iff_ne];exact ⟨⟨a,b⟩,c⟩
 rw [h3];unfold Zbu;rw [hok,cond_true];congr 1;exact map_congr_left same
theorem ZKY (o:List Zae) (x:Zae) {j:Int} (hj:inR o.length j):atI (Zam (o++[x]) (o++[x]).length) j=atI (Zam o o.length) j:=by
 obtain ⟨n,rfl⟩:∃ n:Nat,j=n:=⟨j.toNat,by have:=hj.1;omega⟩
 have hn:n < o.length:=by have:=hj.2;omega
 rw [ZKX (show n < (o++[x]).length by rw [length_append];omega),ZKX hn];have:=ZeA (o++[x]) o.length (n+1) (by omega);rw [List.take_left] at this;rw [this]
structure PG (o:List Zae) (m:Nat):Prop where
 len:o.length<=m+3
 k:∀ x∈o,x.2.2.length<=3
 w:∀ x∈o,ZiV x
 z:AtT o 0 1
 e:AtT o 2 2
 nz:∀ i:Nat,i < o.length->atI (Zam o o.length) i≠0
 oe:∀ x∈o,OpE x
 nd:o.Nodup
theorem PG.G {o:List Zae} {m:Nat} (h:PG o m) (hm:m<=100):GraphH o:=⟨by have:=h.len;omega,fun x hx=>by have:=h.k x hx;omega⟩
theorem PG.le {o:List Zae} {m k:Nat} (h:PG o m) (hk:m<=k):PG o k:=⟨by have:=h.len;omega,h.k,h.w,h.z,h.e,h.nz,h.oe,h.nd⟩
theorem Z6N.pg {o:List Zae} {m:Nat} (h:Z6N o m):PG o m:=by
 have l2:=ZaA h.h2;refine ⟨h.len,h.k,h.w,⟨⟨by omega,by omega⟩,?_⟩,⟨⟨by omega,by omega⟩,?_⟩,fun i hi=>?_,h.oe,h.nd⟩
 ·rw [Z6O h.wt ⟨by omega,by omega⟩];unfold Z6M Zar;rw [show (0:Int).toNat=0 from rfl,h.h0];rfl
 ·rw [Z6O h.wt ⟨by omega,by omega⟩];unfold Z6M Zar;rw [show (2:Int).toNat=2 from rfl,h.h2];rfl
 ·rw [Z6O h.wt ⟨by omega,by omega⟩];unfold Z6M;rcases Z7Z (Zar o (i:Int)).1 with e | e<;>omega
structure ZNM (o:List Zae) (m:Nat) (s:Int) (r:List Zae×Int):Prop where
 g:PG r.1 (m+1)
 i:AtT r.1 r.2 s
 up:∀ i t,AtT o i t->AtT r.1 i t
theorem ZLp {o:List Zae} {m:Nat} (h:PG o m) (hm:m<=90) (op imm:Int) (ks ss:List Int) (s:Int) (hoe:OpE (op,imm,ks)) (hop:I64 op) (hI:I64 imm) (hk3:ks.length<=3) (hks:ks.map (atI (Zam o o.length))=ss) (hss:∀ t∈ss,t≠0) (hr:∀ k∈ks,inR o.length k) (hs:∀ l,F50 l (op,imm,ks) ss=some s) (hs0:s≠0):Ret (F14 o (op,imm,ks)) (ZNM o m s):=by
 have hl:=h.len;have hw:ZiV (op,imm,ks):=⟨hop,hI,by show ks.length<=1000;omega,fun x hx=>by have:=hr x hx;have h1:=this.1;have h2:=this.2;constructor<;>omega⟩
 have hkz:∀ q∈ks,atI (Zam o o.length) q≠0:=fun q hq=>hss _ (by rw [<-hks];exact mem_map.2 ⟨q,hq,rfl⟩);have hns:∀ l,nsM l (op,imm,ks) ss=s:=fun l=>by unfold nsM;rw [hs l];rfl
 simp only [F14];refine Zac (fun i:Int=>∃ k:Nat,i=k/\k<=o.length/\(op,imm,ks)∉o.take k) (fun i=>o.length - i.toNat) ?_ _ ⟨0,rfl,by omega,by simp⟩;rintro _ ⟨k,rfl,hk,hno⟩;have hwk:=Zab k (by omega);simp only [ZIX,wq,reduceCtorEq,hwk];refine ⟨fun hlt=>Zaj (by omega) hlt fun x hx hxm=>?_,fun hge=>?_⟩
 ·rw [Zax] at hx;simp only [ZJp x (op,imm,ks) (by have:=h.k x hxm;omega),wq,reduceCtorEq,decide_eq_true_eq];refine ⟨fun e=>?_,fun e=>⟨⟨k+1,rfl,by omega,?_⟩,by omega⟩⟩
  ·subst e;refine ⟨h.le (by omega),⟨⟨by omega,hlt⟩,?_⟩,fun i t hi=>hi⟩;have hS:=ZL4 (h.G (by omega)) hx (h.nz k (by omega));show atI (Zam o o.length) (k:Int)=s;rw [ZMF hx (fun q hq=>⟨(hS.k q hq).1,(hS.k q hq).2,hkz q hq⟩),hks];exact hns o
  ·rw [take_add_one,hx,mem_append];rintro (h | h)
   ·exact hno h
   ·have h:(op,imm,ks)=x:=by simpa using h
    exact e h.symm
 ·have hkk:k=o.length:=by omega
  subst hkk;refine ⟨fun _=>⟨fun _=>?_,fun h=>absurd h (by simp only [length_cons,length_nil];omega)⟩,fun h=>absurd h (by omega)⟩;have len:(o++[(op,imm,ks)]).length=o.length+1:=by rw [length_append,List.length_singleton]
  have up:∀ i t,AtT o i t->AtT (o++[(op,imm,ks)]) i t:=fun i t hi=>⟨⟨hi.1.1,by rw [len];have:=hi.1.2;omega⟩,by rw [ZKY o _ hi.1];exact hi.2⟩
  have new:atI (Zam (o++[(op,imm,ks)]) (o++[(op,imm,ks)]).length) (o.length:Nat)=s:=by
   have gx:(o++[(op,imm,ks)])[o.length]?=some (op,imm,ks):=by rw [getElem?_append_right (le_refl _),sub_self];rfl
   have e:ks.map (atI (Zam (o++[(op,imm,ks)]) (o++[(op,imm,ks)]).length))=ss:=by
    rw [<-hks];exact map_congr_left fun q hq=>ZKY o _ (hr q hq)
   rw [ZMF gx (fun q hq=>⟨(hr q hq).1,(hr q hq).2,by rw [ZKY o _ (hr q hq)];exact hkz q hq⟩)];show nsM _ _ (ks.map _)=s;rw [e];exact hns _
  refine ⟨⟨by show (o++[(op,imm,ks)]).length<=m+1+3;omega,fun x hx=>?_,fun x hx=>?_,up _ _ h.z,up _ _ h.e,fun i hi=>?_,fun x hx=>?_,?_⟩,⟨⟨by show (0:Int)<=o.length;omega,by show (o.length:Int) < (o++[(op,imm,ks)]).length;omega⟩,new⟩,up⟩
  ·rcases mem_append.1 hx with hx | hx
   ·exact h.k x hx
   ·rw [mem_singleton.1 hx];exact hk3
  ·rcases mem_append.1 hx with hx | hx
   ·exact h.w x hx
   ·rw [mem_singleton.1 hx];exact hw
  ·have hi:i < (o++[(op,imm,ks)]).length:=hi;show atI (Zam (o++[(op,imm,ks)]) (o++[(op,imm,ks)]).length) (i:Int)≠0;by_cases e:i < o.length
   ·rw [ZKY o _ ⟨by omega,by omega⟩];exact h.nz i e
   ·have:i=o.length:=by omega
    rw [this,new];exact hs0
  ·rcases mem_append.1 hx with hx | hx
   ·exact h.oe x hx
   ·rw [mem_singleton.1 hx];exact hoe
  ·show (o++[(op,imm,ks)]).Nodup;rw [List.nodup_append];rw [take_length] at hno;exact ⟨h.nd,by simp,fun a ha b hb=>by rw [mem_singleton.1 hb];exact fun e=>hno (e▸ha)⟩
theorem ZLc {op imm:Int} (h:op=1\/imm=0/\op≠27):Zfk op imm=true:=by
 unfold Zfk;rw [decide_eq_true_eq];rcases h with h | ⟨rfl,h⟩
 ·exact .inl h
 ·right;refine ⟨by omega,fun e=>absurd e h,?_⟩;(repeat' split)<;>omega
section
variable {o:List Zae} {m:Nat} (h:PG o m) (hm:m<=90)
include h hm
theorem ZON (imm:Int) (hI:I64 imm):Ret (F14 o (1,imm,[])) (ZNM o m 1):=ZLp h hm 1 imm [] [] 1 (by unfold OpE;dsimp only;omega) (by constructor<;>omega) hI (by simp) rfl (fun t ht=>by cases ht) (fun k hk=>by cases hk) (fun l=>ZBw l 1 imm [] (by unfold opG;omega) (ZLc (.inl rfl)) rfl) (by omega)
theorem ZQ3 {a:Int} (ha:AtT o a 1):Ret (F14 o (20,0,[a])) (ZNM o m 1):=by
 refine ZLp h hm 20 0 [a] [1] 1 (by unfold OpE;dsimp only;omega) (by constructor<;>omega) (by constructor<;>omega) (by simp) ?_ (fun t ht=>by simp at ht;omega) (fun k hk=>?_) (fun l=>ZBw l 20 0 [a] (by unfold opG;omega) (ZLc (.inr ⟨rfl,by omega⟩)) rfl) (by omega)
 ·simp [ha.2]
 ·rw [mem_singleton.1 hk];exact ha.1
theorem ZMZ (op:Int) (ho:4<=op/\op<=19) {a b:Int} (ha:AtT o a 1) (hb:AtT o b 1):Ret (F14 o (op,0,[a,b])) (ZNM o m 1):=by
 have e1:ksG op=[1,1]:=by unfold ksG;rw [if_neg (by omega),if_neg (by omega),if_neg (by omega),if_pos ho]
 have e2:opS op=1:=by unfold opS;rw [if_pos (by omega)]
 refine ZLp h hm op 0 [a,b] [1,1] 1 (by unfold OpE;dsimp only;omega) (by constructor<;>omega) (by constructor<;>omega) (by simp) ?_ (fun t ht=>by simp at ht;omega) (fun k hk=>?_) (fun l=>?_) (by omega)
 ·simp [ha.2,hb.2]
 ·rcases mem_cons.1 hk with rfl | hk
  ·exact ha.1
  ·rw [mem_singleton.1 hk];exact hb.1
 ·have:=ZBw l op 0 [a,b] (by unfold opG;omega) (ZLc (.inr ⟨rfl,by omega⟩)) (by rw [e1];rfl);rw [e1,e2] at this;exact this
theorem ZP3 {a b:Int} (ha:AtT o a 2) (hb:AtT o b 1):Ret (F14 o (23,0,[a,b])) (ZNM o m 1):=by
 refine ZLp h hm 23 0 [a,b] [2,1] 1 (by unfold OpE;dsimp only;omega) (by constructor<;>omega) (by constructor<;>omega) (by simp) ?_ (fun t ht=>by simp at ht;omega) (fun k hk=>?_) (fun l=>ZBw l 23 0 [a,b] (by unfold opG;omega) (ZLc (.inr ⟨rfl,by omega⟩)) rfl) (by omega)
 ·simp [ha.2,hb.2]
 ·rcases mem_cons.1 hk with rfl | hk
  ·exact ha.1
  ·rw [mem_singleton.1 hk];exact hb.1
theorem ZQ4 {a b c:Int} (ha:AtT o a 2) (hb:AtT o b 1) (hc:AtT o c 1):Ret (F14 o (28,0,[a,b,c])) (ZNM o m 2):=by
 refine ZLp h hm 28 0 [a,b,c] [2,1,1] 2 (by unfold OpE;dsimp only;omega) (by constructor<;>omega) (by constructor<;>omega) (by simp) ?_ (fun t ht=>by simp at ht;omega) (fun k hk=>?_) (fun l=>ZBw l 28 0 [a,b,c] (by unfold opG;omega) (ZLc (.inr ⟨rfl,by omega⟩)) rfl) (by omega)
 ·simp [ha.2,hb.2,hc.2]
 ·rcases mem_cons.1 hk with rfl | hk
  ·exact ha.1
  ·rcases mem_cons.1 hk with rfl | hk
   ·exact hb.1
   ·rw [mem_singleton.1 hk];exact hc.1
omit h hm in
theorem ZO9 (l:List Zae) (ks:List Int) (hl:ks.length=3):F50 l (22,0,ks) [1,2,2]=some 2:=by
 have hi:Zfk 22 0=true:=ZLc (.inr ⟨rfl,by omega⟩);simp [F50,Z6K,ZAN,hi,ZaY,hl,ZRq,ZRz,ZRv,ZR3,ZRs,ZRw,ZRu,ZR6,ZRD,Zzz,Zic,ZfI,gI]
theorem ZP4 {a b c:Int} (ha:AtT o a 1) (hb:AtT o b 2) (hc:AtT o c 2):Ret (F14 o (22,0,[a,b,c])) (ZNM o m 2):=by
 refine ZLp h hm 22 0 [a,b,c] [1,2,2] 2 (by unfold OpE;dsimp only;omega) (by constructor<;>omega) (by constructor<;>omega) (by simp) ?_ (fun t ht=>by simp at ht;omega) (fun k hk=>?_) (fun l=>ZO9 l _ rfl) (by omega)
 ·simp [ha.2,hb.2,hc.2]
 ·rcases mem_cons.1 hk with rfl | hk
  ·exact ha.1
  ·rcases mem_cons.1 hk with rfl | hk
   ·exact hb.1
   ·rw [mem_singleton.1 hk];exact hc.1
end
theorem ZQO {l l':List Zae} {op imm:Int} {ks ks' k:List Int} (h3:ks.length=ks'.length) (h4:op=25->k[0]?=some 3->((gI ks 0).bind fun y=>(gI l y).bind fun z=>some (z.2.2.length:Int))=((gI ks' 0).bind fun y=>(gI l' y).bind fun z=>some (z.2.2.length:Int))):F50 l (op,imm,ks) k=F50 l' (op,imm,ks') k:=by
 have hJ:ZRq l (op,imm,ks) k=ZRq l' (op,imm,ks') k:=by
  funext b;cases b
  ·unfold ZRq;by_cases h25:op=25
   ·subst h25;simp only [cond_false,show ((25:Int)==3)=false from rfl,show ((25:Int)==26)=false from rfl,show ((25:Int)==22)=false from rfl,show ((25:Int)==23)=false from rfl,show ((25:Int)==24)=false from rfl,show ((25:Int)==25)=true from rfl,cond_true];have e4:ZR3 (25,imm,ks)=ZR3 (25,imm,ks'):=rfl;rw [e4];congr 1;cases hk:k[0]? with
    | none=>
     have:gI k 0=none:=by show gI k ((0:Nat):Int)=none;rw [Zax,hk]
     rw [this];rfl
    | some t=>
     have g0:gI k 0=some t:=by show gI k ((0:Nat):Int)=some t;rw [Zax,hk]
     rw [g0];simp only [bind_some];by_cases h3':t=3
     ·subst h3';have:=h4 rfl hk;simp only [bne_self_eq_false,cond_false];have conv:∀ (l:List Zae) (ks:List Int),((gI ks 0).bind fun y23=>(gI l y23).bind fun y24=>some (Sum.inl (decide (imm>=wrap .i64 (tdiv (List.length y24.2.2:Int) 2)))):Option (Bool⊕Int))=(((gI ks 0).bind fun y=>(gI l y).bind fun z=>some (z.2.2.length:Int)).bind fun n=>some (Sum.inl (decide (imm>=wrap .i64 (tdiv n 2))))):=fun l ks=>by
       cases gI ks 0 with
       | none=>rfl
       | some y=>
        simp only [bind_some];cases gI l y<;>rfl
      rw [conv,conv,this]
     ·have e3:(t != 3)=true:=by simpa using h3'
      simp only [e3,cond_true]
   ·have e25:(op==25)=false:=by simpa using h25
    simp only [e25,cond_false];rfl
  ·rfl
 unfold F50;rw [hJ];dsimp only;rw [h3]
theorem ZQJ {l:List Zae} {op imm:Int} {ks k:List Int} {s:Int} (ho:4<=op/\op<=19) (hk:k.length=ks.length) (hl:k.length<=1000) (h:F50 l (op,imm,ks) k=some s) (hs:s≠0):s=1/\(∀ t∈k,t=1)/\Zfk op imm=true:=by
 have ar:ZaY op=(2,true):=by unfold ZaY;rw [if_neg (by omega),if_neg (by omega),if_pos (by omega)]
 have b:∀ c:Int,(c < 4\/19 < c)->(op==c)=false:=fun c hc=>by simp;omega
 simp only [F50,Z6K,ZAN,ar,bind_some,Bool.not_true,cond_false,show decide ((2:Int)>=0)=true from rfl,cond_true] at h;by_cases h2:(ks.length:Int)=2
 ·have e2:((ks.length:Int) != 2)=false:=by simpa using h2
  simp only [e2,cond_false,bind_some,Sum.elim_inl] at h;cases hi:Zfk op imm
  ·rw [hi] at h;have:(some 0:Option Int)=some s:=h;exact absurd (Option.some.inj this).symm hs
  ·rw [hi] at h;simp only [Bool.not_true,ZRq,ZRs,cond_false,b 3 (by omega),b 26 (by omega),b 22 (by omega),b 23 (by omega),b 24 (by omega),b 25 (by omega),b 27 (by omega),b 29 (by omega),b 28 (by omega),b 30 (by omega),b 31 (by omega),bind_some,Sum.elim_inl,Zic k (by omega),Zzz,Option.some.injEq] at h;cases ha:ZfI k
   ·rw [ha] at h;exact absurd h.symm hs
   ·rw [ha] at h;refine ⟨h.symm,fun t ht=>?_,rfl⟩;have:=all_eq_true.1 (show (k.all (·==1))=true from ha) t ht;simpa using this
 ·have e2:((ks.length:Int) != 2)=true:=by simpa using h2
  simp only [e2,cond_true,bind_some,Sum.elim_inl] at h;have:(some 0:Option Int)=some s:=h;exact absurd (Option.some.inj this).symm hs
theorem ZRf {l:List Zae} {imm:Int} {ks k:List Int} {s:Int} (hk:k.length=ks.length) (h:F50 l (23,imm,ks) k=some s) (hs:s≠0):s=1/\k=[2,1]/\Zfk 23 imm=true:=by
 by_cases h2:ks.length=2
 ·obtain ⟨a,b,rfl⟩:∃ a b,k=[a,b]:=by
   rw [h2] at hk
   match k,hk with
   | [a,b],_=>exact ⟨a,b,rfl⟩
  cases hi:Zfk 23 imm
  ·simp [F50,Z6K,ZAN,hi,ZaY,h2,ZRq] at h;exact absurd h.symm hs
  ·by_cases ha:a=2
   ·by_cases hb:b=1
    ·subst ha hb;simp [F50,Z6K,ZAN,hi,ZaY,h2,ZRq,ZRv,Zzz,gI] at h;exact ⟨h.symm,rfl,rfl⟩
    ·have e:(b==1)=false:=by simpa using hb
     subst ha;simp [F50,Z6K,ZAN,hi,ZaY,h2,e,ZRq,ZRv,Zzz,gI] at h;exact absurd h.symm hs
   ·have e:(a==2)=false:=by simpa using ha
    simp [F50,Z6K,ZAN,hi,ZaY,h2,e,ZRq,ZRv,Zzz,gI] at h;exact absurd h.symm hs
 ·have e2:((ks.length:Int) != 2)=true:=by simpa using fun e:(ks.length:Int)=2=>h2 (by omega)
  simp [F50,Z6K,ZAN,ZaY,e2,ZRq] at h;exact absurd h.symm hs
theorem ZQI {l:List Zae} {imm:Int} {ks k:List Int} {s:Int} (hk:k.length=ks.length) (h:F50 l (22,imm,ks) k=some s) (hs:s≠0):k=[1,s,s]/\s≠3:=by
 by_cases h2:ks.length=3
 ·obtain ⟨a,b,c,rfl⟩:∃ a b c,k=[a,b,c]:=by
   rw [h2] at hk
   match k,hk with
   | [a,b,c],_=>exact ⟨a,b,c,rfl⟩
  cases hi:Zfk 22 imm
  ·simp [F50,Z6K,ZAN,hi,ZaY,h2,ZRq] at h;exact absurd h.symm hs
  ·by_cases ha:a=1
   ·by_cases hb:b=c
    ·subst ha hb;by_cases h3:b=3
     ·subst h3;simp [F50,Z6K,ZAN,hi,ZaY,h2,ZRq,ZRz,gI] at h;exact absurd h.symm hs
     ·have e:(b==3)=false:=by simpa using h3
      simp [F50,Z6K,ZAN,hi,ZaY,h2,e,ZRq,ZRz,gI] at h;subst h;exact ⟨rfl,h3⟩
    ·have e:(b != c)=true:=by simpa using hb
     subst ha;simp [F50,Z6K,ZAN,hi,ZaY,h2,e,ZRq,ZRz,gI] at h;exact absurd h.symm hs
   ·have e:(a != 1)=true:=by simpa using ha
    simp [F50,Z6K,ZAN,hi,ZaY,h2,e,ZRq,ZRz,gI] at h;exact absurd h.symm hs
 ·have e2:((ks.length:Int) != 3)=true:=by simpa using fun e:(ks.length:Int)=3=>h2 (by omega)
  simp [F50,Z6K,ZAN,ZaY,e2,ZRq] at h;exact absurd h.symm hs
noncomputable def srt (L:List Zae) (i:Int):Int:=atI (Zam L L.length) i
theorem ZQN (o es:List Zae) {j:Int} (hj:inR o.length j):srt (o++es) j=srt o j:=by
 unfold srt;obtain ⟨n,rfl⟩:∃ n:Nat,j=n:=⟨j.toNat,by have:=hj.1;omega⟩
 have hn:n < o.length:=by have:=hj.2;omega
 rw [ZKX (show n < (o++es).length by rw [length_append];omega),ZKX hn];have:=ZeA (o++es) o.length (n+1) (by omega);rw [List.take_left] at this;rw [this]
def SP (L:List Zae):Prop:=∀ i:Int,inR L.length i->srt L i≠0
theorem ZQP {o:List Zae} {i:Int} (hi:inR o.length i) (hk:∀ q∈(nA o i).2.2,0<=q/\q < i/\srt o q≠0):srt o i=nsM o (nA o i) ((nA o i).2.2.map (srt o)):=by
 obtain ⟨n,rfl⟩:∃ n:Nat,i=n:=⟨i.toNat,by have:=hi.1;omega⟩
 exact ZMF (ZKS hi) fun q hq=>by
  obtain ⟨a,b,c⟩:=hk q hq;exact ⟨a,b,c⟩
theorem ZQK {l:List Zae} {n:Zae} {k:List Int} {s:Int} (h:s=nsM l n k) (hs:s≠0):F50 l n k=some s:=by
 unfold nsM at h;cases e:F50 l n k with
 | none=>rw [e] at h;exact absurd h hs
 | some t=>rw [e] at h;rw [h];rfl
theorem ZQU {L:List Zae} (hL:PoolH L) (hs:SP L) {i:Int} (hi:inR L.length i):F50 L (nA L i) ((nA L i).2.2.map (srt L))=some (srt L i):=by
 refine ZQK (ZQP hi fun q hq=>?_) (hs i hi);have:=hL.k _ _ (ZKS hi) q hq;have h1:=hi.1;have h2:=hi.2
 exact ⟨this.1,by omega,hs q ⟨this.1,by omega⟩⟩
theorem ZRi {L es:List Zae} {q:Int} (h:inR L.length q):gI (L++es) q=gI L q:=ZH3 h.2
section
variable {L:List Zae} (hL:ZLs L) (hs:SP L)
include hL hs
theorem ZQQ {n:Zae} (hn:ZLt L n) {s:Int} (h:F50 L n (n.2.2.map (srt L))=some s) (h0:s≠0):SP (plM L n).2/\srt (plM L n).2 (plM L n).1=s:=by
 obtain ⟨c1,c2,c3,⟨es,c4⟩⟩:=ZKT hL.toPoolH hn.k hn.a;obtain ⟨_,_,_,_,c5⟩:=hL.toPoolH.plM hn.k hn.a;have hext:∀ j,inR L.length j->srt (plM L n).2 j=srt L j:=fun j hj=>by rw [c4];exact ZQN L es hj
 have en:nA (plM L n).2 (plM L n).1=n:=by unfold nA;rw [c5];rfl
 -- the sort of the node itself
 have new:srt (plM L n).2 (plM L n).1=s:=by
  have hk:∀ q∈n.2.2,0<=q/\q < (plM L n).1:=fun q hq=>by
   have:=c1.k _ _ (ZKS c2) q (by rw [en];exact hq);have:=c2.1;omega
  have e1:=ZQP c2 (fun q hq=>by
   rw [en] at hq;exact ⟨(hk q hq).1,(hk q hq).2,by rw [hext q (hn.k q hq)];exact hs q (hn.k q hq)⟩)
  rw [en] at e1;have e2:n.2.2.map (srt (plM L n).2)=n.2.2.map (srt L):=map_congr_left fun q hq=>hext q (hn.k q hq);rw [e1,e2];have e3:F50 (plM L n).2 n (n.2.2.map (srt L))=F50 L n (n.2.2.map (srt L)):=ZiS fun q hq=>by rw [c4];exact ZRi (hn.k q hq)
  unfold nsM;rw [e3,h];rfl
 refine ⟨fun j hj=>?_,new⟩;by_cases hjl:inR L.length j
 ·rw [hext j hjl];exact hs j hjl
 ·have hjn:j=(plM L n).1:=by
   have e1:(plM L n).2=ZHQ L n:=rfl;have e2:(plM L n).1=ZH4 L n:=rfl;by_cases hm:n∈L
   ·have:ZHQ L n=L:=by unfold ZHQ;rw [if_pos hm]
    rw [e1,this] at hj;exact absurd hj hjl
   ·have h3:ZHQ L n=L++[n]:=by unfold ZHQ;rw [if_neg hm]
    have h4:ZH4 L n=L.length:=by unfold ZH4;rw [if_neg hm]
    rw [e1,h3,length_append,List.length_singleton] at hj;rw [e2,h4];have h1:=hj.1;have h2:=hj.2
    have:¬ (0<=j/\j < (L.length:Int)):=hjl;omega
  rw [hjn,new];exact h0
theorem ZLs.kid1 {op:Int} (ho:4<=op/\op<=19) {i:Int} (hi:inR L.length i) (e:(nA L i).1=op):srt L (kk (nA L i) 0)=1/\srt L (kk (nA L i) 1)=1/\Zfk op (nA L i).2.1=true:=by
 have h:=ZQU hL.toPoolH hs hi;have hk:=(hL.w _ (ZKF hi)).k;obtain ⟨x1,imm,ks,ex⟩:∃ a b c,nA L i=(a,b,c):=⟨_,_,_,rfl⟩
 rw [ex] at h e hk |-
 dsimp only at h e hk |-
 subst e;obtain ⟨_,b,c⟩:=ZQJ (l:=L) ho (by rw [length_map]) (by rw [length_map];exact hk) h (hs i hi);have hl:ks.length=2:=by
  have:=hL.a _ (ZKF hi) 2;rw [ex] at this;refine this ?_;dsimp only;unfold ZaY;rw [if_neg (by omega),if_neg (by omega),if_pos (by omega)];rfl
 exact ⟨b _ (mem_map.2 ⟨_,ZK6 (n:=(x1,imm,ks)) hl (by omega),rfl⟩),b _ (mem_map.2 ⟨_,ZK6 (n:=(x1,imm,ks)) hl (by omega),rfl⟩),c⟩
omit hL hs in
theorem ZQV {l:List Zae} {op imm a b:Int} (ho:4<=op/\op<=19) (hi:Zfk op imm=true):F50 l (op,imm,[a,b]) [1,1]=some 1:=by
 have e1:ksG op=[1,1]:=by unfold ksG;rw [if_neg (by omega),if_neg (by omega),if_neg (by omega),if_pos ho]
 have e2:opS op=1:=by unfold opS;rw [if_pos (by omega)]
 have:=ZBw l op imm [a,b] (by unfold opG;omega) hi (by rw [e1];rfl);rw [e1,e2] at this;exact this
theorem ZQW {n:Zae} (hn:ZLt L n) (h4:n.1=4) {s:Int} (h:F50 L n (n.2.2.map (srt L))=some s) (h0:s≠0):SP (plM L (ZLe L n)).2/\srt (plM L (ZLe L n)).2 (plM L (ZLe L n)).1=s:=by
 have hf:=ZLi hL hn h4;refine ZQQ hL hs hf ?_ h0;unfold ZLe;split
 ·obtain ⟨op,imm,ks⟩:=n;dsimp only at h4;subst h4;have hl:=hn.a 2 rfl;obtain ⟨rfl,b,c⟩:=ZQJ (l:=L) (by omega) (by rw [length_map]) (by rw [length_map];exact hn.w.k) h h0;have s0:srt L (kk (4,imm,ks) 0)=1:=b _ (mem_map.2 ⟨_,ZK6 (n:=(4,imm,ks)) hl (by omega),rfl⟩);have s1:srt L (kk (4,imm,ks) 1)=1:=b _ (mem_map.2 ⟨_,ZK6 (n:=(4,imm,ks)) hl (by omega),rfl⟩);show F50 L (4,imm,[kk (4,imm,ks) 1,kk (4,imm,ks) 0]) [srt L (kk (4,imm,ks) 1),srt L (kk (4,imm,ks) 0)]=some 1;rw [s0,s1];exact ZQV (by omega) c
 ·exact h
variable (p:List Int)
theorem ZRj (hb:L.length < 100000) {n:Zae} (hn:ZLt L n) {s:Int} (h:F50 L n (n.2.2.map (srt L))=some s) (h0:s≠0):SP (inM p L n).2/\srt (inM p L n).2 (inM p L n).1=s:=by
 have pl:=ZQQ hL hs hn h h0;unfold inM;split
 ·rename_i h4;exact ZQW hL hs hn h4 h h0
 ·split
  ·rename_i h4 h5;have hl:=hn.a 2 (by rw [h5.1];rfl);have r0:=hn.k _ (ZK6 (k:=0) hl (by omega));have hs1:s=1/\srt L (kk n 0)=1:=by
    obtain ⟨op,imm,ks⟩:=n;obtain ⟨e5,_⟩:=h5;dsimp only at e5;subst e5;obtain ⟨a,b,c⟩:=ZQJ (l:=L) (by omega) (by rw [length_map]) (by rw [length_map];exact hn.w.k) h h0;exact ⟨a,b _ (mem_map.2 ⟨_,ZK6 (n:=(5,imm,ks)) hl (by omega),rfl⟩)⟩
   obtain ⟨rfl,s0⟩:=hs1;have hc:ZLt L (1,wrap .i64 (-(nA L (kk n 1)).2.1),[]):=by
    refine ⟨⟨by show I64 1;constructor<;>omega,ZLB _,by simp,(fun x hx=>by cases hx)⟩,(fun q hq=>by cases hq),fun m hm=>?_⟩;have:ZaY 1=((m:Int),true):=hm;simp [ZaY] at this;show 0=m;omega
   have hL2:=ZKP hL hc hb;have hf2:=ZLI hL hc hb r0;obtain ⟨sp2,so2⟩:=ZQQ hL hs hc (s:=1) (ZBw L 1 _ [] (by unfold opG;omega) (ZLc (.inl rfl)) rfl) (by omega);obtain ⟨c1,c2,c3,⟨es,c4⟩⟩:=ZKT hL.toPoolH hc.k hc.a;refine ZQW hL2 sp2 hf2 rfl ?_ (by omega);have e0:srt (plM L (1,wrap .i64 (-(nA L (kk n 1)).2.1),[])).2 (kk n 0)=1:=by rw [c4,ZQN L es r0];exact s0
   show F50 _ (4,0,[_,_]) [srt _ (kk n 0),srt _ _]=some 1;rw [e0,so2];exact ZQV (by omega) (ZLc (.inr ⟨rfl,by omega⟩))
  ·split
   ·rename_i h9;have hl:=hn.a 2 (by rw [h9];rfl);have r0:=hn.k _ (ZK6 (k:=0) hl (by omega));cases hx:ZLh L p (kk n 0) (kk n 1) with
    | none=>exact pl
    | some x=>
     have hf:=ZLu hL p r0 hx;have hs1:s=1:=by
      obtain ⟨op,imm,ks⟩:=n;dsimp only at h9;subst h9;exact (ZQJ (l:=L) (by omega) (by rw [length_map]) (by rw [length_map];exact hn.w.k) h h0).1
     subst hs1;refine ZQQ hL hs hf ?_ (by omega);unfold ZLh at hx;split at hx
     ·rename_i h78;have ho:4<=(nA L (kk n 0)).1/\(nA L (kk n 0)).1<=19:=by rcases h78 with e | e<;>omega
      obtain ⟨k0,k1,ki⟩:=hL.kid1 hs ho r0 rfl;have ar:ZaY (nA L (kk n 0)).1=(((2:Nat):Int),true):=by rcases h78 with e | e<;>rw [e]<;>rfl
      have r1:=hL.kidR r0 ar (k:=1) (by omega);cases hd:ZLG L (kk (nA L (kk n 0)) 1) with
      | none=>rw [hd] at hx;cases hx
      | some be=>
       obtain ⟨b,e⟩:=be;rw [hd] at hx;dsimp only at hx;have hb1:srt L b=1:=by
        unfold ZLG at hd;split at hd
        ·rename_i h4;obtain ⟨j0,j1,_⟩:=hL.kid1 hs (op:=4) (by omega) r1 h4;split at hd
         ·cases hd;exact j0
         ·split at hd
          ·cases hd;exact j1
          ·cases hd
        ·cases hd
       split at hx
       ·cases hx;show F50 L ((nA L (kk n 0)).1,_,[_,_]) [srt L (kk (nA L (kk n 0)) 0),srt L b]=some 1;rw [k0,hb1];exact ZQV ho ki
       ·cases hx
     ·split at hx
      ·rename_i h23;split at hx
       ·rename_i hc;have ar:ZaY (nA L (kk n 0)).1=(((2:Nat):Int),true):=by rw [h23];rfl
        have r1:=hL.kidR r0 ar (k:=1) (by omega);have hla:=hL.a _ (ZKF r0) 2 ar;obtain ⟨j0,j1,_⟩:=hL.kid1 hs (op:=9) (by omega) r1 hc.1;have hns:=ZQU hL.toPoolH hs r0;have hsr:=hs _ r0;cases hx;obtain ⟨y,hy⟩:∃ y,y=nA L (kk n 0):=⟨_,rfl⟩
        rw [<-hy] at hns h23 hla j0 |-
        obtain ⟨op,imm,ks⟩:=y;dsimp only at h23 hla hns;subst h23;obtain ⟨_,e2,e3⟩:=ZRf (l:=L) (by rw [length_map]) hns hsr;have s0:srt L (kk (23,imm,ks) 0)=2:=by
         obtain ⟨a,b,rfl⟩:∃ a b,ks=[a,b]:=by
          match ks,hla with
          | [a,b],_=>exact ⟨a,b,rfl⟩
         have:=(inj e2).1;exact this
        show F50 L (23,imm,[_,_]) [srt L (kk (23,imm,ks) 0),srt L (kk (nA L (kk (23,imm,ks) 1)) 0)]=some 1;rw [s0,j0];exact ZBw L 23 imm [_,_] (by unfold opG;omega) e3 rfl
       ·cases hx
      ·cases hx
   ·split
    ·rename_i h4 h5 h9 h22;obtain ⟨op,imm,ks⟩:=n;obtain ⟨e22,_⟩:=h22;dsimp only at e22;subst e22;have hl:=hn.a 3 rfl;obtain ⟨e,_⟩:=ZQI (l:=L) (by rw [length_map]) h h0;refine ⟨hs,?_⟩;show srt L (kk (22,imm,ks) 1)=s;obtain ⟨a,b,c,rfl⟩:∃ a b c,ks=[a,b,c]:=by
      match ks,hl with
      | [a,b,c],_=>exact ⟨a,b,c,rfl⟩
     exact (inj (inj e).2).1
    ·exact pl
theorem ZQX {n:Zae} (hn:ZLt L n) (h:F50 L n (n.2.2.map (srt L))=some 3):inM p L n=plM L n:=by
 obtain ⟨op,imm,ks⟩:=n;have nb:∀ o:Int,4<=o/\o<=19->op≠o:=fun o ho e=>by
  subst e;have:=(ZQJ (l:=L) ho (by rw [length_map]) (by rw [length_map];exact hn.w.k) h (by omega)).1;omega
 have ns:op≠22:=fun e=>by
  subst e;exact (ZQI (l:=L) (by rw [length_map]) h (by omega)).2 rfl
 unfold inM;rw [if_neg (nb 4 (by omega)),if_neg (fun e=>nb 5 (by omega) e.1),if_neg (nb 9 (by omega)),if_neg (fun e=>ns e.1)]
end
theorem ZSL {o:List Zae} {m:Nat} (h:PG o m) (hm:m<=100) {i:Int} (hi:inR o.length i):F12 o i=some (atI (Zam o o.length) i):=by
 rw [ZJr o (h.G hm) i];unfold ZfU;rw [if_pos (by rw [ZaK];exact hi)]
theorem ZMG {l:List Int} (hl:∀ x∈l,I64 x) {n:List Zae} {k:Nat} (hk:k < 4) (hkl:(k:Int) < l.length) (h:PG n (14+7 * k)) {v s:Int} (hv:AtT n v 1) (hs:AtT n s 2) (i:Int) (hi:¬ i < (n.length:Int)) {Q:_->Prop} (hQ:∀ o,PG o (14+7 * (k+1))->Q (.inr (.inl o))):Ret (Z2e l 3 n (k:Int) (v,s,i)) Q:=by
 have M:∀ {o:List Zae} {j:Nat},j<=7->PG o (14+7 * k+j)->PG o (14+7 * (k+1)):=fun hj h=>h.le (by omega);simp only [Z2e,wq,reduceCtorEq];refine ⟨fun h=>absurd h hi,fun _=>?_⟩;refine Zaj (by omega) hkl fun y _ _=>Z5k (by omega) (by omega) fun r r0 r1=>⟨fun _=>?_,fun _=>⟨fun _=>?_,fun _=>?_⟩⟩
 ·refine Ret.mono (ZON h (by omega) 0 (by constructor<;>omega)) fun c _ hc=>?_;refine Ret.mono (ZMZ hc.g (by omega) 15 (by omega) (hc.up _ _ hv) hc.i) fun e _ he=>?_;refine Ret.mono (ZMZ he.g (by omega) 4 (by omega) (he.up _ _ (hc.up _ _ hv)) he.i) fun d _ hd=>?_;refine Ret.mono (ZMZ hd.g (by omega) 8 (by omega) hd.g.z hd.i) fun d2 _ hd2=>?_;refine Ret.mono (ZON hd2.g (by omega) (-1) (by constructor<;>omega)) fun c2 _ hc2=>?_;refine Ret.mono (ZMZ hc2.g (by omega) 4 (by omega) (hc2.up _ _ (hd2.up _ _ (hd.up _ _ he.i))) hc2.i) fun e2 _ he2=>?_;refine Ret.mono (ZMZ he2.g (by omega) 9 (by omega) (he2.up _ _ (hc2.up _ _ hd2.i)) he2.i) fun f _ hf=>?_;exact hQ _ (M (j:=7) (by omega) hf.g)
 ·refine Ret.mono (ZON h (by omega) 3 (by constructor<;>omega)) fun c _ hc=>?_;refine Ret.mono (ZMZ hc.g (by omega) 19 (by omega) (hc.up _ _ hv) hc.i) fun e _ he=>?_;refine Ret.mono (ZQ3 he.g (by omega) he.i) fun d _ hd=>?_;refine Ret.mono (ZMZ hd.g (by omega) 9 (by omega) (hd.up _ _ (he.up _ _ (hc.up _ _ hv))) hd.i) fun d2 _ hd2=>?_;refine Ret.mono (ZP3 hd2.g (by omega) (hd2.up _ _ (hd.up _ _ (he.up _ _ (hc.up _ _ hs)))) hd2.i) fun c2 _ hc2=>?_;refine Ret.mono (ZMZ hc2.g (by omega) 9 (by omega) hc2.i (hc2.up _ _ (hd2.up _ _ hd.i))) fun f _ hf=>?_;exact hQ _ (M (j:=6) (by omega) hf.g)
 ·refine Ret.mono (ZON h (by omega) 3 (by constructor<;>omega)) fun c _ hc=>?_;refine Ret.mono (ZMZ hc.g (by omega) 19 (by omega) (hc.up _ _ hv) hc.i) fun e _ he=>?_;refine Ret.mono (ZQ4 he.g (by omega) (he.up _ _ (hc.up _ _ hs)) (he.up _ _ (hc.up _ _ hv)) he.g.z) fun d _ hd=>?_;refine Ret.mono (ZP4 hd.g (by omega) (hd.up _ _ he.i) hd.i (hd.up _ _ (he.up _ _ (hc.up _ _ hs)))) fun f _ hf=>?_;exact hQ _ (M (j:=4) (by omega) hf.g)
theorem ZEP (l:List Int) (hl:∀ x∈l,I64 x):Ret (F4 l 3) fun n=>PG n 42:=by
 simp only [F4,wq,reduceCtorEq];refine Ret.mono (ZTb l hl false) fun n0 _ h0=>?_;refine Zac (fun q:List Zae×Int=>∃ k:Nat,k<=4/\q.2=k/\PG q.1 (14+7 * k)) (fun q=>4 - q.2.toNat) ?_ _ ⟨0,by omega,rfl,h0.pg⟩;rintro ⟨n,_⟩ ⟨k,hk,rfl,h⟩;have fin:PG n 42:=h.le (by omega);have hwk:=Zab k (by omega);dsimp only at h;have hl0:=h.len;simp only [Z2f];by_cases h1:(k:Int) < l.length
 ·by_cases h2:(k:Int) < 4
  ·simp only [decide_eq_true h1,decide_eq_true h2,cond_true,bind_some,Sum.elim_inl,Z2d,wq,reduceCtorEq];refine Zac (fun q:Int×Int×Int=>∃ i:Nat,i<=n.length/\q.2.2=i/\AtT n q.1 1/\AtT n q.2.1 2) (fun q=>n.length - q.2.2.toNat) ?_ _ ⟨0,by omega,rfl,h.z,h.e⟩;rintro ⟨v,s,_⟩ ⟨i,hi,rfl,hv,hs⟩;dsimp only at hv hs;have hwi:=Zab i (by omega);by_cases hin:(i:Int) < (n.length:Int)
   ·have hir:inR n.length (i:Int):=⟨by omega,hin⟩
    have hsort:=ZSL h (by omega) hir
    -- the value,then the state
    have st:∀ v',AtT n v' 1->Ret (ZGm l n (k:Int) s (i:Int) v') fun a=>Ret (Sum.elim (ZGl (i:Int)) some a) (Zev (fun q:Int×Int×Int=>∃ i:Nat,i<=n.length/\q.2.2=i/\AtT n q.1 1/\AtT n q.2.1 2) (fun q=>n.length - q.2.2.toNat) (fun a=>Ret (Sum.elim (ZEQ (k:Int)) some a) (Zev (fun q:List Zae×Int=>∃ k:Nat,k<=4/\q.2=k/\PG q.1 (14+7 * k)) (fun q=>4 - q.2.toNat) (fun n=>PG n 42) (n,(k:Int)))) (v,s,(i:Int))):=by
     intro v' hv';have go:∀ s',AtT n s' 2->(∃ i':Nat,i'<=n.length/\wrap .i64 ((i:Int)+1)=i'/\AtT n v' 1/\AtT n s' 2)/\n.length - (wrap .i64 ((i:Int)+1)).toNat < n.length - ((i:Int)).toNat:=fun s' hs'=>by
      rw [hwi];exact ⟨⟨i+1,by omega,rfl,hv',hs'⟩,by omega⟩
     simp only [ZGm,hsort,wq,reduceCtorEq];refine ⟨fun e=>Zaj (by omega) h1 fun y _ _=>Z5k (by omega) (by omega) fun r _ _=>?_,fun e=>?_⟩
     ·simp only [ZTB,ZGl,wq,reduceCtorEq];exact ⟨fun _=>go _ ⟨hir,e⟩,fun _=>go _ hs⟩
     ·simp only [ZTB,ZGl,wq,reduceCtorEq];exact go _ hs
    simp only [Z2e,decide_eq_true hin,cond_true,hsort,wq,reduceCtorEq];refine ⟨fun e=>Zaj (by omega) h1 fun y _ _=>Z5k (by omega) (by omega) fun r _ _=>?_,fun e=>?_⟩
    ·simp only [ZTA,wq,reduceCtorEq];exact ⟨fun _=>st _ ⟨hir,e⟩,fun _=>st _ hv⟩
    ·simp only [ZTA,wq,reduceCtorEq];exact st _ hv
   ·refine ZMG hl (by omega) h1 h hv hs _ hin fun o ho=>?_;show Ret (Sum.elim (ZEQ (k:Int)) some (.inl o)) _;simp only [Sum.elim_inl,ZEQ,hwk,wq,reduceCtorEq];exact ⟨⟨k+1,by omega,rfl,ho⟩,by show 4 - (((k+1:Nat):Int)).toNat < 4 - ((k:Int)).toNat;omega⟩
  ·simp only [decide_eq_true h1,decide_eq_false h2,cond_true,bind_some,Sum.elim_inl,Z2d,wq,reduceCtorEq];exact fin
 ·simp only [decide_eq_false h1,cond_false,bind_some,Sum.elim_inl,Z2d,wq,reduceCtorEq];exact fin
theorem ZBu {n:List Zae} {m:Nat} (h:PG n m) (hm:m<=100) {s i0:Int} (h0:AtT n i0 s):Ret (F5 n s) fun r=>AtT n r s:=by
 have hl:=h.len;obtain ⟨j0,e0⟩:∃ j:Nat,i0=j:=⟨i0.toNat,by have:=h0.1.1;omega⟩
 subst e0;simp only [F5];have j1:=h0.1.2;have w0:wrap .i64 ((n.length:Int) - 1)=(n.length:Int) - 1:=Zau (by omega) (by omega);rw [w0];refine Zac (fun i:Int=>(j0:Int)<=i/\i < n.length) (fun i=>i.toNat) ?_ _ ⟨by omega,by omega⟩;rintro i ⟨h1,h2⟩;have hir:inR n.length i:=⟨by omega,h2⟩
 have hwi:wrap .i64 (i - 1)=i - 1:=Zau (by omega) (by omega);simp only [Z5R,ZSL h hm hir,wq,reduceCtorEq,hwi];refine ⟨fun _=>⟨fun e=>⟨hir,e⟩,fun e=>?_⟩,fun h=>absurd h (by omega)⟩;by_cases e2:i=j0
 ·subst e2;exact absurd h0.2 e
 ·exact ⟨⟨by omega,by omega⟩,by omega⟩
def Zq1 (v:Int) (P:Int->Prop):Prop:=∃ a:Nat,v=a/\a < 65536/\∀ j:Nat,j < 16->(a.testBit j=true↔P j)
theorem Zq1.congr {v:Int} {P R:Int->Prop} (h:Zq1 v P) (e:∀ j:Nat,j < 16->(P j↔R j)):Zq1 v R:=by
 obtain ⟨a,h1,h2,h3⟩:=h;exact ⟨a,h1,h2,fun j hj=>(h3 j hj).trans (e j hj)⟩

theorem ZNv.small {L:List Zae} {v s:Int} {out:List Zae} {v' s':Int} (h:ZNv L v s out v' s') (hL:ZLs L) (hv:inR L.length v) (hs:inR L.length s):out.length<=L.length/\∀ x∈out,ZiV x:=by
 obtain ⟨⟨num1,out1,num2,h1,h2,rfl,rfl⟩⟩:=h;have l0:(replicate L.length (-1:Int)).length=L.length:=by simp
 have kp1:=(Z2p.kp hL.toPoolH h1 hv l0).1;have ok1:=Z2p.ok hL.toPoolH h1 hv (ZLr.init L);have ok2:=Z2p.ok hL.toPoolH h2 hs ok1;have s1:=Z2p.sur hL.toPoolH h1 hv l0 (fun k hk=>by simp at hk);have s2:=Z2p.sur hL.toPoolH h2 hs kp1.len s1;have n1:=Z2p.negs hL.toPoolH h1 hv l0;have n2:=Z2p.negs hL.toPoolH h2 hs kp1.len;have c0:negs (replicate L.length (-1))<=L.length:=by
  unfold negs;have:=List.countP_le_length (p:=fun x:Int=>decide (x < 0)) (l:=replicate L.length (-1));simpa using this
 simp only [length_nil] at n1;have hol:out.length<=L.length:=by omega
 refine ⟨hol,fun x hx=>?_⟩;obtain ⟨k,hk⟩:=getElem?_of_mem hx;obtain ⟨j,j1,j2⟩:=s2 k (ZaA hk);obtain ⟨a,b,c⟩:=ok2.at_ j j1 (by omega);rw [j2,toNat_natCast,hk] at b;obtain rfl:=Option.some.inj b;have hw:=hL.w _ (ZKF j1);refine ⟨hw.op,hw.imm,by rw [length_map];exact hw.k,fun q hq=>?_⟩;obtain ⟨q',hq',rfl⟩:=mem_map.1 hq;have:=c q' hq';have:=hL.n;constructor<;>omega
theorem ZLl.small {p:List Int} {g r:GrT} (h:ZLl p g r) (hW:ZhX g.2.2.1) (hl:g.2.2.1.length<=2500):r.2.2.1.length<=5000/\∀ x∈r.2.2.1,ZiV x:=by
 rcases h with ⟨ok,b,c,d⟩ | ⟨_,b⟩
 ·have hS:=ok.sortL hW.toGraphH;have hN:=ZLw (p:=p) hS hW.w (by omega) g.2.2.1.length (le_refl _);rw [take_length] at hN;have v0:=ZKQ (l:=Zam g.2.2.1 g.2.2.1.length) (i:=g.2.2.2.1) (by rw [ok.2.1];omega);have s0:=ZKQ (l:=Zam g.2.2.1 g.2.2.1.length) (i:=g.2.2.2.2) (by rw [ok.2.2];omega);rw [ZaK] at v0 s0;have gv:gI (ZK7 p g.2.2.1).1 g.2.2.2.1=some (atI (ZK7 p g.2.2.1).1 g.2.2.2.1):=ZaB (by rw [hN.len];exact v0);have gs:gI (ZK7 p g.2.2.1).1 g.2.2.2.2=some (atI (ZK7 p g.2.2.1).1 g.2.2.2.2):=ZaB (by rw [hN.len];exact s0);obtain ⟨a1,a2⟩:=d.small hN.W (hN.hb _ (ZeR gv)).r (hN.hb _ (ZeR gs)).r;exact ⟨by have:=hN.sz;omega,a2⟩
 ·rw [b];exact ⟨by simp,fun x hx=>by cases hx⟩
theorem PG.W {o:List Zae} {m:Nat} (h:PG o m) (hm:m<=100):ZhX o:=⟨h.G hm,h.w⟩
structure ZRk (g:List Zae) (i:Nat) (nums:List Int) (L:List Zae):Prop where
 sp:SP L
 so:∀ j:Nat,j < i->srt L (atI nums j)=srt g j
 lp:∀ (j:Nat) x,j < i->g[j]?=some x->srt g j=3->(nA L (atI nums j)).2.2.length=x.2.2.length
theorem ZRl {g:List Zae} {i:Nat} {x:Zae} (hx:g[i]?=some x):nA g (i:Int)=x:=by unfold nA;rw [toNat_natCast,hx];rfl
theorem ZRm {α:Type} (i:Int):gI ([]:List α) i=none:=by
 cases e:gI ([]:List α) i with
 | none=>rfl
 | some x=>have:=ZaI e;simp at this
theorem ZQY {p:List Int} {g:List Zae} (hs:ZO7 g) (hw:∀ x∈g,ZiV x) (hl:g.length≤10000) (hz:∀ j:Nat,j < g.length->srt g j≠0):∀ i≤g.length,ZRk g i (ZK7 p (g.take i)).1 (ZK7 p (g.take i)).2
 | 0,_=>by
  have:ZK7 p (g.take 0)=([],[]):=by simp [ZK7]
  rw [this];exact ⟨fun i hi=>by have h1:=hi.1;have h2:=hi.2;simp at h2;omega,fun j hj=>by omega,fun j x hj=>by omega⟩
 | i+1,hi=>by
  obtain ⟨x,hx⟩:=ZeS (l:=g) (i:=i) (by omega);have hT:=ZQY (p:=p) hs hw hl hz i (by omega);have hN:=ZLw (p:=p) hs hw hl i (by omega);rw [ZLb hx];obtain ⟨nums,hnums⟩:∃ n,n=(ZK7 p (g.take i)).1:=⟨_,rfl⟩
  obtain ⟨L,hL⟩:∃ n,n=(ZK7 p (g.take i)).2:=⟨_,rfl⟩
  have e2:ZK7 p (g.take i)=(nums,L):=by rw [hnums,hL]
  rw [e2] at hT hN |-
  dsimp only at hT hN;have hxs:=hs i x hx;have hxw:=hw x (mem_of_getElem? hx);have hf:=ZM9 hN hxs hxw;have hb:L.length < 100000:=by have:=hN.sz;omega
  have nl:=hN.len;have hir:inR g.length (i:Int):=⟨by omega,by omega⟩
  have enx:=ZRl hx;have hzi:=hz i (by omega);have e0:F50 g x (x.2.2.map (srt g))=some (srt g i):=by
   refine ZQK ?_ hzi;have:=ZQP hir (fun q hq=>by
    rw [enx] at hq;obtain ⟨a,b⟩:=hxs.k q hq;obtain ⟨m,rfl⟩:∃ m:Nat,q=m:=⟨q.toNat,by omega⟩
    exact ⟨a,b,hz m (by omega)⟩)
   rw [enx] at this;exact this
  have em:(x.2.2.map (atI nums)).map (srt L)=x.2.2.map (srt g):=by
   rw [map_map];refine map_congr_left fun q hq=>?_;obtain ⟨a,b⟩:=hxs.k q hq;obtain ⟨m,rfl⟩:∃ m:Nat,q=m:=⟨q.toNat,by omega⟩
   exact hT.so m (by omega)
  have h1:F50 L (x.1,x.2.1,x.2.2.map (atI nums)) ((x.2.2.map (atI nums)).map (srt L))=some (srt g i):=by
   rw [em,<-e0];symm;refine ZQO (l:=g) (op:=x.1) (imm:=x.2.1) (ks:=x.2.2) (by rw [length_map]) fun _ hk=>?_;rw [getElem?_map] at hk;cases hq:x.2.2[0]? with
   | none=>rw [hq] at hk;cases hk
   | some q=>
    rw [hq] at hk;have h3:srt g q=3:=Option.some.inj hk;have hqm:=mem_of_getElem? hq;obtain ⟨a,b⟩:=hxs.k q hqm;obtain ⟨m,rfl⟩:∃ m:Nat,q=m:=⟨q.toNat,by omega⟩
    obtain ⟨y,hy⟩:=ZeS (l:=g) (i:=m) (by omega);have g0:gI x.2.2 0=some (m:Int):=by show gI x.2.2 ((0:Nat):Int)=_;rw [Zax,hq]
    have g1:gI (x.2.2.map (atI nums)) 0=some (atI nums m):=by show gI _ ((0:Nat):Int)=_;rw [Zax,getElem?_map,hq];rfl
    have r1:inR L.length (atI nums m):=hf.k _ (mem_map.2 ⟨_,hqm,rfl⟩);rw [g0,g1];simp only [bind_some,ZGh hy,ZK8 r1];rw [hT.lp m y (by omega) hy h3]
  have hI:=ZOy hN.W.toPoolH p hf.k hf.a;obtain ⟨es,he⟩:=hI.e;obtain ⟨s1,s2⟩:=ZRj hN.W hT.sp p hb hf h1 hzi;have numR:∀ j:Nat,j < i->inR L.length (atI nums j):=fun j hj=>(hN.hb _ (by
   unfold atI;rw [toNat_natCast,getElem?_eq_getElem (by omega)];exact getElem_mem _)).r
  have old:∀ j:Nat,j < i->∀ r:Int,atI (nums++[r]) j=atI nums j:=fun j hj r=>by
   unfold atI;rw [toNat_natCast,getElem?_append_left (by omega)]
  have last:∀ r:Int,atI (nums++[r]) (i:Nat)=r:=fun r=>by
   unfold atI;rw [toNat_natCast,getElem?_append_right (by omega),nl,sub_self];rfl
  show ZRk g (i+1) (nums++[(inM p L (x.1,x.2.1,x.2.2.map (atI nums))).1]) (inM p L (x.1,x.2.1,x.2.2.map (atI nums))).2;refine ⟨s1,fun j hj=>?_,fun j y hj hy h3=>?_⟩
  ·by_cases e:j=i
   ·subst e;rw [last];exact s2
   ·rw [old j (by omega),he,ZQN L es (numR j (by omega))];exact hT.so j (by omega)
  ·by_cases e:j=i
   ·subst e;rw [hx] at hy;obtain rfl:=Option.some.inj hy;rw [last,ZQX hN.W hT.sp p hf (by rw [h1,h3])];obtain ⟨_,_,_,_,c5⟩:=hN.W.toPoolH.plM hf.k hf.a;have:nA (plM L (x.1,x.2.1,x.2.2.map (atI nums))).2 (plM L (x.1,x.2.1,x.2.2.map (atI nums))).1=(x.1,x.2.1,x.2.2.map (atI nums)):=by unfold nA;rw [c5];rfl
    rw [this];show (x.2.2.map (atI nums)).length=_;rw [length_map]
   ·rw [old j (by omega),he,ZKM (numR j (by omega))];exact hT.lp j y (by omega) hy h3
section
variable {L:List Zae} (hL:ZLs L) {num:List Int} {out:List Zae} (ok:ZLr L num out)
include hL ok
theorem ZQZ (hs:SP L):∀ (b:Nat) (j:Int),inR L.length j->0<=atI num j->atI num j < b->srt out (atI num j)=srt L j
 | 0,j,hj,h0,hb=>by omega
 | b+1,j,hj,h0,hb=>by
  obtain ⟨a1,a2,a3⟩:=ok.at_ j hj h0;have en:=ZQG hL.toPoolH ok hj h0;have hkid:∀ q∈(nA L j).2.2,inR L.length q:=fun q hq=>by
   have:=hL.k _ _ (ZKS hj) q hq;have h1:=hj.1;have h2:=hj.2
   exact ⟨this.1,by omega⟩
  have ih:∀ q∈(nA L j).2.2,srt out (atI num q)=srt L q:=fun q hq=>ZQZ hs b q (hkid q hq) (a3 q hq).1 (by have:=(a3 q hq).2;omega);have e1:=ZQP (o:=out) (i:=atI num j) ⟨h0,a1⟩ (fun q hq=>by
   rw [en] at hq;obtain ⟨r,hr,rfl⟩:=mem_map.1 hq;exact ⟨(a3 r hr).1,(a3 r hr).2,by rw [ih r hr];exact hs r (hkid r hr)⟩)
  rw [en] at e1;have e2:((nA L j).2.2.map (atI num)).map (srt out)=(nA L j).2.2.map (srt L):=by
   rw [map_map];exact map_congr_left fun q hq=>ih q hq
  dsimp only at e1;rw [e2] at e1;have e3:F50 out ((nA L j).1,(nA L j).2.1,(nA L j).2.2.map (atI num)) ((nA L j).2.2.map (srt L))=some (srt L j):=by
   rw [<-ZQU hL.toPoolH hs hj];symm;refine ZQO (l:=L) (op:=(nA L j).1) (imm:=(nA L j).2.1) (ks:=(nA L j).2.2) (by rw [length_map]) fun _ _=>?_;cases hq:(nA L j).2.2[0]? with
   | none=>
    have:(nA L j).2.2=[]:=by
     cases h:(nA L j).2.2 with
     | nil=>rfl
     | cons a l=>rw [h] at hq;cases hq
    rw [this,List.map_nil,ZRm];rfl
   | some q=>
    have hqm:=mem_of_getElem? hq;have g0:gI (nA L j).2.2 0=some q:=by show gI _ ((0:Nat):Int)=_;rw [Zax,hq]
    have g1:gI ((nA L j).2.2.map (atI num)) 0=some (atI num q):=by show gI _ ((0:Nat):Int)=_;rw [Zax,getElem?_map,hq];rfl
    obtain ⟨b1,b2,_⟩:=ok.at_ q (hkid q hqm) (a3 q hqm).1;rw [g0,g1];simp only [bind_some,ZK8 (hkid q hqm),ZK8 (L:=out) ⟨(a3 q hqm).1,b1⟩,ZQG hL.toPoolH ok (hkid q hqm) (a3 q hqm).1];rw [length_map]
  rw [e1];unfold nsM;rw [e3];rfl
theorem ZQR {b:Nat} {j:Int} (h:HB L b j):0<=atI num j->HB out b (atI num j):=by
 induction h with
 | @mk b j hj hk ih=>
  intro h0;obtain ⟨a1,a2,a3⟩:=ok.at_ j hj h0;refine .mk ⟨h0,a1⟩ fun q hq=>?_;rw [ZQG hL.toPoolH ok hj h0] at hq;obtain ⟨r,hr,rfl⟩:=mem_map.1 hq;exact ih r hr (a3 r hr).1
end
structure ZRp (L:List Zae) (v s:Int) (out:List Zae) (v' s':Int):Prop where
 sp:SP out
 ev:srt out v'=srt L v
 es:srt out s'=srt L s
 dv:∀ b,HB L b v->HB out b v'
 ds:∀ b,HB L b s->HB out b s'
theorem ZNv.sorts {L:List Zae} {v s:Int} {out:List Zae} {v' s':Int} (h:ZNv L v s out v' s') (hL:ZLs L) (hS:SP L) (hv:inR L.length v) (hs:inR L.length s):ZRp L v s out v' s':=by
 obtain ⟨⟨num1,out1,num2,h1,h2,rfl,rfl⟩⟩:=h;have l0:(replicate L.length (-1:Int)).length=L.length:=by simp
 obtain ⟨kp1,p1⟩:=Z2p.kp hL.toPoolH h1 hv l0;obtain ⟨kp2,p2⟩:=Z2p.kp hL.toPoolH h2 hs kp1.len;have ok1:=Z2p.ok hL.toPoolH h1 hv (ZLr.init L);have ok2:=Z2p.ok hL.toPoolH h2 hs ok1;have s1:=Z2p.sur hL.toPoolH h1 hv l0 (fun k hk=>by simp at hk);have s2:=Z2p.sur hL.toPoolH h2 hs kp1.len s1;have pv:0<=atI num2 v:=by rw [kp2.old v hv.1 p1];exact p1
 have so:∀ j,inR L.length j->0<=atI num2 j->srt out (atI num2 j)=srt L j:=fun j hj h0=>ZQZ hL ok2 hS ((atI num2 j).toNat+1) j hj h0 (by omega);refine ⟨fun i hi=>?_,so v hv pv,so s hs p2,fun b hb=>ZQR hL ok2 hb pv,fun b hb=>ZQR hL ok2 hb p2⟩;obtain ⟨j,j1,j2⟩:=s2 i.toNat (by have h1:=hi.1;have h2:=hi.2;omega);have e:i=atI num2 j:=by have:=hi.1;omega
 rw [e,so j j1 (by have:=hi.1;omega)];exact hS j j1
structure ZRn (p:List Int) (g h:GrT):Prop where
 ok:OkS h
 dp:ZQ8 p h
 w:ZhX h.2.2.1
 n:h.2.2.1.length<=10000
 pos:0 < h.2.2.1.length
 again:∀ r,ZLl p h r->r=h
theorem ZQS {p:List Int} {g h:GrT} (hW:ZhX g.2.2.1) (hl:g.2.2.1.length<=2500) (ok:OkS g) (hn:ZLl p g h):ZRn p g h:=by
 obtain ⟨sm1,sm2⟩:=hn.small hW hl;obtain ⟨e1,e2,hx⟩:h.1=g.1/\h.2.1=g.2.1/\ZNv (ZK7 p g.2.2.1).2 (atI (ZK7 p g.2.2.1).1 g.2.2.2.1) (atI (ZK7 p g.2.2.1).1 g.2.2.2.2) h.2.2.1 h.2.2.2.1 h.2.2.2.2:=by
  rcases hn with ⟨_,h⟩ | ⟨hno,_⟩
  ·exact h
  ·exact absurd ok hno
 have hS:=ok.sortL hW.toGraphH;have hN:=ZLw (p:=p) hS hW.w (by omega) g.2.2.1.length (le_refl _);have hT:=ZQY (p:=p) hS hW.w (by omega) ok.1 g.2.2.1.length (le_refl _);rw [take_length] at hN hT;have v0:=ZKQ (l:=Zam g.2.2.1 g.2.2.1.length) (i:=g.2.2.2.1) (by rw [ok.2.1];omega);have s0:=ZKQ (l:=Zam g.2.2.1 g.2.2.1.length) (i:=g.2.2.2.2) (by rw [ok.2.2];omega);have sv:srt g.2.2.1 g.2.2.2.1=1:=by have:=ok.2.1;unfold ZfU at this;rw [if_pos v0] at this;exact this
 have ss:srt g.2.2.1 g.2.2.2.2=2:=by have:=ok.2.2;unfold ZfU at this;rw [if_pos s0] at this;exact this
 rw [ZaK] at v0 s0;have gv:gI (ZK7 p g.2.2.1).1 g.2.2.2.1=some (atI (ZK7 p g.2.2.1).1 g.2.2.2.1):=ZaB (by rw [hN.len];exact v0);have gs:gI (ZK7 p g.2.2.1).1 g.2.2.2.2=some (atI (ZK7 p g.2.2.1).1 g.2.2.2.2):=ZaB (by rw [hN.len];exact s0);have bv:=hN.hb _ (ZeR gv);have bs:=hN.hb _ (ZeR gs);have X:=hx.sorts hN.W hT.sp bv.r bs.r;have Y:=hx.props hN.W.toPoolH hN.irr hN.nd bv.r bs.r;have tv:srt (ZK7 p g.2.2.1).2 (atI (ZK7 p g.2.2.1).1 g.2.2.2.1)=1:=by
  obtain ⟨m,em⟩:∃ m:Nat,g.2.2.2.1=m:=⟨g.2.2.2.1.toNat,by have:=v0.1;omega⟩
  rw [em] at v0 sv |-
  rw [hT.so m (by have:=v0.2;omega)];exact sv
 have ts:srt (ZK7 p g.2.2.1).2 (atI (ZK7 p g.2.2.1).1 g.2.2.2.2)=2:=by
  obtain ⟨m,em⟩:∃ m:Nat,g.2.2.2.2=m:=⟨g.2.2.2.2.toNat,by have:=s0.1;omega⟩
  rw [em] at s0 ss |-
  rw [hT.so m (by have:=s0.2;omega)];exact ss
 have Wh:ZhX h.2.2.1:=⟨⟨by omega,fun x hx=>(sm2 x hx).k⟩,sm2⟩
 have ag:=ZQE p Y.p Y.i Y.d h.2.2.1.length (le_refl _);rw [take_length] at ag;have iv:atI (ZQF h.2.2.1.length) h.2.2.2.1=h.2.2.2.1:=ZQD Y.v;have is':atI (ZQF h.2.2.1.length) h.2.2.2.2=h.2.2.2.2:=ZQD Y.s;refine ⟨⟨fun i hi=>X.sp i ⟨by omega,by omega⟩,?_,?_⟩,⟨g.2.2.1.length,by omega,?_,?_⟩,Wh,by omega,by have h1:=Y.v.1;have h2:=Y.v.2;omega,fun r hr=>?_⟩
 ·unfold ZfU;rw [if_pos (by rw [ZaK];exact Y.v)];exact X.ev.trans tv
 ·unfold ZfU;rw [if_pos (by rw [ZaK];exact Y.s)];exact X.es.trans ts
 ·rw [ag];dsimp only;rw [iv];exact X.dv _ bv
 ·rw [ag];dsimp only;rw [is'];exact X.ds _ bs
 ·rcases hr with ⟨_,f1,f2,f3⟩ | ⟨hno,_⟩
  ·rw [ag] at f3;dsimp only at f3;rw [iv,is'] at f3;obtain ⟨k1,k2,k3⟩:=f3.det Y.again;obtain ⟨r1,r2,r3,r4,r5⟩:=r;obtain ⟨h1,h2,h3,h4,h5⟩:=h;dsimp only at *;rw [f1,f2,k1,k2,k3]
  ·exfalso;refine hno ⟨fun i hi=>X.sp i ⟨by omega,by omega⟩,?_,?_⟩
   ·unfold ZfU;rw [if_pos (by rw [ZaK];exact Y.v)];exact X.ev.trans tv
   ·unfold ZfU;rw [if_pos (by rw [ZaK];exact Y.s)];exact X.es.trans ts
theorem WfP.okS {g:GrT} (h:WfP g):OkS g:=⟨fun i hi=>(h.good i hi).1,h.va,h.st⟩
theorem PG.okS {n:List Zae} {m:Nat} (h:PG n m) {v s:Int} (hv:AtT n v 1) (hs:AtT n s 2) (nm:ByteArray) (pr:Int):OkS (nm,pr,n,v,s):=by
 refine ⟨fun i hi=>h.nz i hi,?_,?_⟩
 ·unfold ZfU;rw [if_pos (by rw [ZaK];exact hv.1)];exact hv.2
 ·unfold ZfU;rw [if_pos (by rw [ZaK];exact hs.1)];exact hs.2
abbrev StT:=List (List Int)×List Int×Int×Int×Int×Int
abbrev VaT:=Int×StT
def stZ:StT:=([],[],0,0,0,0)
def ZRB (s:StT) (a i:Int):Int:=if 0<=i/\i < (s.1[a.toNat]?.getD []).length then atI (s.1[a.toNat]?.getD []) i else 0
def ZRN (s:StT) (a i n:Int):StT:=if 0<=i/\i < (s.1[a.toNat]?.getD []).length then (s.1.set a.toNat (Zaq (s.1[a.toNat]?.getD []) i n),s.2) else s
def ZR0 (op imm:Int) (s:StT) (x y:Int):StT:=
 if op=28 then ZRN s imm x y
 else if s.2.2.2.1≠0 then s
 else if op=27 then (if x=0 then (s.1,s.2.1,s.2.2.1,2,imm,s.2.2.2.2.2) else s)
 else (s.1,s.2.1++[x],s.2.2)
structure ZT1 (B:Int->Int->Int->Int) (U:Int->Int->Int):Prop where
 b4:∀ a b,B 4 a b=wrap .i64 (a+b)
 b5:∀ a b,B 5 a b=wrap .i64 (a - b)
 b7:∀ a,B 7 a 0=0
 b8:∀ a,B 8 a 0=0
 b9:∀ a,B 9 a 0=0
 b9':∀ a,I64 a->B 9 a (-1)=a
 b15:∀ a b,B 15 a b=if a=b then 1 else 0
 b19:∀ a b,I64 a->I64 b->0<=b->B 19 a b=if 0<=a/\a < b then 1 else 0
 u20:∀ a,U 20 a=wrap .i64 (-a)
 bw:∀ o a b,I64 (B o a b)
 uw:∀ o a,I64 (U o a)
section
variable (B:Int->Int->Int->Int) (U:Int->Int->Int) (A:List Int) (σ:StT)
def evM (vs:Int->VaT) (n:Zae):VaT:=
 if n.1=1 then (n.2.1,stZ)
 else if n.1=2 then (atI A n.2.1,stZ)
 else if n.1=20\/n.1=21 then (U n.1 (vs (kk n 0)).1,stZ)
 else if n.1=22 then (if (vs (kk n 0)).1≠0 then vs (kk n 1) else vs (kk n 2))
 else if n.1=23 then (ZRB (vs (kk n 0)).2 n.2.1 (vs (kk n 1)).1,stZ)
 else if n.1=24 then ((vs (kk n 0)).2.2.2.2.2.2,stZ)
 else if n.1=26 then (0,σ)
 else if n.1=28 then (0,ZR0 28 n.2.1 (vs (kk n 0)).2 (vs (kk n 1)).1 (vs (kk n 2)).1)
 else if n.1=27\/n.1=29 then (0,ZR0 n.1 n.2.1 (vs (kk n 0)).2 (vs (kk n 1)).1 0)
 else (B n.1 (vs (kk n 0)).1 (vs (kk n 1)).1,stZ)
def ZSy (l:List VaT) (q:Int):VaT:=l[q.toNat]?.getD (0,stZ)
def ZR1 (L:List Zae):Nat->List VaT
 | 0=>[]
 | m+1=>ZR1 L m++[evM B U A σ (ZSy (ZR1 L m)) (L[m]?.getD (0,0,[]))]
def ZRr (L:List Zae) (i:Int):VaT:=ZSy (ZR1 B U A σ L L.length) i
theorem ZR4 (L:List Zae):∀ m,(ZR1 B U A σ L m).length=m
 | 0=>rfl
 | m+1=>by unfold ZR1;rw [length_append,ZR4 L m];rfl
theorem ZR5 (L:List Zae) {j:Nat}:∀ {m:Nat},j < m->(ZR1 B U A σ L m)[j]?=some (evM B U A σ (ZSy (ZR1 B U A σ L j)) (L[j]?.getD (0,0,[])))
 | 0,h=>by omega
 | m+1,h=>by
  show (ZR1 B U A σ L m++[evM B U A σ (ZSy (ZR1 B U A σ L m)) (L[m]?.getD (0,0,[]))])[j]?=_;by_cases e:j=m
  ·subst e;rw [getElem?_append_right (by rw [ZR4];omega),ZR4,sub_self];rfl
  ·rw [getElem?_append_left (by rw [ZR4];omega)];exact ZR5 L (by omega)
theorem ZRY (L:List Zae) {m k:Nat} {q:Int} (h0:0<=q) (h1:q < m) (h2:m<=k):ZSy (ZR1 B U A σ L m) q=ZSy (ZR1 B U A σ L k) q:=by
 unfold ZSy;rw [ZR5 B U A σ L (show q.toNat < m by omega),ZR5 B U A σ L (show q.toNat < k by omega)]
theorem ZTG {n:Zae} (ha:∀ m:Nat,ZaY n.1=((m:Int),true)->n.2.2.length=m) {m k:Nat} (h:ZaY n.1=((m:Int),true)) (hk:k < m):kk n k∈n.2.2:=ZK6 (ha m h) hk
theorem ZRO {vs ws:Int->VaT} {n:Zae} (hn:OpE n) (ha:∀ m:Nat,ZaY n.1=((m:Int),true)->n.2.2.length=m) (h:∀ q∈n.2.2,vs q=ws q):evM B U A σ vs n=evM B U A σ ws n:=by
 have K:∀ {m:Nat} (k:Nat),ZaY n.1=((m:Int),true)->k < m->vs (kk n k)=ws (kk n k):=fun k e hk=>h _ (ZTG ha e hk);unfold evM;by_cases h1:n.1=1
 ·rw [if_pos h1,if_pos h1]
 rw [if_neg h1,if_neg h1];by_cases h2:n.1=2
 ·rw [if_pos h2,if_pos h2]
 rw [if_neg h2,if_neg h2];by_cases h20:n.1=20\/n.1=21
 ·rw [if_pos h20,if_pos h20,K (m:=1) 0 (by rcases h20 with e | e<;>rw [e]<;>rfl) (by omega)]
 rw [if_neg h20,if_neg h20];by_cases h22:n.1=22
 ·have e:ZaY n.1=(((3:Nat):Int),true):=by rw [h22];rfl
  rw [if_pos h22,if_pos h22,K 0 e (by omega),K 1 e (by omega),K 2 e (by omega)]
 rw [if_neg h22,if_neg h22];by_cases h23:n.1=23
 ·have e:ZaY n.1=(((2:Nat):Int),true):=by rw [h23];rfl
  rw [if_pos h23,if_pos h23,K 0 e (by omega),K 1 e (by omega)]
 rw [if_neg h23,if_neg h23];by_cases h24:n.1=24
 ·have e:ZaY n.1=(((1:Nat):Int),true):=by rw [h24];rfl
  rw [if_pos h24,if_pos h24,K 0 e (by omega)]
 rw [if_neg h24,if_neg h24];by_cases h26:n.1=26
 ·rw [if_pos h26,if_pos h26]
 rw [if_neg h26,if_neg h26];by_cases h28:n.1=28
 ·have e:ZaY n.1=(((3:Nat):Int),true):=by rw [h28];rfl
  rw [if_pos h28,if_pos h28,K 0 e (by omega),K 1 e (by omega),K 2 e (by omega)]
 rw [if_neg h28,if_neg h28];have e:ZaY n.1=(((2:Nat):Int),true):=by
  have:(4<=n.1/\n.1<=19)\/n.1=27\/n.1=29:=by unfold OpE at hn;omega
  unfold ZaY;rw [if_neg (by omega),if_neg (by omega),if_pos (by omega)];rfl
 rw [K 0 e (by omega),K 1 e (by omega)]
theorem ZRt {L:List Zae} (hL:PoolH L) (ho:∀ x∈L,OpE x) {i:Int} (hi:inR L.length i):ZRr B U A σ L i=evM B U A σ (ZRr B U A σ L) (nA L i):=by
 obtain ⟨n,rfl⟩:∃ n:Nat,i=n:=⟨i.toNat,by have:=hi.1;omega⟩
 have hn:n < L.length:=by have:=hi.2;omega
 have e:L[n]?.getD (0,0,[])=nA L (n:Int):=rfl;have h1:ZRr B U A σ L (n:Int)=evM B U A σ (ZSy (ZR1 B U A σ L n)) (nA L n):=by
  show ZSy (ZR1 B U A σ L L.length) (n:Int)=_;unfold ZSy;rw [toNat_natCast,ZR5 B U A σ L hn,e];rfl
 rw [h1];refine ZRO B U A σ (ho _ (ZKF hi)) (hL.a _ (ZKF hi)) fun q hq=>?_;have:=hL.k _ _ (ZKS hi) q hq;exact ZRY B U A σ L this.1 this.2 (by omega)
theorem ZRP (L es:List Zae):∀ m≤L.length,ZR1 B U A σ (L++es) m=ZR1 B U A σ L m
 | 0,_=>rfl
 | m+1,h=>by
  unfold ZR1;rw [ZRP L es m (by omega),getElem?_append_left (by omega)]
theorem ZS7 (L es:List Zae) {i:Int} (hi:inR L.length i):ZRr B U A σ (L++es) i=ZRr B U A σ L i:=by
 unfold ZRr;have h1:=hi.1;have h2:=hi.2
 rw [<-ZRY B U A σ (L++es) (m:=L.length) h1 (by omega) (by rw [length_append];omega),ZRP B U A σ L es _ (le_refl _)]
end
theorem ZRC {l:List Zae} {op imm:Int} {ks k:List Int} {s:Int} {m:Nat} (ar:ZaY op=((m:Int),true)) (h:F50 l (op,imm,ks) k=some s) (hs:s≠0):ks.length=m/\Zfk op imm=true:=by
 simp only [F50,Z6K,ZAN,ar,bind_some,Bool.not_true,cond_false,show decide ((m:Int)>=0)=true from decide_eq_true (by omega),cond_true] at h;by_cases h2:(ks.length:Int)=(m:Int)
 ·have e2:((ks.length:Int) != (m:Int))=false:=by simpa using h2
  simp only [e2,cond_false,bind_some,Sum.elim_inl] at h;cases hi:Zfk op imm
  ·rw [hi] at h;have:(some 0:Option Int)=some s:=h;exact absurd (Option.some.inj this).symm hs
  ·exact ⟨by omega,rfl⟩
 ·have e2:((ks.length:Int) != (m:Int))=true:=by simpa using h2
  simp only [e2,cond_true,bind_some,Sum.elim_inl] at h;have:(some 0:Option Int)=some s:=h;exact absurd (Option.some.inj this).symm hs
theorem ZT2 {l:List Zae} {op imm:Int} {ks k:List Int} {s:Int} (ho:op=27\/op=29) (hk:k.length=ks.length) (h:F50 l (op,imm,ks) k=some s) (hs:s≠0):s=2/\k=[2,1]:=by
 have ar:ZaY op=(((2:Nat):Int),true):=by rcases ho with rfl | rfl<;>rfl
 obtain ⟨h2,hi⟩:=ZRC ar h hs;obtain ⟨a,b,rfl⟩:∃ a b,k=[a,b]:=by
  rw [h2] at hk
  match k,hk with
  | [a,b],_=>exact ⟨a,b,rfl⟩
 by_cases ha:a=2
 ·by_cases hb:b=1
  ·subst ha hb;rcases ho with rfl | rfl <;>
   ·simp [F50,Z6K,ZAN,hi,ZaY,h2,ZRq,ZRs,ZRw,Zzz,gI] at h;exact ⟨h.symm,rfl⟩
  ·have e:(b==1)=false:=by simpa using hb
   subst ha;rcases ho with rfl | rfl <;>
   ·simp [F50,Z6K,ZAN,hi,ZaY,h2,e,ZRq,ZRs,ZRw,Zzz,gI] at h;exact absurd h.symm hs
 ·have e:(a==2)=false:=by simpa using ha
  rcases ho with rfl | rfl <;>
  ·simp [F50,Z6K,ZAN,hi,ZaY,h2,e,ZRq,ZRs,ZRw,Zzz,gI] at h;exact absurd h.symm hs
theorem ZSp {l:List Zae} {imm:Int} {ks k:List Int} {s:Int} (hk:k.length=ks.length) (h:F50 l (28,imm,ks) k=some s) (hs:s≠0):s=2/\k=[2,1,1]:=by
 have ar:ZaY 28=(((3:Nat):Int),true):=rfl;obtain ⟨h2,hi⟩:=ZRC ar h hs;obtain ⟨a,b,c,rfl⟩:∃ a b c,k=[a,b,c]:=by
  rw [h2] at hk
  match k,hk with
  | [a,b,c],_=>exact ⟨a,b,c,rfl⟩
 by_cases ha:a=2
 ·by_cases hb:b=1
  ·by_cases hc:c=1
   ·subst ha hb hc;simp [F50,Z6K,ZAN,hi,ZaY,h2,ZRq,ZRs,ZRu,Zzz,gI] at h;exact ⟨h.symm,rfl⟩
   ·have e:(c==1)=false:=by simpa using hc
    subst ha hb;simp [F50,Z6K,ZAN,hi,ZaY,h2,e,ZRq,ZRs,ZRu,Zzz,gI] at h;exact absurd h.symm hs
  ·have e:(b==1)=false:=by simpa using hb
   subst ha;simp [F50,Z6K,ZAN,hi,ZaY,h2,e,ZRq,ZRs,ZRu,Zzz,gI] at h;exact absurd h.symm hs
 ·have e:(a==2)=false:=by simpa using ha
  simp [F50,Z6K,ZAN,hi,ZaY,h2,e,ZRq,ZRs,ZRu,Zzz,gI] at h;exact absurd h.symm hs
theorem ZT3 {l:List Zae} {imm:Int} {ks k:List Int} {s:Int} (hk:k.length=ks.length) (h:F50 l (24,imm,ks) k=some s) (hs:s≠0):s=1/\k=[2]:=by
 have ar:ZaY 24=(((1:Nat):Int),true):=rfl;obtain ⟨h2,hi⟩:=ZRC ar h hs;obtain ⟨a,rfl⟩:∃ a,k=[a]:=by
  rw [h2] at hk
  match k,hk with
  | [a],_=>exact ⟨a,rfl⟩
 by_cases ha:a=2
 ·subst ha;simp [F50,Z6K,ZAN,hi,ZaY,h2,ZRq,Zzz,gI] at h;exact ⟨h.symm,rfl⟩
 ·have e:(a==2)=false:=by simpa using ha
  simp [F50,Z6K,ZAN,hi,ZaY,h2,e,ZRq,Zzz,gI] at h;exact absurd h.symm hs
theorem ZTH {l:List Zae} {op imm:Int} {ks k:List Int} {s:Int} (ho:op=20\/op=21) (hk:k.length=ks.length) (h:F50 l (op,imm,ks) k=some s) (hs:s≠0):s=1/\k=[1]:=by
 have ar:ZaY op=(((1:Nat):Int),true):=by rcases ho with rfl | rfl<;>rfl
 obtain ⟨h2,hi⟩:=ZRC ar h hs;obtain ⟨a,rfl⟩:∃ a,k=[a]:=by
  rw [h2] at hk
  match k,hk with
  | [a],_=>exact ⟨a,rfl⟩
 by_cases ha:a=1
 ·subst ha;rcases ho with rfl | rfl <;>
  ·simp [F50,Z6K,ZAN,hi,ZaY,h2,ZRq,ZRs,Zic,ZfI,Zzz,gI] at h;exact ⟨h.symm,rfl⟩
 ·have e:(a==1)=false:=by simpa using ha
  rcases ho with rfl | rfl <;>
  ·simp [F50,Z6K,ZAN,hi,ZaY,h2,e,ZRq,ZRs,Zic,ZfI,Zzz,gI] at h;exact absurd h.symm hs
theorem ZTI {l:List Zae} {op imm:Int} {ks k:List Int} {s:Int} (ho:op=1\/op=2\/op=26) (hk:k.length=ks.length) (h:F50 l (op,imm,ks) k=some s) (hs:s≠0):s=if op=26 then 2 else 1:=by
 have ar:ZaY op=(((0:Nat):Int),true):=by rcases ho with rfl | rfl | rfl<;>rfl
 obtain ⟨h2,hi⟩:=ZRC ar h hs;obtain rfl:k=[]:=List.eq_nil_of_length_eq_zero (by omega);rcases ho with rfl | rfl | rfl <;>
 ·simp [F50,Z6K,ZAN,hi,ZaY,h2,ZRq,ZRs,Zic,ZfI,Zzz,gI] at h;rw [<-h];rfl
structure GSt (lens:List Int) (s:StT):Prop where
 n:s.1.length=lens.length
 l:∀ (k:Nat) c,s.1[k]?=some c->(c.length:Int)=atI lens k/\∀ x∈c,I64 x
 r:I64 s.2.2.2.2.2
theorem GSt.stor {lens:List Int} {s:StT} (h:GSt lens s) (a i:Int) {n:Int} (hn:I64 n):GSt lens (ZRN s a i n):=by
 unfold ZRN;split
 ·rename_i hc;refine ⟨by simp [h.n],fun k c hk=>?_,h.r⟩;dsimp only at hk;rw [List.getElem?_set] at hk;split at hk
  ·rename_i e;split at hk
   ·rename_i hlt;cases hk;rw [<-e];have hg:s.1[a.toNat]?=some s.1[a.toNat]:=getElem?_eq_getElem hlt;obtain ⟨l1,l2⟩:=h.l _ _ hg;rw [hg] at hc |-
    refine ⟨by rw [Zay];exact l1,fun x hx=>?_⟩;unfold Zaq at hx;rcases List.mem_or_eq_of_mem_set hx with h | rfl
    ·exact l2 x h
    ·exact hn
   ·cases hk
  ·exact h.l k c hk
 ·exact h
theorem GSt.next {lens:List Int} {s:StT} (h:GSt lens s) (op imm:Int) {x y:Int} (hx:I64 x) (hy:I64 y):GSt lens (ZR0 op imm s x y):=by
 unfold ZR0;split
 ·exact h.stor imm x hy
 ·split
  ·exact h
  ·split
   ·split
    ·exact ⟨h.n,h.l,h.r⟩
    ·exact h
   ·exact ⟨h.n,h.l,h.r⟩
theorem GSt.cell {lens:List Int} {s:StT} (h:GSt lens s) (a i:Int):I64 (ZRB s a i):=by
 unfold ZRB;split
 ·rename_i hc;cases e:s.1[a.toNat]? with
  | none=>rw [e] at hc;simp at hc;omega
  | some c=>
   rw [e] at hc;have:=(h.l _ _ e).2;show I64 (atI c i);refine this _ ?_;simp only [getD_some] at hc;unfold atI;rw [getElem?_eq_getElem (by omega)];exact getElem_mem _
 ·constructor<;>omega
section
variable {B:Int->Int->Int->Int} {U:Int->Int->Int} (H:ZT1 B U) {A:List Int} (hA:∀ x∈A,I64 x) {σ:StT} {lens:List Int} (hσ:GSt lens σ)
include H hA hσ
def TyV (lens:List Int) (s:Int) (v:VaT):Prop:=(s=1->I64 v.1)/\(s=2->GSt lens v.2/\v.1=0)
theorem ZT4 {l:List Zae} {n:Zae} (ho:OpE n) (hw:ZiV n) {so:Int->Int} {s:Int} (h:F50 l n (n.2.2.map so)=some s) (hs:s≠0) {vs:Int->VaT} (hv:∀ q∈n.2.2,TyV lens (so q) (vs q)):TyV lens s (evM B U A σ vs n):=by
 obtain ⟨op,imm,ks⟩:=n;have hl:(ks.map so).length=ks.length:=by rw [length_map]
 have val:∀ x:Int,I64 x->TyV lens 1 (x,stZ):=fun x hx=>⟨fun _=>hx,fun h=>by omega⟩
 have sta:∀ t:StT,GSt lens t->TyV lens 2 (0,t):=fun t ht=>⟨fun h=>by omega,fun _=>⟨ht,rfl⟩⟩
 have z64:I64 0:=by constructor<;>omega
 unfold OpE at ho;dsimp only at ho h hv;unfold evM;dsimp only;by_cases h1:op=1
 ·have:=ZTI (.inl h1) hl h hs;rw [if_neg (by omega)] at this;rw [if_pos h1,this];exact val _ hw.imm
 rw [if_neg h1];by_cases h2:op=2
 ·have:=ZTI (.inr (.inl h2)) hl h hs;rw [if_neg (by omega)] at this;rw [if_pos h2,this];refine val _ ?_;unfold atI;cases e:A[imm.toNat]? with
  | none=>exact z64
  | some x=>exact hA x (mem_of_getElem? e)
 rw [if_neg h2];by_cases h20:op=20\/op=21
 ·rw [if_pos h20,(ZTH h20 hl h hs).1];exact val _ (H.uw _ _)
 rw [if_neg h20];by_cases h22:op=22
 ·subst h22;rw [if_pos rfl];obtain ⟨e,_⟩:=ZQI hl h hs;obtain ⟨a,b,c,rfl⟩:∃ a b c,ks=[a,b,c]:=by
   have:ks.length=3:=by rw [<-hl,e];rfl
   match ks,this with
   | [a,b,c],_=>exact ⟨a,b,c,rfl⟩
  have e1:so b=s:=(inj (inj e).2).1;have e2:so c=s:=(inj (inj (inj e).2).2).1;split
  ·have:=hv b (by simp);rw [e1] at this;exact this
  ·have:=hv c (by simp);rw [e2] at this;exact this
 rw [if_neg h22];by_cases h23:op=23
 ·subst h23;rw [if_pos rfl];obtain ⟨rfl,e,_⟩:=ZRf hl h hs;obtain ⟨a,b,rfl⟩:∃ a b,ks=[a,b]:=by
   have:ks.length=2:=by rw [<-hl,e];rfl
   match ks,this with
   | [a,b],_=>exact ⟨a,b,rfl⟩
  have e1:so a=2:=(inj e).1;exact val _ (((hv a (by simp)).2 e1).1.cell _ _)
 rw [if_neg h23];by_cases h24:op=24
 ·subst h24;rw [if_pos rfl];obtain ⟨rfl,e⟩:=ZT3 hl h hs;obtain ⟨a,rfl⟩:∃ a,ks=[a]:=by
   have:ks.length=1:=by rw [<-hl,e];rfl
   match ks,this with
   | [a],_=>exact ⟨a,rfl⟩
  exact val _ ((hv a (by simp)).2 (inj e).1).1.r
 rw [if_neg h24];by_cases h26:op=26
 ·have:=ZTI (.inr (.inr h26)) hl h hs;rw [if_pos h26] at this;rw [if_pos h26,this];exact sta _ hσ
 rw [if_neg h26];by_cases h28:op=28
 ·subst h28;rw [if_pos rfl];obtain ⟨rfl,e⟩:=ZSp hl h hs;obtain ⟨a,b,c,rfl⟩:∃ a b c,ks=[a,b,c]:=by
   have:ks.length=3:=by rw [<-hl,e];rfl
   match ks,this with
   | [a,b,c],_=>exact ⟨a,b,c,rfl⟩
  have e1:so a=2:=(inj e).1;have e2:so b=1:=(inj (inj e).2).1;have e3:so c=1:=(inj (inj (inj e).2).2).1;exact sta _ (((hv a (by simp)).2 e1).1.next _ _ ((hv b (by simp)).1 e2) ((hv c (by simp)).1 e3))
 rw [if_neg h28];by_cases h27:op=27\/op=29
 ·rw [if_pos h27];obtain ⟨rfl,e⟩:=ZT2 h27 hl h hs;obtain ⟨a,b,rfl⟩:∃ a b,ks=[a,b]:=by
   have:ks.length=2:=by rw [<-hl,e];rfl
   match ks,this with
   | [a,b],_=>exact ⟨a,b,rfl⟩
  have e1:so a=2:=(inj e).1;have e2:so b=1:=(inj (inj e).2).1;exact sta _ (((hv a (by simp)).2 e1).1.next _ _ ((hv b (by simp)).1 e2) z64)
 rw [if_neg h27];have hb:4<=op/\op<=19:=by omega
 rw [(ZQJ hb hl (by rw [hl];exact hw.k) h hs).1];exact val _ (H.bw _ _ _)
theorem ZSq {L:List Zae} (hL:PoolH L) (hs:SP L) (ho:∀ x∈L,OpE x) (hw:∀ x∈L,ZiV x):∀ (b:Nat) (i:Int),inR L.length i->i < b->TyV lens (srt L i) (ZRr B U A σ L i)
 | 0,i,hi,h=>by have:=hi.1;omega
 | b+1,i,hi,h=>by
  rw [ZRt B U A σ hL ho hi];refine ZT4 H hA hσ (ho _ (ZKF hi)) (hw _ (ZKF hi)) (ZQU hL hs hi) (hs i hi) fun q hq=>?_;have:=hL.k _ _ (ZKS hi) q hq;have h1:=hi.1;have h2:=hi.2
  exact ZSq hL hs ho hw b q ⟨this.1,by omega⟩ (by omega)
end
theorem ZRE (n:Int):∃ c:Int,wrap .i64 n=n+c * 18446744073709551616:=by
 show ∃ c:Int,(let m:=n % (2 ^ 64:Int);if true&&m>=(2 ^ 63:Int) then m - (2 ^ 64:Int) else m)=n+c * 18446744073709551616;simp only [Bool.true_and,decide_eq_true_eq];split
 ·exact ⟨-(n / 18446744073709551616) - 1,by omega⟩
 ·exact ⟨-(n / 18446744073709551616),by omega⟩
theorem ZTc {a b:Int} (c:Int) (h:a=b+c * 18446744073709551616):wrap .i64 a=wrap .i64 b:=by
 obtain ⟨x,hx⟩:=ZRE a;obtain ⟨y,hy⟩:=ZRE b;have h1:=ZLB a;have h2:=ZLB b;omega
theorem ZS8 (a b:Int):wrap .i64 (a+wrap .i64 (-b))=wrap .i64 (a - b):=by
 obtain ⟨c,hc⟩:=ZRE (-b);exact ZTc c (by omega)
section
variable {B:Int->Int->Int->Int} {U:Int->Int->Int} (H:ZT1 B U) {A:List Int} (hA:∀ x∈A,I64 x) {σ:StT} {lens:List Int} (hσ:GSt lens σ)
variable {L:List Zae} (hL:ZLs L) (hs:SP L) (ho:∀ x∈L,OpE x)
include hL
theorem ZRA {n:Zae} (ho:∀ x∈L,OpE x) (hk:∀ q∈n.2.2,inR L.length q) (ha:∀ m:Nat,ZaY n.1=((m:Int),true)->n.2.2.length=m) (hn:OpE n):ZRr B U A σ (plM L n).2 (plM L n).1=evM B U A σ (ZRr B U A σ L) n/\(∀ x∈(plM L n).2,OpE x)/\∀ j,inR L.length j->ZRr B U A σ (plM L n).2 j=ZRr B U A σ L j:=by
 obtain ⟨c1,c2,_,⟨es,c4⟩,c5⟩:=hL.toPoolH.plM hk ha;have ho':∀ x∈(plM L n).2,OpE x:=fun x hx=>by
  have e1:(plM L n).2=ZHQ L n:=rfl;rw [e1] at hx;unfold ZHQ at hx;split at hx
  ·exact ho x hx
  ·rcases mem_append.1 hx with hx | hx
   ·exact ho x hx
   ·rw [mem_singleton.1 hx];exact hn
 have hx:∀ j,inR L.length j->ZRr B U A σ (plM L n).2 j=ZRr B U A σ L j:=fun j hj=>by rw [c4];exact ZS7 B U A σ L es hj
 refine ⟨?_,ho',hx⟩;rw [ZRt B U A σ c1 ho' c2];have en:nA (plM L n).2 (plM L n).1=n:=by unfold nA;rw [c5];rfl
 rw [en];exact ZRO B U A σ hn ha fun q hq=>hx q (hk q hq)
theorem ZRT (ho:∀ x∈L,OpE x) {i n:Int} (hi:inR L.length i) (h:isC L i n=true):ZRr B U A σ L i=(n,stZ):=by
 obtain ⟨h1,h2⟩:=ZTx h;rw [ZRt B U A σ hL.toPoolH ho hi];unfold evM;rw [if_pos h1,h2]
theorem ZR7 (ho:∀ x∈L,OpE x) {i op:Int} (hop:4<=op/\op<=19) (hi:inR L.length i) (h:(nA L i).1=op):ZRr B U A σ L i=(B op (ZRr B U A σ L (kk (nA L i) 0)).1 (ZRr B U A σ L (kk (nA L i) 1)).1,stZ):=by
 rw [ZRt B U A σ hL.toPoolH ho hi];unfold evM;rw [if_neg (by omega),if_neg (by omega),if_neg (by omega),if_neg (by omega),if_neg (by omega),if_neg (by omega),if_neg (by omega),if_neg (by omega),if_neg (by omega),h]
include H
omit hL in
theorem ZRZ (n:Zae) (h4:n.1=4) (vs:Int->VaT):evM B U A σ vs (ZLe L n)=evM B U A σ vs n:=by
 unfold ZLe;split
 ·have e:∀ x:Zae,x.1=4->evM B U A σ vs x=(B 4 (vs (kk x 0)).1 (vs (kk x 1)).1,stZ):=fun x hx=>by
   unfold evM;rw [if_neg (by omega),if_neg (by omega),if_neg (by omega),if_neg (by omega),if_neg (by omega),if_neg (by omega),if_neg (by omega),if_neg (by omega),if_neg (by omega),hx]
  rw [e _ rfl,e _ h4];show (B 4 (vs (kk n 1)).1 (vs (kk n 0)).1,stZ)=_;rw [H.b4,H.b4,Int.add_comm]
 ·rfl
include hA hσ hs ho
theorem ZSa {i:Int} (hi:inR L.length i):TyV lens (srt L i) (ZRr B U A σ L i):=ZSq H hA hσ hL.toPoolH hs ho hL.w (i.toNat+1) i hi (by have:=hi.1;omega)
theorem ZRU {i:Int} (hi:inR L.length i) (h:srt L i=1):I64 (ZRr B U A σ L i).1:=(ZSa H hA hσ hL hs ho hi).1 h
theorem ZTk {i op:Int} (hop:4<=op/\op<=19) (hi:inR L.length i) (h:(nA L i).1=op):inR L.length (kk (nA L i) 0)/\inR L.length (kk (nA L i) 1)/\I64 (ZRr B U A σ L (kk (nA L i) 0)).1/\I64 (ZRr B U A σ L (kk (nA L i) 1)).1:=by
 have ar:ZaY (nA L i).1=(((2:Nat):Int),true):=by
  unfold ZaY;rw [if_neg (by omega),if_neg (by omega),if_pos (by omega)];rfl
 have r0:=hL.toPoolH.kidR hi ar (k:=0) (by omega);have r1:=hL.toPoolH.kidR hi ar (k:=1) (by omega);obtain ⟨a,b,_⟩:=hL.kid1 hs hop hi h;exact ⟨r0,r1,ZRU H hA hσ hL hs ho r0 a,ZRU H hA hσ hL hs ho r1 b⟩
theorem ZSM {i b:Int} (hi:inR L.length i) (h:zT L i b=true):ZRr B U A σ L i=(if (ZRr B U A σ L b).1=0 then 1 else 0,stZ):=by
 unfold zT at h;simp only [and_eq_true,beq_iff_eq] at h;obtain ⟨⟨h1,h2⟩,h3⟩:=h;obtain ⟨_,r1,_,_⟩:=ZTk H hA hσ hL hs ho (op:=15) (by omega) hi h1;rw [ZR7 hL ho (op:=15) (by omega) hi h1,h2,ZRT hL ho r1 h3,H.b15]
theorem ZS9 {d b e:Int} (hd:inR L.length d) (h:ZLG L d=some (b,e)):inR L.length b/\inR L.length e/\I64 (ZRr B U A σ L b).1/\(ZRr B U A σ L e).1=(if (ZRr B U A σ L b).1=0 then 1 else 0)/\((ZRr B U A σ L b).1≠0->(ZRr B U A σ L d).1=(ZRr B U A σ L b).1):=by
 unfold ZLG at h;split at h
 ·rename_i h4;obtain ⟨r0,r1,w0,w1⟩:=ZTk H hA hσ hL hs ho (op:=4) (by omega) hd h4;have ed:=ZR7 (B:=B) (U:=U) (A:=A) (σ:=σ) hL ho (op:=4) (by omega) hd h4;split at h
  ·rename_i hz;cases h;have ez:=ZSM H hA hσ hL hs ho r1 hz;refine ⟨r0,r1,w0,by rw [ez],fun hb=>?_⟩;rw [ed,H.b4,ez,if_neg hb];exact Zau (by have:=w0.1;simp only [Int.add_zero];omega) (by have:=w0.2;simp only [Int.add_zero];omega) |>.trans (by simp)
  ·split at h
   ·rename_i hz;cases h;have ez:=ZSM H hA hσ hL hs ho r0 hz;refine ⟨r1,r0,w1,by rw [ez],fun hb=>?_⟩;rw [ed,H.b4,ez,if_neg hb];exact Zau (by have:=w1.1;simp only [Int.zero_add];omega) (by have:=w1.2;simp only [Int.zero_add];omega) |>.trans (by simp)
   ·cases h
 ·cases h
theorem ZSr {c i k:Int} (hc:inR L.length c) (hi:inR L.length i) (h:inB L lens c i k=true):I64 (ZRr B U A σ L i).1/\0<=k/\k < lens.length/\(ZRr B U A σ L c).1=if 0<=(ZRr B U A σ L i).1/\(ZRr B U A σ L i).1 < atI lens k then 1 else 0:=by
 unfold inB at h;simp only [and_eq_true,beq_iff_eq,decide_eq_true_eq] at h;obtain ⟨⟨⟨h0,h1⟩,h2⟩,h3⟩:=h;obtain ⟨r0,r1,w0,w1⟩:=ZTk H hA hσ hL hs ho (op:=19) (by omega) hc h1;have ev:=ZRT (B:=B) (U:=U) (A:=A) (σ:=σ) hL ho r1 h3;rw [ev] at w1;have hk:0<=k/\k < lens.length:=by
  unfold Zjl at h0;split at h0
  ·assumption
  ·omega
 have hla:Zjl lens k=atI lens k:=by unfold Zjl;rw [if_pos hk]
 rw [h2] at w0;refine ⟨w0,hk.1,hk.2,?_⟩;rw [ZR7 hL ho (op:=19) (by omega) hc h1,h2,ev];show B 19 _ (Zjl lens k)=_;rw [H.b19 _ _ w0 w1 h0,hla]
theorem ZSs {i k:Int} (hi:inR L.length i) (h:srt L i=2) (h0:0<=k) (h1:k < lens.length):(((ZRr B U A σ L i).2.1[k.toNat]?.getD []).length:Int)=atI lens k:=by
 have g:=((ZSa H hA hσ hL hs ho hi).2 h).1;have hlt:k.toNat < (ZRr B U A σ L i).2.1.length:=by rw [g.n];omega
 have:=(g.l k.toNat _ (getElem?_eq_getElem hlt)).1;rw [getElem?_eq_getElem hlt];show ((ZRr B U A σ L i).2.1[k.toNat].length:Int)=_;rw [this];congr 1;omega
end
theorem ZSt {s:StT} {a i:Int} (h:¬ (0<=i/\i < (s.1[a.toNat]?.getD []).length)):ZRB s a i=0:=by unfold ZRB;rw [if_neg h]
theorem ZSu {s:StT} {a i n:Int} (h:¬ (0<=i/\i < (s.1[a.toNat]?.getD []).length)):ZRN s a i n=s:=by unfold ZRN;rw [if_neg h]
section
variable {B:Int->Int->Int->Int} {U:Int->Int->Int} (H:ZT1 B U) {A:List Int} (hA:∀ x∈A,I64 x) {σ:StT} {lens:List Int} (hσ:GSt lens σ)
variable {L:List Zae} (hL:ZLs L) (hs:SP L) (ho:∀ x∈L,OpE x)
include H hA hσ hL hs ho
theorem ZSA {a m:Int} {x:Zae} (ha:inR L.length a) (hm:inR L.length m) (sa:srt L a=1) (hx:ZLh L lens a m=some x):evM B U A σ (ZRr B U A σ L) x=(B 9 (ZRr B U A σ L a).1 (ZRr B U A σ L m).1,stZ)/\OpE x:=by
 have wa:=ZRU H hA hσ hL hs ho ha sa;unfold ZLh at hx;split at hx
 ·rename_i h78;have hop:4<=(nA L a).1/\(nA L a).1<=19:=by rcases h78 with e | e<;>omega
  obtain ⟨r0,r1,w0,w1⟩:=ZTk H hA hσ hL hs ho hop ha rfl;have ea:=ZR7 (B:=B) (U:=U) (A:=A) (σ:=σ) hL ho hop ha rfl;cases hd:ZLG L (kk (nA L a) 1) with
  | none=>rw [hd] at hx;cases hx
  | some be=>
   obtain ⟨b,e⟩:=be;rw [hd] at hx;dsimp only at hx;obtain ⟨rb,re,wb,ve,vd⟩:=ZS9 H hA hσ hL hs ho r1 hd;split at hx
   ·rename_i hc;obtain ⟨h4,hke,hkc⟩:=hc;cases hx;obtain ⟨q0,q1,_,_⟩:=ZTk H hA hσ hL hs ho (op:=4) (by omega) hm h4;have em:=ZR7 (B:=B) (U:=U) (A:=A) (σ:=σ) hL ho (op:=4) (by omega) hm h4;rw [hke,ZRT hL ho q1 hkc,H.b4,ve] at em;refine ⟨?_,by unfold OpE;dsimp only;omega⟩;have ex:evM B U A σ (ZRr B U A σ L) ((nA L a).1,(nA L a).2.1,[kk (nA L a) 0,b])=(B (nA L a).1 (ZRr B U A σ L (kk (nA L a) 0)).1 (ZRr B U A σ L b).1,stZ):=by
     unfold evM;dsimp only;rw [if_neg (by omega),if_neg (by omega),if_neg (by omega),if_neg (by omega),if_neg (by omega),if_neg (by omega),if_neg (by omega),if_neg (by omega),if_neg (by omega)];rfl
    rw [ex];by_cases hb:(ZRr B U A σ L b).1=0
    ·rw [if_pos hb] at em;have em':(ZRr B U A σ L m).1=0:=by rw [em];exact (by decide:wrap .i64 (1+-1)=0)
     rw [em',H.b9,hb];rcases h78 with e | e
     ·rw [e,H.b7]
     ·rw [e,H.b8]
    ·rw [if_neg hb] at em;have em':(ZRr B U A σ L m).1=-1:=by rw [em];exact (by decide:wrap .i64 (0+-1)=-1)
     rw [em',H.b9' _ wa,ea,vd hb]
   ·cases hx
 ·split at hx
  ·rename_i h78 h23;split at hx
   ·rename_i hc;obtain ⟨c9,cm,c20,cB⟩:=hc;cases hx;have ar:ZaY (nA L a).1=(((2:Nat):Int),true):=by rw [h23];rfl
    have r0:=hL.toPoolH.kidR ha ar (k:=0) (by omega);have r1:=hL.toPoolH.kidR ha ar (k:=1) (by omega);obtain ⟨i0,i1,_,_⟩:=ZTk H hA hσ hL hs ho (op:=9) (by omega) r1 c9;have arm:ZaY (nA L m).1=(((1:Nat):Int),true):=by rw [c20];rfl
    have rc:=hL.toPoolH.kidR hm arm (k:=0) (by omega);obtain ⟨wi,k0,k1,vc⟩:=ZSr H hA hσ hL hs ho rc i0 cB;have em:ZRr B U A σ L m=(U 20 (ZRr B U A σ L (kk (nA L m) 0)).1,stZ):=by
     rw [ZRt B U A σ hL.toPoolH ho hm];unfold evM;rw [if_neg (by omega),if_neg (by omega),if_pos (.inl c20),c20]
    have ew:=ZR7 (B:=B) (U:=U) (A:=A) (σ:=σ) hL ho (op:=9) (by omega) r1 c9;rw [cm] at ew;have ea:ZRr B U A σ L a=(ZRB (ZRr B U A σ L (kk (nA L a) 0)).2 (nA L a).2.1 (ZRr B U A σ L (kk (nA L a) 1)).1,stZ):=by
     rw [ZRt B U A σ hL.toPoolH ho ha];unfold evM;rw [if_neg (by omega),if_neg (by omega),if_neg (by omega),if_neg (by omega),if_pos h23]
    have ss:srt L (kk (nA L a) 0)=2:=by
     have hns:=ZQU hL.toPoolH hs ha;have hla:=hL.a _ (ZKF ha) 2 ar;obtain ⟨y,hy⟩:∃ y,y=nA L a:=⟨_,rfl⟩
     rw [<-hy] at hns h23 hla |-
     obtain ⟨op,imm,ks⟩:=y;dsimp only at h23 hla hns;subst h23;obtain ⟨_,e2,e3⟩:=ZRf (l:=L) (by rw [length_map]) hns (hs _ ha);obtain ⟨a,b,rfl⟩:∃ a b,ks=[a,b]:=by
      match ks,hla with
      | [a,b],_=>exact ⟨a,b,rfl⟩
     exact (inj e2).1
    have hln:=ZSs H hA hσ hL hs ho r0 ss k0 k1;refine ⟨?_,by have:=ho _ (ZKF ha);unfold OpE at this |-;dsimp only;omega⟩;show (ZRB (ZRr B U A σ L (kk (nA L a) 0)).2 (nA L a).2.1 (ZRr B U A σ L (kk (nA L (kk (nA L a) 1)) 0)).1,stZ)=_;by_cases hi:0<=(ZRr B U A σ L (kk (nA L (kk (nA L a) 1)) 0)).1/\(ZRr B U A σ L (kk (nA L (kk (nA L a) 1)) 0)).1 < atI lens (nA L a).2.1
    ·rw [if_pos hi] at vc;have em':(ZRr B U A σ L m).1=-1:=by rw [em,vc,H.u20];exact (by decide:wrap .i64 (-1)=-1)
     rw [em',H.b9' _ wa,ea,ew,em',H.b9' _ wi]
    ·rw [if_neg hi] at vc;have em':(ZRr B U A σ L m).1=0:=by rw [em,vc,H.u20];exact (by decide:wrap .i64 (-0)=0)
     rw [em',H.b9,ZSt (by rw [hln];exact hi)]
   ·cases hx
  ·cases hx
theorem ZTd (hb:L.length < 100000) {n:Zae} (hn:ZLt L n) (hon:OpE n) {s:Int} (h:F50 L n (n.2.2.map (srt L))=some s) (h0:s≠0):ZRr B U A σ (inM lens L n).2 (inM lens L n).1=evM B U A σ (ZRr B U A σ L) n/\(∀ x∈(inM lens L n).2,OpE x)/\∀ j,inR L.length j->ZRr B U A σ (inM lens L n).2 j=ZRr B U A σ L j:=by
 have pl:=ZRA (B:=B) (U:=U) (A:=A) (σ:=σ) hL ho hn.k hn.a hon;unfold inM;split
 ·rename_i h4;have hf:=ZLi hL hn h4;have:=ZRA (B:=B) (U:=U) (A:=A) (σ:=σ) hL ho hf.k hf.a (by
   unfold ZLe;split
   ·unfold OpE;dsimp only;omega
   ·exact hon)
  rw [ZRZ H n h4] at this;exact this
 ·split
  ·rename_i h4 h5;have hl:=hn.a 2 (by rw [h5.1];rfl);have r0:=hn.k _ (ZK6 (k:=0) hl (by omega));have r1:=hn.k _ (ZK6 (k:=1) hl (by omega));have hc:ZLt L (1,wrap .i64 (-(nA L (kk n 1)).2.1),[]):=by
    refine ⟨⟨by show I64 1;constructor<;>omega,ZLB _,by simp,(fun x hx=>by cases hx)⟩,(fun q hq=>by cases hq),fun m hm=>?_⟩;have:ZaY 1=((m:Int),true):=hm;simp [ZaY] at this;show 0=m;omega
   have hL2:=ZKP hL hc hb;have hf2:=ZLI hL hc hb r0;obtain ⟨v1,v2,v3⟩:=ZRA (B:=B) (U:=U) (A:=A) (σ:=σ) hL ho hc.k hc.a (by unfold OpE;dsimp only;omega);have v1':ZRr B U A σ (plM L (1,wrap .i64 (-(nA L (kk n 1)).2.1),[])).2 (plM L (1,wrap .i64 (-(nA L (kk n 1)).2.1),[])).1=(wrap .i64 (-(nA L (kk n 1)).2.1),stZ):=v1;have hff:=ZLi hL2 hf2 rfl;obtain ⟨w1,w2,w3⟩:=ZRA (B:=B) (U:=U) (A:=A) (σ:=σ) hL2 v2 hff.k hff.a (by unfold ZLe;split<;>(unfold OpE;dsimp only;omega));rw [ZRZ H _ rfl] at w1;have up:∀ j,inR L.length j->inR (plM L (1,wrap .i64 (-(nA L (kk n 1)).2.1),[])).2.length j:=fun j hj=>by
    obtain ⟨_,_,_,⟨es,c4⟩⟩:=ZKT hL.toPoolH hc.k hc.a;rw [c4,length_append];exact ⟨hj.1,by have:=hj.2;omega⟩
   refine ⟨?_,w2,fun j hj=>(w3 j (up j hj)).trans (v3 j hj)⟩;refine w1.trans ?_;show (B 4 (ZRr B U A σ _ (kk n 0)).1 (ZRr B U A σ _ (plM L (1,wrap .i64 (-(nA L (kk n 1)).2.1),[])).1).1,stZ)=_;rw [v1',v3 _ r0,H.b4];have e1:ZRr B U A σ L (kk n 1)=((nA L (kk n 1)).2.1,stZ):=by
    rw [ZRt B U A σ hL.toPoolH ho r1];unfold evM;rw [if_pos h5.2]
   have e2:evM B U A σ (ZRr B U A σ L) n=(B 5 (ZRr B U A σ L (kk n 0)).1 (ZRr B U A σ L (kk n 1)).1,stZ):=by
    have h5':=h5.1;unfold evM;rw [if_neg (by omega),if_neg (by omega),if_neg (by omega),if_neg (by omega),if_neg (by omega),if_neg (by omega),if_neg (by omega),if_neg (by omega),if_neg (by omega),h5']
   rw [e2,e1,H.b5];show (wrap .i64 (_+wrap .i64 (-_)),stZ)=_;rw [ZS8]
  ·split
   ·rename_i h9;have hl:=hn.a 2 (by rw [h9];rfl);have r0:=hn.k _ (ZK6 (k:=0) hl (by omega));have r1:=hn.k _ (ZK6 (k:=1) hl (by omega));cases hx:ZLh L lens (kk n 0) (kk n 1) with
    | none=>exact pl
    | some x=>
     have hf:=ZLu hL lens r0 hx;have s0:srt L (kk n 0)=1:=by
      obtain ⟨op,imm,ks⟩:=n;dsimp only at h9;subst h9;exact (ZQJ (l:=L) (by omega) (by rw [length_map]) (by rw [length_map];exact hn.w.k) h h0).2.1 _ (mem_map.2 ⟨_,ZK6 (n:=(9,imm,ks)) hl (by omega),rfl⟩)
     obtain ⟨ev,hox⟩:=ZSA H hA hσ hL hs ho r0 r1 s0 hx;have:=ZRA (B:=B) (U:=U) (A:=A) (σ:=σ) hL ho hf.k hf.a hox;rw [ev] at this;have e2:evM B U A σ (ZRr B U A σ L) n=(B 9 (ZRr B U A σ L (kk n 0)).1 (ZRr B U A σ L (kk n 1)).1,stZ):=by
      unfold evM;rw [if_neg (by omega),if_neg (by omega),if_neg (by omega),if_neg (by omega),if_neg (by omega),if_neg (by omega),if_neg (by omega),if_neg (by omega),if_neg (by omega),h9]
     rw [e2];exact this
   ·split
    ·rename_i h4 h5 h9 h22;refine ⟨?_,ho,fun j _=>rfl⟩;have hl:=hn.a 3 (by rw [h22.1];rfl);have r0:=hn.k _ (ZK6 (k:=0) hl (by omega));have r1:=hn.k _ (ZK6 (k:=1) hl (by omega));have r2:=hn.k _ (ZK6 (k:=2) hl (by omega));have e2:evM B U A σ (ZRr B U A σ L) n=if (ZRr B U A σ L (kk n 0)).1≠0 then ZRr B U A σ L (kk n 1) else ZRr B U A σ L (kk n 2):=by
      have:=h22.1;unfold evM;rw [if_neg (by omega),if_neg (by omega),if_neg (by omega),if_pos this]
     rw [e2];dsimp only;obtain ⟨h22,hq⟩:=h22;rcases hq with hq | ⟨h28,hk2,hB⟩
     ·rw [<-hq];split<;>rfl
     ·split
      ·rfl
      ·rename_i hz;have hz:(ZRr B U A σ L (kk n 0)).1=0:=by simpa using hz
       have ar:ZaY (nA L (kk n 1)).1=(((3:Nat):Int),true):=by rw [h28];rfl
       have q1:=hL.toPoolH.kidR r1 ar (k:=1) (by omega);obtain ⟨wi,k0,k1,vc⟩:=ZSr H hA hσ hL hs ho r0 q1 hB;have s2:srt L (kk n 2)=2/\srt L (kk n 1)=2:=by
        have hns:=ZQU hL.toPoolH hs r1;have hla:=hL.a _ (ZKF r1) 3 ar;have hsr:=hs _ r1;rw [<-hk2];obtain ⟨y,hy⟩:∃ y,y=nA L (kk n 1):=⟨_,rfl⟩
        rw [<-hy] at hns h28 hla |-
        obtain ⟨op,imm,ks⟩:=y;dsimp only at h28 hla hns;subst h28;obtain ⟨e1,e2⟩:=ZSp (l:=L) (by rw [length_map]) hns hsr;obtain ⟨a,b,c,rfl⟩:∃ a b c,ks=[a,b,c]:=by
         match ks,hla with
         | [a,b,c],_=>exact ⟨a,b,c,rfl⟩
        exact ⟨(inj e2).1,e1⟩
       have hln:=ZSs H hA hσ hL hs ho r2 s2.1 k0 k1;have ev:ZRr B U A σ L (kk n 1)=(0,ZR0 28 (nA L (kk n 1)).2.1 (ZRr B U A σ L (kk (nA L (kk n 1)) 0)).2 (ZRr B U A σ L (kk (nA L (kk n 1)) 1)).1 (ZRr B U A σ L (kk (nA L (kk n 1)) 2)).1):=by
        rw [ZRt B U A σ hL.toPoolH ho r1];unfold evM;rw [if_neg (by omega),if_neg (by omega),if_neg (by omega),if_neg (by omega),if_neg (by omega),if_neg (by omega),if_neg (by omega),if_pos h28]
       rw [ev,hk2];unfold ZR0;rw [if_pos rfl,ZSu]
       ·have:=((ZSa H hA hσ hL hs ho r2).2 s2.1).2;exact Prod.ext this.symm rfl
       ·rw [hln];intro hi;rw [if_pos hi] at vc;omega
    ·exact pl
end
section
variable {B:Int->Int->Int->Int} {U:Int->Int->Int} (H:ZT1 B U) {A:List Int} (hA:∀ x∈A,I64 x) {σ:StT} {lens:List Int} (hσ:GSt lens σ)
theorem ZSv {vs ws:Int->VaT} {op imm:Int} {ks:List Int} {r:Int->Int} (hn:OpE (op,imm,ks)) (ha:∀ m:Nat,ZaY op=((m:Int),true)->ks.length=m) (h:∀ q∈ks,vs (r q)=ws q):evM B U A σ vs (op,imm,ks.map r)=evM B U A σ ws (op,imm,ks):=by
 have K:∀ {m:Nat} (k:Nat),ZaY op=((m:Int),true)->k < m->vs (kk (op,imm,ks.map r) k)=ws (kk (op,imm,ks) k):=fun {m} k e hk=>by
  have hl:=ha m e;have e2:kk (op,imm,ks.map r) k=r (kk (op,imm,ks) k):=by
   unfold kk;dsimp only;rw [getElem?_map,getElem?_eq_getElem (by omega)];rfl
  rw [e2];exact h _ (ZK6 (n:=(op,imm,ks)) hl hk)
 unfold evM;dsimp only;by_cases h1:op=1
 ·rw [if_pos h1,if_pos h1]
 rw [if_neg h1,if_neg h1];by_cases h2:op=2
 ·rw [if_pos h2,if_pos h2]
 rw [if_neg h2,if_neg h2];by_cases h20:op=20\/op=21
 ·rw [if_pos h20,if_pos h20,K (m:=1) 0 (by rcases h20 with e | e<;>rw [e]<;>rfl) (by omega)]
 rw [if_neg h20,if_neg h20];by_cases h22:op=22
 ·have e:ZaY op=(((3:Nat):Int),true):=by rw [h22];rfl
  rw [if_pos h22,if_pos h22,K 0 e (by omega),K 1 e (by omega),K 2 e (by omega)]
 rw [if_neg h22,if_neg h22];by_cases h23:op=23
 ·have e:ZaY op=(((2:Nat):Int),true):=by rw [h23];rfl
  rw [if_pos h23,if_pos h23,K 0 e (by omega),K 1 e (by omega)]
 rw [if_neg h23,if_neg h23];by_cases h24:op=24
 ·have e:ZaY op=(((1:Nat):Int),true):=by rw [h24];rfl
  rw [if_pos h24,if_pos h24,K 0 e (by omega)]
 rw [if_neg h24,if_neg h24];by_cases h26:op=26
 ·rw [if_pos h26,if_pos h26]
 rw [if_neg h26,if_neg h26];by_cases h28:op=28
 ·have e:ZaY op=(((3:Nat):Int),true):=by rw [h28];rfl
  rw [if_pos h28,if_pos h28,K 0 e (by omega),K 1 e (by omega),K 2 e (by omega)]
 rw [if_neg h28,if_neg h28];have e:ZaY op=(((2:Nat):Int),true):=by
  have:(4<=op/\op<=19)\/op=27\/op=29:=by unfold OpE at hn;dsimp only at hn;omega
  unfold ZaY;rw [if_neg (by omega),if_neg (by omega),if_pos (by omega)];rfl
 rw [K 0 e (by omega),K 1 e (by omega)]
structure ZT5 (B:Int->Int->Int->Int) (U:Int->Int->Int) (A:List Int) (σ:StT) (g:List Zae) (i:Nat) (nums:List Int) (L:List Zae):Prop where
 oe:∀ x∈L,OpE x
 va:∀ j:Nat,j < i->ZRr B U A σ L (atI nums j)=ZRr B U A σ g j
theorem OpE.ren {x:Zae} (h:OpE x) (ks:List Int):OpE (x.1,x.2.1,ks):=h
include H hA hσ
theorem ZSw {g:List Zae} (hs:ZO7 g) (hw:∀ x∈g,ZiV x) (hl:g.length≤10000) (hz:∀ j:Nat,j < g.length->srt g j≠0) (hg:PoolH g) (ho:∀ x∈g,OpE x):∀ i≤g.length,ZT5 B U A σ g i (ZK7 lens (g.take i)).1 (ZK7 lens (g.take i)).2
 | 0,_=>by
  have:ZK7 lens (g.take 0)=([],[]):=by simp [ZK7]
  rw [this];exact ⟨fun x hx=>(by cases hx),fun j hj=>by omega⟩
 | i+1,hi=>by
  obtain ⟨x,hx⟩:=ZeS (l:=g) (i:=i) (by omega);have hV:=ZSw hs hw hl hz hg ho i (by omega);have hT:=ZQY (p:=lens) hs hw hl hz i (by omega);have hN:=ZLw (p:=lens) hs hw hl i (by omega);rw [ZLb hx];obtain ⟨nums,hnums⟩:∃ n,n=(ZK7 lens (g.take i)).1:=⟨_,rfl⟩
  obtain ⟨L,hL⟩:∃ n,n=(ZK7 lens (g.take i)).2:=⟨_,rfl⟩
  have e2:ZK7 lens (g.take i)=(nums,L):=by rw [hnums,hL]
  rw [e2] at hT hN hV |-
  dsimp only at hT hN hV;have hxm:=mem_of_getElem? hx;have hxs:=hs i x hx;have hxw:=hw x hxm;have hf:=ZM9 hN hxs hxw;have hb:L.length < 100000:=by have:=hN.sz;omega
  have nl:=hN.len;have hir:inR g.length (i:Int):=⟨by omega,by omega⟩
  have enx:=ZRl hx;have hzi:=hz i (by omega);have e0:F50 g x (x.2.2.map (srt g))=some (srt g i):=by
   refine ZQK ?_ hzi;have:=ZQP hir (fun q hq=>by
    rw [enx] at hq;obtain ⟨a,b⟩:=hxs.k q hq;obtain ⟨m,rfl⟩:∃ m:Nat,q=m:=⟨q.toNat,by omega⟩
    exact ⟨a,b,hz m (by omega)⟩)
   rw [enx] at this;exact this
  have em:(x.2.2.map (atI nums)).map (srt L)=x.2.2.map (srt g):=by
   rw [map_map];refine map_congr_left fun q hq=>?_;obtain ⟨a,b⟩:=hxs.k q hq;obtain ⟨m,rfl⟩:∃ m:Nat,q=m:=⟨q.toNat,by omega⟩
   exact hT.so m (by omega)
  have h1:F50 L (x.1,x.2.1,x.2.2.map (atI nums)) ((x.2.2.map (atI nums)).map (srt L))=some (srt g i):=by
   rw [em,<-e0];symm;refine ZQO (l:=g) (op:=x.1) (imm:=x.2.1) (ks:=x.2.2) (by rw [length_map]) fun h25 _=>?_;have:=ho x hxm;unfold OpE at this;omega
  obtain ⟨w1,w2,w3⟩:=ZTd H hA hσ hN.W hT.sp hV.oe hb hf ((ho x hxm).ren _) h1 hzi;have numR:∀ j:Nat,j < i->inR L.length (atI nums j):=fun j hj=>(hN.hb _ (by
   unfold atI;rw [toNat_natCast,getElem?_eq_getElem (by omega)];exact getElem_mem _)).r
  have old:∀ j:Nat,j < i->∀ r:Int,atI (nums++[r]) j=atI nums j:=fun j hj r=>by
   unfold atI;rw [toNat_natCast,getElem?_append_left (by omega)]
  have last:∀ r:Int,atI (nums++[r]) (i:Nat)=r:=fun r=>by
   unfold atI;rw [toNat_natCast,getElem?_append_right (by omega),nl,sub_self];rfl
  show ZT5 B U A σ g (i+1) (nums++[(inM lens L (x.1,x.2.1,x.2.2.map (atI nums))).1]) (inM lens L (x.1,x.2.1,x.2.2.map (atI nums))).2;refine ⟨w2,fun j hj=>?_⟩;by_cases e:j=i
  ·subst e;rw [last,w1,ZRt B U A σ hg ho hir,enx];refine ZSv (ho x hxm) (fun m hm=>?_) fun q hq=>?_
   ·have:=hf.a m hm;dsimp only at this
    rwa [length_map] at this
   ·obtain ⟨a,b⟩:=hxs.k q hq;obtain ⟨m,rfl⟩:∃ m:Nat,q=m:=⟨q.toNat,by omega⟩
    exact hV.va m (by omega)
  ·rw [old j (by omega),w3 _ (numR j (by omega))];exact hV.va j (by omega)
omit H hA hσ in
theorem ZRV {L:List Zae} (hL:PoolH L) {num:List Int} {out:List Zae} (ok:ZLr L num out) (hO:PoolH out) (ho:∀ x∈L,OpE x) (hoo:∀ x∈out,OpE x):∀ (b:Nat) (j:Int),inR L.length j->0<=atI num j->atI num j < b->ZRr B U A σ out (atI num j)=ZRr B U A σ L j
 | 0,j,hj,h0,hb=>by omega
 | b+1,j,hj,h0,hb=>by
  obtain ⟨a1,a2,a3⟩:=ok.at_ j hj h0;have en:=ZQG hL ok hj h0;have hkid:∀ q∈(nA L j).2.2,inR L.length q:=fun q hq=>by
   have:=hL.k _ _ (ZKS hj) q hq;have h1:=hj.1;have h2:=hj.2
   exact ⟨this.1,by omega⟩
  have ih:∀ q∈(nA L j).2.2,ZRr B U A σ out (atI num q)=ZRr B U A σ L q:=fun q hq=>ZRV hL ok hO ho hoo b q (hkid q hq) (a3 q hq).1 (by have:=(a3 q hq).2;omega);rw [ZRt B U A σ hO hoo ⟨h0,a1⟩,ZRt B U A σ hL ho hj,en];exact ZSv (ho _ (ZKF hj)) (hL.a _ (ZKF hj)) ih
omit H hA hσ in
theorem ZNv.val {L:List Zae} {v s:Int} {out:List Zae} {v' s':Int} (h:ZNv L v s out v' s') (hL:PoolH L) (hO:PoolH out) (ho:∀ x∈L,OpE x) (hv:inR L.length v) (hs:inR L.length s):(∀ x∈out,OpE x)/\ZRr B U A σ out v'=ZRr B U A σ L v/\ZRr B U A σ out s'=ZRr B U A σ L s:=by
 obtain ⟨⟨num1,out1,num2,h1,h2,rfl,rfl⟩⟩:=h;have l0:(replicate L.length (-1:Int)).length=L.length:=by simp
 obtain ⟨kp1,p1⟩:=Z2p.kp hL h1 hv l0;obtain ⟨kp2,p2⟩:=Z2p.kp hL h2 hs kp1.len;have ok1:=Z2p.ok hL h1 hv (ZLr.init L);have ok2:=Z2p.ok hL h2 hs ok1;have s1:=Z2p.sur hL h1 hv l0 (fun k hk=>by simp at hk);have s2:=Z2p.sur hL h2 hs kp1.len s1;have pv:0<=atI num2 v:=by rw [kp2.old v hv.1 p1];exact p1
 have hoo:∀ x∈out,OpE x:=fun x hx=>by
  obtain ⟨k,hk⟩:=getElem?_of_mem hx;obtain ⟨j,j1,j2⟩:=s2 k (ZaA hk);obtain ⟨a,b,c⟩:=ok2.at_ j j1 (by omega);rw [j2,toNat_natCast,hk] at b;obtain rfl:=Option.some.inj b;exact (ho _ (ZKF j1)).ren _
 exact ⟨hoo,ZRV hL ok2 hO ho hoo ((atI num2 v).toNat+1) v hv pv (by omega),ZRV hL ok2 hO ho hoo ((atI num2 s).toNat+1) s hs p2 (by omega)⟩
end
end Go.Dat
