import Derived.Test.YtipafbfdjfbkbaaGreatDoorPl1
import Derived.Test.YtipafbfdjfbkbaaGreatDoorPl0
set_option linter.unusedSimpArgs false
set_option linter.unusedVariables false
set_option linter.unusedSectionVars false
open Go.IntKind (wrap)
open Int (reduceEq le_trans)
open BitVec (ofInt)
open List (replicate mem_of_getElem? length_map)
namespace Go.Dat
open Go.Eng
theorem ZRW (n:Int):wrap .u64 n=n % 18446744073709551616:=rfl
theorem ZSx (n:Int):¬ wrap .u64 n < 0:=by rw [ZRW];omega
theorem ZSb (a:Int) (h:I64 a):wrap .i64 ((ofInt 64 a).toNat:Int)=a:=by
 have h1:=h.1;have h2:=h.2
 rw [BitVec.toNat_ofInt];show (let m:=(((a % ((2 ^ 64:Nat):Int)).toNat:Nat):Int) % (2 ^ 64:Int);if true&&m>=(2 ^ 63:Int) then m - (2 ^ 64:Int) else m)=a;simp only [Bool.true_and,ge_iff_le,decide_eq_true_eq];split<;>omega
theorem ZSN (b:Bool):F93 b=some (if b=true then 1 else 0):=by cases b<;>rfl
theorem ZzE {a b:Int} (ha:I64 a) (hb:I64 b):∃ r,F92 a b=some r/\I64 r:=by
 have z:I64 0:=by constructor<;>omega
 unfold F92;by_cases h0:b=0
 ·subst h0;exact ⟨0,rfl,z⟩
 ·have e0:(b==0)=false:=by simpa using h0
  rw [e0,cond_false];by_cases h1:b=-1
  ·subst h1;exact ⟨_,rfl,ZLB _⟩
  ·have e1:(b==-1)=false:=by simpa using h1
   rw [e1,cond_false,decide_eq_false h0,cond_false];exact ⟨_,rfl,ZLB _⟩
theorem ZSB {a:Int} (ha:I64 a) (k:Nat):I64 (Int.fdiv a (2 ^ k)):=by
 have hp:(0:Int) < 2 ^ k:=by
  have:(2:Int) ^ k=((2 ^ k:Nat):Int):=by simp
  rw [this];have:=Nat.two_pow_pos k;omega
 have h1:=ha.1;have h2:=ha.2
 rw [Int.fdiv_eq_ediv_of_nonneg _ (by omega)];have hd:=Int.emod_nonneg a (show (2:Int) ^ k≠0 by omega);have he:=Int.emod_lt_of_pos a hp;have hq:2 ^ k * (a / 2 ^ k)+a % 2 ^ k=a:=by have:=Int.emod_def a (2 ^ k);omega
 obtain ⟨q,hqq⟩:∃ q,q=a / 2 ^ k:=⟨_,rfl⟩
 rw [<-hqq] at hq |-
 generalize (2:Int) ^ k=p at *;generalize a % p=r at *;constructor
 ·by_cases hn:0<=q
  ·omega
  ·have:p * q<=1 * q:=Int.mul_le_mul_of_nonpos_right (by omega) (by omega);by_cases hx:q < -9223372036854775808
   ·exfalso;have:p * (q+1)<=1 * (q+1):=Int.mul_le_mul_of_nonpos_right (by omega) (by omega);have e:p * (q+1)=p * q+p:=by rw [Int.mul_add,Int.mul_one]
    omega
   ·omega
 ·by_cases hn:q<=0
  ·omega
  ·have:1 * q<=p * q:=Int.mul_le_mul_of_nonneg_right (by omega) (by omega);omega
theorem ZTe (x y:Int) (hx:¬ x < 0) (hy:I64 y):∃ r,(bif decide (x < 0) then none else some y)=some r/\I64 r:=⟨y,by rw [decide_eq_false hx,cond_false],hy⟩
theorem ZTJ {o a b:Int} (ho:4<=o/\o<=19) (ha:I64 a) (hb:I64 b):∃ r,F64 o a b=some r/\I64 r:=by
 have z:I64 0:=by constructor<;>omega
 have bl:∀ c:Bool,∃ r,((F93 c).bind fun r=>some r)=some r/\I64 r:=fun c=>by cases c<;>exact ⟨_,rfl,by constructor<;>omega⟩
 obtain ⟨d,e1,e2⟩:=ZzE ha hb;have:o=4\/o=5\/o=6\/o=7\/o=8\/o=9\/o=10\/o=11\/o=12\/o=13\/o=14\/o=15\/o=16\/o=17\/o=18\/o=19:=by omega
 rcases this with rfl | rfl | rfl | rfl | rfl | rfl | rfl | rfl | rfl | rfl | rfl | rfl | rfl | rfl | rfl | rfl
 ·exact ⟨_,rfl,ZLB _⟩
 ·exact ⟨_,rfl,ZLB _⟩
 ·exact ⟨_,rfl,ZLB _⟩
 ·exact ⟨d,by show ((F92 a b).bind fun r4=>some r4)=_;rw [e1];rfl,e2⟩
 ·show ∃ r,(bif b==0 then some 0 else (F92 a b).bind fun r5=>some (wrap .i64 (a - (wrap .i64 (r5 * b)))))=some r/\I64 r;rw [e1];cases (b==0)
  ·exact ⟨_,rfl,ZLB _⟩
  ·exact ⟨_,rfl,z⟩
 ·exact ⟨_,rfl,ZLB _⟩
 ·exact ⟨_,rfl,ZLB _⟩
 ·exact ⟨_,rfl,ZLB _⟩
 ·exact ZTe _ _ (ZSx _) (ZLB _)
 ·exact ZTe _ _ (ZSx _) (ZLB _)
 ·exact ZTe _ _ (ZSx _) (ZSB ha _)
 ·exact bl _
 ·exact bl _
 ·exact bl _
 ·exact bl _
 ·exact bl _
noncomputable def ZRx (o a b:Int):Int:=wrap .i64 ((F64 o a b).getD 0)
noncomputable def unM (o a:Int):Int:=wrap .i64 ((F60 o a).getD 0)
theorem ZTK {o a b:Int} (ho:4<=o/\o<=19) (ha:I64 a) (hb:I64 b):F64 o a b=some (ZRx o a b):=by
 obtain ⟨r,e1,e2⟩:=ZTJ ho ha hb;unfold ZRx;rw [e1];show some r=some (wrap .i64 r);rw [Zau e2.1 e2.2]
theorem ZTL {o a:Int} (ho:o=20\/o=21):F60 o a=some (unM o a):=by
 rcases ho with rfl | rfl
 ·show some (wrap .i64 (0 - a))=some (wrap .i64 (wrap .i64 (0 - a)));rw [Zau (ZLB _).1 (ZLB _).2]
 ·show some (wrap .i64 _)=some (wrap .i64 (wrap .i64 _));rw [Zau (ZLB _).1 (ZLB _).2]
theorem ZSC (n:Int):wrap .i64 (wrap .i64 n)=wrap .i64 n:=Zau (ZLB _).1 (ZLB _).2
theorem ZTQ:ZT1 ZRx unM where
 b4 a b:=ZSC _
 b5 a b:=ZSC _
 b7 a:=rfl
 b8 a:=rfl
 b9 a:=by
  show wrap .i64 (wrap .i64 ((ofInt 64 a &&& ofInt 64 0).toNat:Int))=0;have:ofInt 64 a &&& ofInt 64 0=0#64:=by
   rw [show ofInt 64 0=0#64 from rfl,BitVec.and_zero]
  rw [this];rfl
 b9' a ha:=by
  show wrap .i64 (wrap .i64 ((ofInt 64 a &&& ofInt 64 (-1)).toNat:Int))=a;have:ofInt 64 a &&& ofInt 64 (-1)=ofInt 64 a:=by
   rw [show ofInt 64 (-1)=BitVec.allOnes 64 from by decide,BitVec.and_allOnes]
  rw [this,ZSC,ZSb a ha]
 b15 a b:=by
  show wrap .i64 ((((F93 (a==b)).bind fun r6=>some r6)).getD 0)=_;rw [ZSN];by_cases h:a=b
  ·subst h;simp;decide
  ·have e:(a==b)=false:=by simpa using h
   rw [e,if_neg h];decide
 b19 a b ha hb h0:=by
  show wrap .i64 ((((F93 (decide (wrap .u64 a < wrap .u64 b))).bind fun r6=>some r6)).getD 0)=_;rw [ZSN];have h1:=ha.1;have h2:=ha.2;have h3:=hb.1;have h4:=hb.2
  have key:wrap .u64 a < wrap .u64 b↔0<=a/\a < b:=by
   rw [ZRW,ZRW];omega
  by_cases h:0<=a/\a < b
  ·rw [if_pos h,decide_eq_true (key.2 h)];decide
  ·rw [if_neg h,decide_eq_false (fun e=>h (key.1 e))];decide
 u20 a:=by
  show wrap .i64 (wrap .i64 (0 - a))=_;rw [ZSC,Int.zero_sub]
 bw o a b:=ZLB _
 uw o a:=ZLB _
theorem Zzx (s:StT) {a:Int} (ha:inR s.1.length a) (i:Int):F61 s a i=some (ZRB s a i):=by
 have g:gI s.1 a=some (s.1[a.toNat]?.getD []):=by
  have h1:=ha.1;have h2:=ha.2
  obtain ⟨k,rfl⟩:∃ k:Nat,a=k:=⟨a.toNat,by omega⟩
  rw [Zax,Int.toNat_natCast,List.getElem?_eq_getElem (by omega)];rfl
 obtain ⟨l,hl⟩:∃ l,l=s.1[a.toNat]?.getD []:=⟨_,rfl⟩
 unfold ZRB;rw [<-hl] at g |-
 refine Ret.eq ?_;simp only [F61,ZxN,Za4 g,wq,reduceCtorEq];refine ⟨fun h=>?_,fun h=>⟨fun h2=>?_,fun h2=>?_⟩⟩
 ·rw [if_neg (by omega)]
 ·rw [if_neg (by omega)]
 ·rw [if_pos (by omega)];exact Zaj (by omega) (by omega) fun x hx _=>by
   rw [ZaB ⟨by omega,by omega⟩] at hx;exact (Option.some.inj hx).symm
theorem ZzC (s:StT) {a:Int} (ha:inR s.1.length a) (i n:Int) (hn:s.1.length<=1000) (hm:(s.1[a.toNat]?.getD []).length<=1000):F89 s a i n=some (ZRN s a i n):=by
 have g:gI s.1 a=some (s.1[a.toNat]?.getD []):=by
  have h1:=ha.1;have h2:=ha.2
  obtain ⟨k,rfl⟩:∃ k:Nat,a=k:=⟨a.toNat,by omega⟩
  rw [Zax,Int.toNat_natCast,List.getElem?_eq_getElem (by omega)];rfl
 obtain ⟨l,hl⟩:∃ l,l=s.1[a.toNat]?.getD []:=⟨_,rfl⟩
 unfold ZRN;rw [<-hl] at g hm |-
 obtain ⟨c,o,f,k,d,r⟩:=s;dsimp only at g hn;refine Ret.eq ?_;simp only [F89,Zyx,Za4 g,List.nil_append,List.length_nil,wq,reduceCtorEq];refine ⟨fun h=>?_,fun h=>⟨fun h2=>?_,fun h2=>?_⟩⟩
 ·rw [if_neg (by omega)]
 ·rw [if_neg (by omega)]
 ·rw [if_pos (by omega)];refine ⟨fun _=>⟨fun _=>?_,fun h=>absurd h (by omega)⟩,fun h=>absurd h (by omega)⟩;exact Zaj (by omega) (by omega) fun x hx _=>Zaj (by omega) (by omega) fun x hx _=>rfl
theorem ZRQ {α:Type} (a:α) (l:List α):gI (a::l) 0=some a:=rfl
theorem ZSc {α:Type} (a b:α) (l:List α):gI (a::b::l) 1=some b:=rfl
theorem ZT6 {α:Type} (a b c:α) (l:List α):gI (a::b::c::l) 2=some c:=rfl
abbrev AnT:=List (ByteArray×Int)
structure FrI (V:Int->VaT) (n:Nat) (has:List Bool) (vals:List ReT):Prop where
 h:has.length=n
 v:vals.length=n
 ok:∀ i:Int,inR n i->has[i.toNat]?=some true->vals[i.toNat]?=some (ReT.mk (V i).1 (V i).2 [])
section
variable (u1:AnT) (u2:List GrT) (nm:ByteArray) (pr:Int) (L:List Zae) (va st:Int) (hg:List (List Bool)) (A:List Int) (σ:StT) (env:List (List ReT))
def ZRR (v:VaT) (has:List Bool) (vals:List ReT):=(v.1,v.2.1,v.2.2.1,v.2.2.2.1,v.2.2.2.2.1,v.2.2.2.2.2.1,v.2.2.2.2.2.2,([]:List ReT),u1,u2,nm,pr,L,va,st,hg,σ.2.1,σ.2.2.1,σ.2.2.2.1,σ.2.2.2.2.1,σ.2.2.2.2.2,A,σ.1,has,vals,env)
def ZTM (v:VaT) (has:List Bool) (vals:List ReT):=(v.1,v.2.2.2.1,v.2.2.2.2.1,v.2.2.2.2.2.1,v.2.2.2.2.2.2,([]:List ReT),u1,u2,nm,pr,L,va,st,hg,σ.2.1,σ.2.2.1,σ.2.2.2.1,σ.2.2.2.2.1,σ.2.2.2.2.2,v.2.1,v.2.2.1,A,σ.1,has,vals,env)
def ZTZ (s:StT) (has:List Bool) (vals:List ReT):=(s.1,s.2.2.1,s.2.2.2.1,s.2.2.2.2.1,s.2.2.2.2.2,u1,u2,nm,pr,L,va,st,hg,σ.2.1,σ.2.2.1,σ.2.2.2.1,σ.2.2.2.2.1,σ.2.2.2.2.2,s.2.1,A,σ.1,has,vals,env)
def ZT9 (fuel:Nat) (V:Int->VaT) (i:Int):Prop:=∀ has vals,FrI V L.length has vals->Ret (N22 fuel i u1 u2 nm pr L va st hg σ.2.1 σ.2.2.1 σ.2.2.2.1 σ.2.2.2.2.1 σ.2.2.2.2.2 A σ.1 has vals env) fun r=>∃ has' vals',FrI V L.length has' vals'/\r=ZRR u1 u2 nm pr L va st hg A σ env (V i) has' vals'
variable {V:Int->VaT} {fuel:Nat} {has:List Bool} {vals:List ReT}
structure EvH (V:Int->VaT) (n:Zae):Prop where
 o:OpE n
 im:Zfk n.1 n.2.1=true
 a:∀ m:Nat,ZaY n.1=((m:Int),true)->n.2.2.length=m
 w:∀ q,4<=n.1/\n.1<=19->q∈n.2.2->I64 (V q).1
 c:n.1=23\/n.1=28->∀ q,n.2.2[0]?=some q->(V q).2.1.length=2/\∀ l∈(V q).2.1,l.length<=1000
 l:∀ q∈n.2.2,(V q).2.2.1.length<=100000
theorem ZTf {n:Zae} (h:EvH V n) (hop:27<=n.1) (hR:∀ q∈n.2.2,ZT9 u1 u2 nm pr L va st hg A σ env fuel V q) (hF:FrI V L.length has vals):Ret (E62 (N22 fuel) n.1 n.2.1 n.2.2 u1 u2 nm pr L va st hg σ.2.1 σ.2.2.1 σ.2.2.2.1 σ.2.2.2.2.1 σ.2.2.2.2.2 A σ.1 has vals env) fun r=>∃ has' vals',FrI V L.length has' vals'/\r=ZTZ u1 u2 nm pr L va st hg A σ env (evM ZRx unM A σ V n).2 has' vals':=by
 obtain ⟨op,imm,ks⟩:=n;obtain ⟨ho,him,har,hw,hc,hlen⟩:=h;unfold OpE at ho;dsimp only at ho hop har hc hlen hR him;have im0:op=28->0<=imm:=fun e=>by
  subst e;unfold Zfk at him;rw [decide_eq_true_eq] at him;omega
 by_cases h28:op=28
 ·subst h28;obtain ⟨a,b,c,rfl⟩:∃ a b c,ks=[a,b,c]:=by
   have:ks.length=3:=har 3 rfl
   match ks,this with
   | [a,b,c],_=>exact ⟨a,b,c,rfl⟩
  obtain ⟨c1,c2⟩:=hc (.inr rfl) a rfl;have e:evM ZRx unM A σ V (28,imm,[a,b,c])=(0,ZR0 28 imm (V a).2 (V b).1 (V c).1):=rfl;rw [e];have hr:inR (V a).2.1.length imm:=⟨im0 rfl,by have:=ho.2.2.2 rfl;rw [c1];omega⟩
  have hm:((V a).2.1[imm.toNat]?.getD []).length<=1000:=by
   cases e:(V a).2.1[imm.toNat]? with
   | none=>simp
   | some l=>exact c2 l (mem_of_getElem? e)
  simp only [E62,ZRQ,ZSc,ZT6,wq,reduceCtorEq];refine Ret.mono (hR a (by simp) has vals hF) fun r _ ⟨h1,v1,F1,e1⟩=>?_;subst e1;simp only [ZRR,wq,reduceCtorEq];refine Ret.mono (hR b (by simp) h1 v1 F1) fun r _ ⟨h2,v2,F2,e2⟩=>?_;subst e2;simp only [ZRR,wq,reduceCtorEq];refine Ret.mono (hR c (by simp) h2 v2 F2) fun r _ ⟨h3,v3,F3,e3⟩=>?_;subst e3;simp only [ZRR,wq,reduceCtorEq];rw [ZzC (V a).2 hr _ _ (by omega) hm];exact ⟨_,rfl,h3,v3,F3,rfl⟩
 ·obtain ⟨a,b,rfl⟩:∃ a b,ks=[a,b]:=by
   have:ks.length=2:=har 2 (by unfold ZaY;rw [if_neg (by omega),if_neg (by omega),if_pos (by omega)];rfl)
   match ks,this with
   | [a,b],_=>exact ⟨a,b,rfl⟩
  have hla:=hlen a (by simp);have h2729:op=27\/op=29:=by omega
  rcases h2729 with rfl | rfl
  ·have e:evM ZRx unM A σ V (27,imm,[a,b])=(0,ZR0 27 imm (V a).2 (V b).1 0):=rfl;rw [e];simp only [E62,ZRQ,ZSc,wq,reduceCtorEq];refine Ret.mono (hR a (by simp) has vals hF) fun r _ ⟨h1,v1,F1,e1⟩=>?_;subst e1;simp only [ZRR,wq,reduceCtorEq];refine ⟨fun h=>absurd h (by omega),fun _=>⟨fun hk=>⟨h1,v1,F1,?_⟩,fun hk=>?_⟩⟩
   ·unfold ZR0;rw [if_neg (by omega),if_pos hk];rfl
   ·have hk:(V a).2.2.2.2.1=0:=by simpa using hk
    refine Ret.mono (hR b (by simp) h1 v1 F1) fun r _ ⟨h2,v2,F2,e2⟩=>?_;subst e2;simp only [ZRR,Z8W,wq,reduceCtorEq];refine ⟨fun hz=>⟨h2,v2,F2,?_⟩,fun hz=>⟨h2,v2,F2,?_⟩⟩
    ·unfold ZR0;rw [if_neg (by omega),if_neg (by omega),if_pos rfl,if_pos hz];rfl
    ·unfold ZR0;rw [if_neg (by omega),if_neg (by omega),if_pos rfl,if_neg hz];rfl
  ·have e:evM ZRx unM A σ V (29,imm,[a,b])=(0,ZR0 29 imm (V a).2 (V b).1 0):=rfl;rw [e];simp only [E62,ZRQ,ZSc,wq,reduceCtorEq];refine Ret.mono (hR a (by simp) has vals hF) fun r _ ⟨h1,v1,F1,e1⟩=>?_;subst e1;simp only [ZRR,wq,reduceCtorEq];refine ⟨fun h=>absurd h (by omega),fun _=>⟨fun hk=>⟨h1,v1,F1,?_⟩,fun hk=>?_⟩⟩
   ·unfold ZR0;rw [if_neg (by omega),if_pos hk];rfl
   ·have hk:(V a).2.2.2.2.1=0:=by simpa using hk
    refine ⟨fun h=>absurd h (by omega),fun _=>⟨fun _=>?_,fun h=>absurd (show ([]:List Int).length+(V a).2.2.1.length<=1000000 by simp;omega) h⟩⟩;refine Ret.mono (hR b (by simp) h1 v1 F1) fun r _ ⟨h2,v2,F2,e2⟩=>?_;subst e2;simp only [ZRR,List.nil_append,wq,reduceCtorEq];refine ⟨fun _=>⟨h2,v2,F2,?_⟩,fun h=>absurd (show (V a).2.2.1.length+[(V b).1].length<=1000000 by simp;omega) h⟩;unfold ZR0;rw [if_neg (by omega),if_neg (by omega),if_neg (by omega)];rfl
theorem ZTg {i:Int} (hi:inR L.length i) (h:EvH V (nA L i)) (hV:V i=evM ZRx unM A σ V (nA L i)) (hA2:2<=A.length) (hR:∀ q∈(nA L i).2.2,ZT9 u1 u2 nm pr L va st hg A σ env fuel V q) (hF:FrI V L.length has vals):Ret (E42 (N22 fuel) i u1 u2 nm pr L va st hg σ.2.1 σ.2.2.1 σ.2.2.2.1 σ.2.2.2.2.1 σ.2.2.2.2.2 A σ.1 has vals env) fun r=>∃ has' vals',FrI V L.length has' vals'/\r=ZTM u1 u2 nm pr L va st hg A σ env (V i) has' vals':=by
 rw [hV];have hgi:=ZK8 hi;obtain ⟨n,hn⟩:∃ n,n=nA L i:=⟨_,rfl⟩
 rw [<-hn] at h hR hgi |-
 clear hV hn;have h0:=h;obtain ⟨op,imm,ks⟩:=n;obtain ⟨ho,him,har,hw,hc,hlen⟩:=h;unfold OpE at ho;dsimp only at ho har hc hlen hR him hw;have im0:op=2\/op=23->0<=imm:=fun e=>by
  unfold Zfk at him;rw [decide_eq_true_eq] at him;omega
 by_cases h1:op=1
 ·subst h1;simp only [E42,hgi,reduceEq,false_imp_iff,true_imp_iff,not_false_eq_true,not_true_eq_false,true_and,and_true,or_false,or_true,false_or,true_or,wq,reduceCtorEq];exact ⟨has,vals,hF,rfl⟩
 by_cases h2:op=2
 ·subst h2;have hi2:=ho.2.1 rfl;have:=im0 (.inl rfl);have g:=ZaB (l:=A) (i:=imm) ⟨this,by omega⟩;simp only [E42,hgi,Za4 g,reduceEq,false_imp_iff,true_imp_iff,not_false_eq_true,not_true_eq_false,true_and,and_true,or_false,or_true,false_or,true_or,wq,reduceCtorEq];exact ⟨has,vals,hF,rfl⟩
 by_cases h20:op=20\/op=21
 ·obtain ⟨a,rfl⟩:∃ a,ks=[a]:=by
   have:ks.length=1:=har 1 (by rcases h20 with e | e<;>rw [e]<;>rfl)
   match ks,this with
   | [a],_=>exact ⟨a,rfl⟩
  have e:evM ZRx unM A σ V (op,imm,[a])=(unM op (V a).1,stZ):=by
   unfold evM;rw [if_neg h1,if_neg h2,if_pos h20];rfl
  rw [e];have hU:=ZTL (a:=(V a).1) h20;rcases h20 with rfl | rfl <;>
  ·simp only [E42,ZuM,hgi,ZRQ,reduceEq,false_imp_iff,true_imp_iff,not_false_eq_true,not_true_eq_false,true_and,and_true,or_false,or_true,false_or,true_or,wq,reduceCtorEq];refine Ret.mono (hR a (by simp) has vals hF) fun r _ ⟨h1,v1,F1,e1⟩=>?_;subst e1;simp only [ZRR,hU,wq,reduceCtorEq];exact ⟨h1,v1,F1,rfl⟩
 by_cases h22:op=22
 ·subst h22;obtain ⟨a,b,c,rfl⟩:∃ a b c,ks=[a,b,c]:=by
   have:ks.length=3:=har 3 rfl
   match ks,this with
   | [a,b,c],_=>exact ⟨a,b,c,rfl⟩
  have e:evM ZRx unM A σ V (22,imm,[a,b,c])=if (V a).1≠0 then V b else V c:=rfl
  rw [e];simp only [E42,ZuM,hgi,ZRQ,ZSc,ZT6,reduceEq,false_imp_iff,true_imp_iff,not_false_eq_true,not_true_eq_false,true_and,and_true,or_false,or_true,false_or,true_or,wq,reduceCtorEq];refine Ret.mono (hR a (by simp) has vals hF) fun r _ ⟨h1,v1,F1,e1⟩=>?_;subst e1;simp only [ZRR,wq,reduceCtorEq];refine ⟨fun hz=>?_,fun hz=>?_⟩
  ·refine Ret.mono (hR b (by simp) h1 v1 F1) fun r _ ⟨h2,v2,F2,e2⟩=>?_;subst e2;rw [if_pos hz];exact ⟨h2,v2,F2,rfl⟩
  ·refine Ret.mono (hR c (by simp) h1 v1 F1) fun r _ ⟨h2,v2,F2,e2⟩=>?_;subst e2;rw [if_neg (fun h=>h hz)];exact ⟨h2,v2,F2,rfl⟩
 by_cases h23:op=23
 ·subst h23;obtain ⟨a,b,rfl⟩:∃ a b,ks=[a,b]:=by
   have:ks.length=2:=har 2 rfl
   match ks,this with
   | [a,b],_=>exact ⟨a,b,rfl⟩
  have e:evM ZRx unM A σ V (23,imm,[a,b])=(ZRB (V a).2 imm (V b).1,stZ):=rfl;rw [e];have hr:inR (V a).2.1.length imm:=⟨im0 (.inr rfl),by have:=ho.2.2.1 rfl;rw [(hc (.inl rfl) a rfl).1];omega⟩
  simp only [E42,ZuM,hgi,ZRQ,ZSc,reduceEq,false_imp_iff,true_imp_iff,not_false_eq_true,not_true_eq_false,true_and,and_true,or_false,or_true,false_or,true_or,wq,reduceCtorEq];refine Ret.mono (hR a (by simp) has vals hF) fun r _ ⟨h1,v1,F1,e1⟩=>?_;subst e1;simp only [ZRR,wq,reduceCtorEq];refine Ret.mono (hR b (by simp) h1 v1 F1) fun r _ ⟨h2,v2,F2,e2⟩=>?_;subst e2;simp only [ZRR,wq,reduceCtorEq];rw [Zzx (V a).2 hr];exact ⟨_,rfl,h2,v2,F2,rfl⟩
 by_cases h24:op=24
 ·subst h24;obtain ⟨a,rfl⟩:∃ a,ks=[a]:=by
   have:ks.length=1:=har 1 rfl
   match ks,this with
   | [a],_=>exact ⟨a,rfl⟩
  have e:evM ZRx unM A σ V (24,imm,[a])=((V a).2.2.2.2.2.2,stZ):=rfl;rw [e];simp only [E42,ZuM,hgi,ZRQ,reduceEq,false_imp_iff,true_imp_iff,not_false_eq_true,not_true_eq_false,true_and,and_true,or_false,or_true,false_or,true_or,wq,reduceCtorEq];refine Ret.mono (hR a (by simp) has vals hF) fun r _ ⟨h1,v1,F1,e1⟩=>?_;subst e1;exact ⟨h1,v1,F1,rfl⟩
 by_cases h26:op=26
 ·subst h26;simp only [E42,ZuM,hgi,reduceEq,false_imp_iff,true_imp_iff,not_false_eq_true,not_true_eq_false,true_and,and_true,or_false,or_true,false_or,true_or,wq,reduceCtorEq];exact ⟨has,vals,hF,rfl⟩
 by_cases hst:27<=op
 ·have nx:=ZTf u1 u2 nm pr L va st hg A σ env h0 hst hR hF;have h279:op=27\/op=28\/op=29:=by omega
  have key:∀ s:StT,evM ZRx unM A σ V (op,imm,ks)=(0,s)->Ret (E62 (N22 fuel) op imm ks u1 u2 nm pr L va st hg σ.2.1 σ.2.2.1 σ.2.2.2.1 σ.2.2.2.2.1 σ.2.2.2.2.2 A σ.1 has vals env) fun r=>Ret (some (0,r.2.1,r.2.2.1,r.2.2.2.1,r.2.2.2.2.1,([]:List ReT),r.2.2.2.2.2.1,r.2.2.2.2.2.2.1,r.2.2.2.2.2.2.2.1,r.2.2.2.2.2.2.2.2.1,r.2.2.2.2.2.2.2.2.2.1,r.2.2.2.2.2.2.2.2.2.2.1,r.2.2.2.2.2.2.2.2.2.2.2.1,r.2.2.2.2.2.2.2.2.2.2.2.2.1,r.2.2.2.2.2.2.2.2.2.2.2.2.2.1,r.2.2.2.2.2.2.2.2.2.2.2.2.2.2.1,r.2.2.2.2.2.2.2.2.2.2.2.2.2.2.2.1,r.2.2.2.2.2.2.2.2.2.2.2.2.2.2.2.2.1,r.2.2.2.2.2.2.2.2.2.2.2.2.2.2.2.2.2.1,r.1,r.2.2.2.2.2.2.2.2.2.2.2.2.2.2.2.2.2.2.1,r.2.2.2.2.2.2.2.2.2.2.2.2.2.2.2.2.2.2.2.1,r.2.2.2.2.2.2.2.2.2.2.2.2.2.2.2.2.2.2.2.2.1,r.2.2.2.2.2.2.2.2.2.2.2.2.2.2.2.2.2.2.2.2.2.1,r.2.2.2.2.2.2.2.2.2.2.2.2.2.2.2.2.2.2.2.2.2.2.1,r.2.2.2.2.2.2.2.2.2.2.2.2.2.2.2.2.2.2.2.2.2.2.2)) fun r=>∃ has' vals',FrI V L.length has' vals'/\r=ZTM u1 u2 nm pr L va st hg A σ env (0,s) has' vals':=fun s es=>Ret.mono nx fun r _ ⟨h1,v1,F1,e1⟩=>by
   subst e1;rw [es];exact ⟨_,rfl,h1,v1,F1,rfl⟩
  have ev:∃ s,evM ZRx unM A σ V (op,imm,ks)=(0,s):=by
   rcases h279 with rfl | rfl | rfl<;>exact ⟨_,rfl⟩
  obtain ⟨s,es⟩:=ev;rw [es];have k:=key s es;rcases h279 with rfl | rfl | rfl <;>
  ·simp only [E42,ZuM,ZDE,hgi,reduceEq,false_imp_iff,true_imp_iff,not_false_eq_true,not_true_eq_false,true_and,and_true,or_false,or_true,false_or,true_or,wq,reduceCtorEq];simp only [ZaH] at k;exact k
 have hb:4<=op/\op<=19:=by omega
 obtain ⟨a,b,rfl⟩:∃ a b,ks=[a,b]:=by
  have:ks.length=2:=har 2 (by unfold ZaY;rw [if_neg (by omega),if_neg (by omega),if_pos (by omega)];rfl)
  match ks,this with
  | [a,b],_=>exact ⟨a,b,rfl⟩
 have e:evM ZRx unM A σ V (op,imm,[a,b])=(ZRx op (V a).1 (V b).1,stZ):=by
  unfold evM;rw [if_neg h1,if_neg h2,if_neg h20,if_neg h22,if_neg h23,if_neg h24,if_neg h26,if_neg (show ¬ op=28 by omega),if_neg (show ¬ (op=27\/op=29) by omega)];rfl
 rw [e];have hB:=ZTK hb (hw a hb (by simp)) (hw b hb (by simp));have n3:¬ op=3:=by omega
 have n20:¬ op=20:=by omega
 have n21:¬ op=21:=by omega
 have n25:¬ op=25:=by omega
 have n27:¬ op=27:=by omega
 have n28:¬ op=28:=by omega
 have n29:¬ op=29:=by omega
 have n30:¬ op=30:=by omega
 have n31:¬ op=31:=by omega
 simp only [E42,ZuM,ZDE,hgi,ZRQ,ZSc,h1,h2,n3,n20,n21,h22,h23,h24,n25,h26,n27,n28,n29,n31,reduceEq,false_imp_iff,true_imp_iff,not_false_eq_true,not_true_eq_false,true_and,and_true,or_false,or_true,false_or,true_or,wq,reduceCtorEq];refine ⟨fun h=>absurd h n30,fun _=>?_⟩;refine Ret.mono (hR a (by simp) has vals hF) fun r _ ⟨h1,v1,F1,e1⟩=>?_;subst e1;simp only [ZRR,wq,reduceCtorEq];refine Ret.mono (hR b (by simp) h1 v1 F1) fun r _ ⟨h2,v2,F2,e2⟩=>?_;subst e2;simp only [ZRR,hB,wq,reduceCtorEq];exact ⟨h2,v2,F2,rfl⟩
end
theorem ZT7 {n:Zae} {m k:Nat} (ha:∀ m:Nat,ZaY n.1=((m:Int),true)->n.2.2.length=m) (e:ZaY n.1=((m:Int),true)) (hk:k < m):kk n k∈n.2.2:=ZK6 (ha m e) hk
section
variable {B:Int->Int->Int->Int} {U:Int->Int->Int} {A:List Int} {σ:StT} {L:List Zae} (hL:PoolH L) (ho:∀ x∈L,OpE x) (hσ:σ.2.1.length=0)
include hL ho hσ
theorem ZRX:∀ (b:Nat) (i:Int),inR L.length i->i < b->((ZRr B U A σ L i).2.2.1.length:Int)<=i
 | 0,i,hi,h=>by have:=hi.1;omega
 | b+1,i,hi,h=>by
  have h1:=hi.1;have ha:=hL.a _ (ZKF hi);have ih:∀ {m:Nat} (k:Nat),ZaY (nA L i).1=((m:Int),true)->k < m->((ZRr B U A σ L (kk (nA L i) k)).2.2.1.length:Int)<=i - 1:=fun {m} k e hk=>by
   have hq:=hL.k _ _ (ZKS hi) _ (ZT7 ha e hk);have h2:=hi.2;have:=ZRX b (kk (nA L i) k) ⟨hq.1,by omega⟩ (by omega);omega
  rw [ZRt B U A σ hL ho hi];have hop:=ho _ (ZKF hi);obtain ⟨n,hn⟩:∃ n,n=nA L i:=⟨_,rfl⟩
  rw [<-hn] at ih hop |-
  clear hn ha;obtain ⟨op,imm,ks⟩:=n;unfold OpE at hop;dsimp only at hop ih;have z:((0,stZ):VaT).2.2.1.length=0:=rfl;have nx:∀ (o:Int) (s:StT) (x y:Int),(s.2.1.length:Int)<=i - 1->((ZR0 o imm s x y).2.1.length:Int)<=i:=fun o s x y hs=>by
   unfold ZR0 ZRN
   (repeat' split)<;>first | omega | (simp only [List.length_append,List.length_singleton];omega)
  unfold evM;dsimp only;by_cases h1:op=1
  ·rw [if_pos h1];exact le_trans (by show ((0:Nat):Int)<=0;omega) hi.1
  rw [if_neg h1];by_cases h2:op=2
  ·rw [if_pos h2];exact le_trans (by show ((0:Nat):Int)<=0;omega) hi.1
  rw [if_neg h2];by_cases h20:op=20\/op=21
  ·rw [if_pos h20];exact le_trans (by show ((0:Nat):Int)<=0;omega) hi.1
  rw [if_neg h20];by_cases h22:op=22
  ·have e:ZaY op=(((3:Nat):Int),true):=by rw [h22];rfl
   have i1:=ih 1 e (by omega);have i2:=ih 2 e (by omega);rw [if_pos h22];split<;>omega
  rw [if_neg h22];by_cases h23:op=23
  ·rw [if_pos h23];exact le_trans (by show ((0:Nat):Int)<=0;omega) hi.1
  rw [if_neg h23];by_cases h24:op=24
  ·rw [if_pos h24];exact le_trans (by show ((0:Nat):Int)<=0;omega) hi.1
  rw [if_neg h24];by_cases h26:op=26
  ·rw [if_pos h26];dsimp only;omega
  rw [if_neg h26];by_cases h28:op=28
  ·have e:ZaY op=(((3:Nat):Int),true):=by rw [h28];rfl
   rw [if_pos h28];exact nx _ _ _ _ (ih 0 e (by omega))
  rw [if_neg h28];by_cases h27:op=27\/op=29
  ·have e:ZaY op=(((2:Nat):Int),true):=by rcases h27 with e | e<;>rw [e]<;>rfl
   rw [if_pos h27];exact nx _ _ _ _ (ih 0 e (by omega))
  rw [if_neg h27];exact le_trans (by show ((0:Nat):Int)<=0;omega) hi.1
end
section
variable {A:List Int} (hA:∀ x∈A,I64 x) {σ:StT} {lens:List Int} (hσ:GSt lens σ) (hlen:lens.length=2/\∀ x∈lens,x<=1000) (hσo:σ.2.1.length=0)
variable {L:List Zae} (hL:ZLs L) (hs:SP L) (ho:∀ x∈L,OpE x)
include hA hσ hlen hσo hL hs ho
theorem evH {i:Int} (hi:inR L.length i):EvH (ZRr ZRx unM A σ L) (nA L i):=by
 have hw:=hL.w _ (ZKF hi);have hns:=ZQU hL.toPoolH hs hi;have hsr:=hs _ hi;have ha:=hL.a _ (ZKF hi);have hop:=ho _ (ZKF hi);have hk:∀ q∈(nA L i).2.2,inR L.length q:=fun q hq=>by
  have:=hL.k _ _ (ZKS hi) q hq;have h1:=hi.1;have h2:=hi.2
  exact ⟨this.1,by omega⟩
 have hb:∀ q,inR L.length q->((ZRr ZRx unM A σ L q).2.2.1.length:Int)<=q:=fun q hq=>ZRX hL.toPoolH ho hσo (q.toNat+1) q hq (by have:=hq.1;omega);have ty:∀ q,inR L.length q->TyV lens (srt L q) (ZRr ZRx unM A σ L q):=fun q hq=>ZSa ZTQ hA hσ hL hs ho hq;obtain ⟨n,hn⟩:∃ n,n=nA L i:=⟨_,rfl⟩
 rw [<-hn] at hw hns ha hop hk |-
 clear hn;obtain ⟨op,imm,ks⟩:=n;have hop0:=hop;unfold OpE at hop;dsimp only at hw hns ha hop hk;have har:∃ m:Nat,ZaY op=((m:Int),true):=by
  unfold ZaY;by_cases h0:op=1\/op=2\/op=3\/op=26
  ·rw [if_pos h0];exact ⟨0,rfl⟩
  ·rw [if_neg h0];by_cases h1:op=20\/op=21\/op=24\/op=25
   ·rw [if_pos h1];exact ⟨1,rfl⟩
   ·rw [if_neg h1];split
    ·exact ⟨2,rfl⟩
    ·split
     ·exact ⟨3,rfl⟩
     ·omega
 obtain ⟨m,hm⟩:=har;obtain ⟨hl,him⟩:=ZRC hm hns hsr;refine ⟨hop0,him,ha,fun q hq hqm=>?_,fun hq q hq0=>?_,fun q hq=>?_⟩
 ·dsimp only at hq hqm;obtain ⟨_,b,_⟩:=ZQJ (l:=L) hq (by rw [length_map]) (by rw [length_map];exact hw.k) hns hsr;exact (ty q (hk q hqm)).1 (b _ (List.mem_map.2 ⟨q,hqm,rfl⟩))
 ·dsimp only at hq hq0;have hqm:=mem_of_getElem? hq0;have s2:srt L q=2:=by
   rcases hq with rfl | rfl
   ·obtain ⟨_,e2,_⟩:=ZRf (l:=L) (by rw [length_map]) hns hsr
    match ks,hq0,e2 with
    | a::_,h,e2=>cases h;exact (List.cons.inj e2).1
   ·obtain ⟨_,e2⟩:=ZSp (l:=L) (by rw [length_map]) hns hsr
    match ks,hq0,e2 with
    | a::_,h,e2=>cases h;exact (List.cons.inj e2).1
  have g:=((ty q (hk q hqm)).2 s2).1;refine ⟨by rw [g.n];exact hlen.1,fun l hl=>?_⟩;obtain ⟨k,hk⟩:=List.getElem?_of_mem hl;have:=(g.l k l hk).1;have hx:atI lens k<=1000:=by
   unfold atI;rw [Int.toNat_natCast];cases e:lens[k]? with
   | none=>simp
   | some x=>exact hlen.2 x (mem_of_getElem? e)
  omega
 ·have:=hb q (hk q hq);have h2:=(hk q hq).2;have:=hL.n;omega
variable (u1:AnT) (u2:List GrT) (nm:ByteArray) (pr:Int) (va st:Int) (hg:List (List Bool)) (env:List (List ReT)) (hA2:2<=A.length)
include hA2
theorem ZSO:∀ (fuel:Nat) (i:Int),inR L.length i->i < fuel->ZT9 u1 u2 nm pr L va st hg A σ env fuel (ZRr ZRx unM A σ L) i
 | 0,i,hi,h=>by have:=hi.1;omega
 | fuel+1,i,hi,h=>by
  intro has vals hF;have ih:∀ q∈(nA L i).2.2,ZT9 u1 u2 nm pr L va st hg A σ env fuel (ZRr ZRx unM A σ L) q:=fun q hq=>by
   have:=hL.k _ _ (ZKS hi) q hq;have h1:=hi.1;have h2:=hi.2
   exact ZSO fuel q ⟨this.1,by omega⟩ (by omega)
  have hE:=ZTg u1 u2 nm pr L va st hg A σ env (has:=has) (vals:=vals) hi (evH hA hσ hlen hσo hL hs ho hi) (ZRt ZRx unM A σ hL.toPoolH ho hi) hA2 ih hF;obtain ⟨V,hV⟩:∃ V,V=ZRr ZRx unM A σ L:=⟨_,rfl⟩
  rw [<-hV] at hF hE |-
  show Ret (G22 (N22 fuel) i u1 u2 nm pr L va st hg σ.2.1 σ.2.2.1 σ.2.2.2.1 σ.2.2.2.2.1 σ.2.2.2.2.2 A σ.1 has vals env) _;have h0:=hi.1;have fin:∀ has1 vals1,FrI V L.length has1 vals1->has1[i.toNat]?=some true->Ret (ZCF i (u1,u2,nm,pr,L,va,st,hg,σ.2.1,σ.2.2.1,σ.2.2.2.1,σ.2.2.2.2.1,σ.2.2.2.2.2,0,0,0,0,0,A,σ.1,has1,vals1,env)) fun r=>∃ has' vals',FrI V L.length has' vals'/\r=ZRR u1 u2 nm pr L va st hg A σ env (V i) has' vals':=fun has1 vals1 F1 e=>by
   have g:gI vals1 i=some (ReT.mk (V i).1 (V i).2 []):=by
    obtain ⟨k,rfl⟩:∃ k:Nat,i=k:=⟨i.toNat,by omega⟩
    rw [Zax];exact F1.ok k hi e
   simp only [ZCF,Za4 g,wq,reduceCtorEq,ZR8];exact ⟨has1,vals1,F1,rfl⟩
  simp only [G22,wq,reduceCtorEq];refine Zaj h0 (by rw [hF.h];exact hi.2) fun y hy _=>?_;simp only [Za4 hy,wq,reduceCtorEq];refine ⟨fun _=>?_,fun hy1=>?_⟩
  ·refine Ret.mono hE fun r _ ⟨h1,v1,F1,e1⟩=>?_;subst e1;simp only [ZTM,wq,reduceCtorEq];refine Zaj h0 (by rw [F1.v];exact hi.2) fun y2 hy2 _=>?_;simp only [Za4 hy2,wq,reduceCtorEq];refine Zaj h0 (by rw [F1.h];exact hi.2) fun y3 hy3 _=>?_;simp only [Za4 hy3,wq,reduceCtorEq];have hin:i.toNat < L.length:=by have:=hi.2;omega
   refine fin _ _ ⟨by rw [Zay];exact F1.h,by rw [Zay];exact F1.v,fun j hj hjt=>?_⟩ ?_
   ·unfold Zaq at hjt |-
    rw [List.getElem?_set] at hjt |-
    by_cases e:i.toNat=j.toNat
    ·have ej:j=i:=by have:=hj.1;omega
     subst ej;rw [if_pos rfl,if_pos (by rw [F1.v];exact hin)];rfl
    ·rw [if_neg e] at hjt |-
     exact F1.ok j hj hjt
   ·unfold Zaq;rw [List.getElem?_set,if_pos rfl,if_pos (by rw [F1.h];exact hin)]
  ·refine fin has vals hF ?_;have:y=true:=by simpa using hy1
   subst this;exact (ZaI hy).2.2
end
theorem Dp.no {l:List Zae} (h:∀ x∈l,x.1≠3) {i:Nat} {j:Int} (hd:Dp l i j):False:=by
 induction hd with
 | var h1 h2=>exact h _ (mem_of_getElem? h1) h2
 | kid _ _ _ _ ih=>exact ih
theorem Z7C (u:AnT×List GrT) (hu:u.1.length=2) {g:GrT} (hnm:F39 g.1=some true) (hp:g.2.1=2) (hG:GraphH g.2.2.1) (hn:g.2.2.1.length<=500) (hg:Zex g.2.2.1 g.2.2.1.length) (ho:∀ x∈g.2.2.1,OpE x) (ok:OkS g):F40 u g=some true:=by
 refine Ret.eq ?_;obtain ⟨_,va,st⟩:=ok;have hsl:=ZaK g.2.2.1 g.2.2.1.length;have rv:inR g.2.2.1.length g.2.2.2.1:=by have:=Zfe (l:=Zam g.2.2.1 g.2.2.1.length) (i:=g.2.2.2.1) (by omega);rwa [hsl] at this
 have rs:inR g.2.2.1.length g.2.2.2.2:=by have:=Zfe (l:=Zam g.2.2.1 g.2.2.1.length) (i:=g.2.2.2.2) (by omega);rwa [hsl] at this
 have no3:∀ x∈g.2.2.1,x.1≠3:=fun x hx=>by have:=ho x hx;unfold OpE at this;omega
 simp only [F40,Za4 hnm,hp,ZwX,ZAR _ hG,hsl,reduceEq,false_imp_iff,true_imp_iff,not_false_eq_true,not_true_eq_false,true_and,and_true,wq,reduceCtorEq];refine ⟨fun h=>absurd h (by omega),fun _=>⟨fun h=>absurd h (by omega),fun _=>⟨fun h=>absurd h (by omega),fun _=>?_⟩⟩⟩;refine Zac (fun i:Int=>∃ k:Nat,i=k/\k<=g.2.2.1.length) (fun i=>g.2.2.1.length - i.toNat) ?_ _ ⟨0,rfl,by omega⟩;rintro _ ⟨k,rfl,hk⟩;have hw:=Zab k (by omega);simp only [ZwW,hsl,reduceEq,false_imp_iff,true_imp_iff,not_false_eq_true,not_true_eq_false,true_and,and_true,wq,reduceCtorEq,hw];refine ⟨fun hlt=>?_,fun _=>⟨fun _=>?_,fun h=>absurd h (by omega)⟩⟩
 ·have hkr:inR (Zam g.2.2.1 g.2.2.1.length).length (k:Int):=⟨by omega,by omega⟩
  rw [Za4 (ZaB hkr)];refine ⟨fun e=>absurd e (hg k (by omega)).1,fun _=>⟨⟨k+1,rfl,by omega⟩,by omega⟩⟩
 refine Zac (fun q:Int×List Bool=>∃ i:Nat,q.1=i/\i<=g.2.2.1.length) (fun q=>g.2.2.1.length - q.1.toNat) ?_ _ ⟨0,rfl,by omega⟩;rintro ⟨_,loops⟩ ⟨i,rfl,hi⟩;have hwi:=Zab i (by omega);simp only [ZD3,hsl,reduceEq,false_imp_iff,true_imp_iff,not_false_eq_true,not_true_eq_false,true_and,and_true,wq,reduceCtorEq];refine ⟨fun hlt=>Zaj (by omega) (by omega) fun x hx hxm=>?_,fun _=>?_⟩
 ·rw [Zax] at hx;refine Zac (fun q:Int×List Bool=>∃ m:Nat,q.1=m/\m<=i) (fun q=>i - q.1.toNat) ?_ _ ⟨0,rfl,by omega⟩;rintro ⟨_,loops⟩ ⟨m,rfl,hm⟩;have hwm:=Zab m (by omega);have hox:=ho x hxm;unfold OpE at hox;have n3:¬ x.1=3:=by omega
  have n30:¬ x.1=30:=by omega
  have n31:¬ x.1=31:=by omega
  simp only [ZTn,ZwV,ZTm,hp,hu,n3,n30,n31,hwm,hwi,reduceEq,false_imp_iff,true_imp_iff,not_false_eq_true,not_true_eq_false,true_and,and_true,wq,reduceCtorEq];refine ⟨fun hlt2=>Zaj (by omega) (by omega) fun y hy hym=>?_,fun _=>?_⟩
  ·rw [Zax] at hy;simp only [ZJp y x (by have:=hG.k y hym;omega),decide_eq_true_eq,wq,reduceCtorEq];refine ⟨fun e=>absurd (by rw [hy,hx,e]) ((hg i (by omega)).2 m (by omega)),fun _=>⟨⟨m+1,rfl,by omega⟩,by omega⟩⟩
  ·have nx:(∃ i':Nat,((i+1:Nat):Int)=i'/\i'<=g.2.2.1.length)/\g.2.2.1.length - (((i+1:Nat):Int)).toNat < g.2.2.1.length - ((i:Int)).toNat:=⟨⟨i+1,rfl,by omega⟩,by omega⟩
   exact ⟨fun e=>⟨fun h=>absurd h (by omega),fun _=>nx⟩,fun _=>⟨fun e=>⟨fun h=>absurd h (by omega),fun _=>nx⟩,fun _=>⟨fun e=>⟨fun h=>absurd h (by omega),fun _=>nx⟩,fun _=>nx⟩⟩⟩
 ·simp only [ZJr _ hG,va,st,bne_self_eq_false,ZTq,reduceEq,false_imp_iff,true_imp_iff,not_false_eq_true,not_true_eq_false,true_and,and_true,wq,reduceCtorEq];refine (ZAV hG hg).mono fun out _ hD=>?_;have hol:=hD.len;refine Zac (fun j:Int=>∃ b:Nat,j=b/\b<=16) (fun j=>16 - j.toNat) ?_ _ ⟨0,rfl,by omega⟩;rintro _ ⟨b,rfl,hb⟩;have hwb:=Zab b (by omega);simp only [ZTp,ZTo,wq,reduceCtorEq,hwb];refine fun hlt=>Zaj rv.1 (by have:=rv.2;omega) fun r hr _=>?_;obtain ⟨r16,hrj⟩:=hD.row _ _ (ZaI hr).2.2;rw [Zbj (show inR r.length (b:Int) from ⟨by omega,by omega⟩)];simp only [wq,reduceCtorEq];refine ⟨fun e=>(Dp.no no3 ((hrj b (by omega) (by omega)).1 e)).elim,fun _=>Zaj rs.1 (by have:=rs.2;omega) fun r2 hr2 _=>?_⟩;obtain ⟨r16',hrj'⟩:=hD.row _ _ (ZaI hr2).2.2;rw [Zbj (show inR r2.length (b:Int) from ⟨by omega,by omega⟩)];simp only [wq,reduceCtorEq];exact ⟨fun e=>(Dp.no no3 ((hrj' b (by omega) (by omega)).1 e)).elim,fun _=>⟨⟨b+1,rfl,by omega⟩,by omega⟩⟩
def uA:AnT:=[(nmA,3),(nmB,2)]
structure GOK (g:GrT):Prop where
 nm:g.1=nmF
 pr:g.2.1=2
 W:ZLs g.2.2.1
 n:g.2.2.1.length<=500
 sp:SP g.2.2.1
 nd:g.2.2.1.Nodup
 oe:∀ x∈g.2.2.1,OpE x
 ok:OkS g
theorem GOK.G {g:GrT} (h:GOK g):GraphH g.2.2.1:=⟨by have:=h.n;omega,fun x hx=>(h.W.w x hx).k⟩
theorem GOK.good {g:GrT} (h:GOK g):Zex g.2.2.1 g.2.2.1.length:=fun i hi=>⟨h.ok.1 i hi,fun j hj e=>by
 have:=(List.getElem?_inj (by omega) h.nd).1 e;omega⟩
theorem ZTh {g:GrT} (h:GOK g):F20 (uA,[g])=some true:=by
 refine Ret.eq ?_;have vA:F39 nmA=some true:=ZRS _ (by simp [Zbf]);have vB:F39 nmB=some true:=ZRS _ (by simp [Zbf]);have vF:F39 g.1=some true:=by rw [h.nm];exact ZRS _ (by simp [Zbf])
 have hl:uA.length=2:=rfl;have l1:[g].length=1:=rfl;have gv:=Z7C (uA,[g]) rfl vF h.pr h.G h.n h.good h.oe h.ok;have rest:Ret (Zao (ZSV (uA,[g])) 0) fun b=>b=true:=by
  refine Zac (fun i:Int=>∃ k:Nat,i=k/\k<=1) (fun i=>1 - i.toNat) ?_ _ ⟨0,rfl,by omega⟩;rintro _ ⟨k,rfl,hk⟩;have hw:=Zab k (by omega);simp only [ZSV,l1,reduceEq,false_imp_iff,true_imp_iff,not_false_eq_true,not_true_eq_false,true_and,and_true,wq,reduceCtorEq];refine fun hlt=>?_;obtain rfl:k=0:=by omega
  refine Zac (fun i:Int=>i=0) (fun i=>0) ?_ _ rfl;rintro _ rfl;simp only [ZTr,wq,reduceCtorEq];refine ⟨fun h=>absurd h (by omega),fun _=>?_⟩;have g0:gI [g] ((0:Nat):Int)=some g:=rfl;simp only [Za4 g0,Za4 gv,reduceEq,false_imp_iff,true_imp_iff,not_false_eq_true,not_true_eq_false,true_and,and_true,wq,reduceCtorEq];rw [hw];exact ⟨⟨1,rfl,by omega⟩,by omega⟩
 have arr:Ret (Zao (ZD5 (uA,[g])) 0) fun b=>b=true:=by
  refine Zac (fun i:Int=>∃ k:Nat,i=k/\k<=2) (fun i=>2 - i.toNat) ?_ _ ⟨0,rfl,by omega⟩;rintro _ ⟨k,rfl,hk⟩;have hw:=Zab k (by omega);simp only [ZD5,ZD4,hl,reduceEq,false_imp_iff,true_imp_iff,not_false_eq_true,not_true_eq_false,true_and,and_true,wq,reduceCtorEq];refine ⟨fun hlt=>?_,fun _=>rest⟩;have hk2:k=0\/k=1:=by omega
  rcases hk2 with rfl | rfl
  ·have g0:gI uA ((0:Nat):Int)=some (nmA,3):=rfl;simp only [Za4 g0,Za4 vA,reduceEq,false_imp_iff,true_imp_iff,not_false_eq_true,not_true_eq_false,true_and,and_true,wq,reduceCtorEq];refine ⟨fun h=>absurd h (by omega),fun _=>⟨fun h=>absurd h (by omega),fun _=>?_⟩⟩;refine Zac (fun i:Int=>i=0) (fun i=>0) ?_ _ rfl;rintro _ rfl;simp only [ZSU,hw,wq,reduceCtorEq];exact ⟨fun h=>absurd h (by omega),fun _=>⟨⟨1,rfl,by omega⟩,by omega⟩⟩
  ·have g0:gI uA ((1:Nat):Int)=some (nmB,2):=rfl;simp only [Za4 g0,Za4 vB,reduceEq,false_imp_iff,true_imp_iff,not_false_eq_true,not_true_eq_false,true_and,and_true,wq,reduceCtorEq];refine ⟨fun h=>absurd h (by omega),fun _=>⟨fun h=>absurd h (by omega),fun _=>?_⟩⟩;refine Zac (fun i:Int=>∃ m:Nat,i=m/\m<=1) (fun i=>1 - i.toNat) ?_ _ ⟨0,rfl,by omega⟩;rintro _ ⟨m,rfl,hm⟩;have hwm:=Zab m (by omega);simp only [ZSU,hw,hwm,wq,reduceCtorEq];refine ⟨fun hlt=>?_,fun _=>⟨⟨2,rfl,by omega⟩,by omega⟩⟩;obtain rfl:m=0:=by omega
   have g1:gI uA ((0:Nat):Int)=some (nmA,3):=rfl;have ne:¬ nmA.toList=nmB.toList:=by decide +kernel
   simp only [Za4 g1,reduceEq,false_imp_iff,true_imp_iff,not_false_eq_true,not_true_eq_false,true_and,and_true,wq,reduceCtorEq];exact ⟨fun e=>ne e,fun _=>⟨⟨1,rfl,by omega⟩,by omega⟩⟩
 simp only [F20,Zy1,hl,l1,reduceEq,false_imp_iff,true_imp_iff,not_false_eq_true,not_true_eq_false,true_and,and_true,wq,reduceCtorEq];exact ⟨fun h=>absurd h (by omega),fun _=>⟨fun h=>absurd h (by omega),fun _=>arr⟩⟩
def ZT8 (s v:VaT):Int×Int×List Int×Int:=if s.2.2.2.2.1≠0 then (s.2.2.2.2.1,s.2.2.2.2.2.1,s.2.2.1,0) else (1,0,s.2.2.1,v.1)
def st0:StT:=([[0,0,0],[0,0]],[],0,0,0,0)
theorem ZSP:GSt [3,2] st0:=by
 refine ⟨rfl,fun k c h=>?_,by constructor<;>decide⟩;have hk:k=0\/k=1:=by have:=ZaA h;simp [st0] at this;omega
 rcases hk with rfl | rfl
 ·cases h;exact ⟨rfl,fun x hx=>by simp at hx;subst hx;constructor<;>omega⟩
 ·cases h;exact ⟨rfl,fun x hx=>by simp at hx;subst hx;constructor<;>omega⟩
def rZ:ReT:=ReT.mk 0 ([],[],0,0,0,0) []
theorem ZzG (u1:AnT) {g:GrT} (h:GOK g) (o:List Int) (f k c r:Int) (args:List Int) (cells:List (List Int)):Ret (F21 u1 [g] 0 o f k c r args cells) fun x=>∃ hg,x=(u1,[g],g.1,g.2.1,g.2.2.1,g.2.2.2.1,g.2.2.2.2,hg,o,f,k,c,r,args,cells,replicate g.2.2.1.length false,replicate g.2.2.1.length rZ,replicate 16 []):=by
 have g0:gI [g] 0=some g:=rfl;have hn:=h.n;simp only [F21,Za4 g0,reduceEq,false_imp_iff,true_imp_iff,not_false_eq_true,not_true_eq_false,true_and,and_true,wq,reduceCtorEq];refine ⟨fun _=>⟨fun _=>⟨fun _=>(ZAV h.G h.good).mono fun hg _ _=>⟨hg,rfl⟩,fun h=>absurd h (by omega)⟩,fun h=>absurd h (by omega)⟩,fun h=>absurd h (by omega)⟩
theorem FrI.init (V:Int->VaT) (n:Nat):FrI V n (replicate n false) (replicate n rZ):=⟨by simp,by simp,fun i hi h=>by
 rw [List.getElem?_replicate] at h;split at h<;>cases h⟩
theorem ZSQ {g:GrT} (h:GOK g) {args:List Int} (ha:args.length=2) (haw:∀ x∈args,I64 x):F9 (uA,[g]) nmF args 0=some (ZT8 (ZRr ZRx unM args st0 g.2.2.1 g.2.2.2.2) (ZRr ZRx unM args st0 g.2.2.1 g.2.2.2.1)):=by
 refine Ret.eq ?_;have l1:[g].length=1:=rfl;have hl:uA.length=2:=rfl;simp only [F9,Za4 (ZTh h),Z2a,reduceEq,false_imp_iff,true_imp_iff,not_false_eq_true,not_true_eq_false,true_and,and_true,wq,reduceCtorEq];refine ⟨fun h=>absurd h (by omega),fun _=>⟨fun h=>absurd h (by omega),fun _=>?_⟩⟩;obtain ⟨nm,pr,L,va,st⟩:=g;obtain rfl:nm=nmF:=h.nm;obtain rfl:pr=2:=h.pr;have g0:gI [((nmF,2,L,va,st):GrT)] 0=some (nmF,2,L,va,st):=rfl;refine Zac (fun q:Int×Int×Int×Int=>q.1=0) (fun _=>0) ?_ _ rfl;rintro ⟨_,a,b,c⟩ rfl;obtain ⟨_,hva,hst⟩:=h.ok;dsimp only at hva hst;have hsl:=ZaK L L.length;have rv:inR L.length va:=by have:=Zfe (l:=Zam L L.length) (i:=va) (by omega);rwa [hsl] at this
 have rs:inR L.length st:=by have:=Zfe (l:=Zam L L.length) (i:=st) (by omega);rwa [hsl] at this
 have core:Ret (Zao (ZB3 (uA,[(nmF,2,L,va,st)]) args 0) (0,a,b,c,0,0,0,0,[])) fun b=>b=ZT8 (ZRr ZRx unM args st0 L st) (ZRr ZRx unM args st0 L va):=by
  refine Zac (fun q:Int×Int×Int×Int×Int×Int×Int×Int×List (List Int)=>∃ k:Nat,k<=2/\q=((k:Int),a,b,c,0,0,0,0,st0.1.take k)) (fun q=>2 - q.1.toNat) ?_ _ ⟨0,by omega,rfl⟩;rintro _ ⟨k,hk,rfl⟩;have hw:=Zab k (by omega);simp only [ZB3,hl,reduceEq,false_imp_iff,true_imp_iff,not_false_eq_true,not_true_eq_false,true_and,and_true,wq,reduceCtorEq];refine ⟨fun hlt=>?_,fun hge=>?_⟩
  ·have hk2:k=0\/k=1:=by omega
   rcases hk2 with rfl | rfl
   ·have g1:gI uA ((0:Nat):Int)=some (nmA,3):=rfl;simp only [Za4 g1,hw,reduceEq,false_imp_iff,true_imp_iff,not_false_eq_true,not_true_eq_false,true_and,and_true,wq,reduceCtorEq];exact ⟨fun _=>⟨fun _=>⟨⟨1,by omega,rfl⟩,by omega⟩,fun h=>absurd (by decide) h⟩,fun h=>absurd (by omega) h⟩
   ·have g1:gI uA ((1:Nat):Int)=some (nmB,2):=rfl;simp only [Za4 g1,hw,reduceEq,false_imp_iff,true_imp_iff,not_false_eq_true,not_true_eq_false,true_and,and_true,wq,reduceCtorEq];exact ⟨fun _=>⟨fun _=>⟨⟨2,by omega,rfl⟩,by omega⟩,fun h=>absurd (by decide) h⟩,fun h=>absurd (by omega) h⟩
  ·obtain rfl:k=2:=by omega
   have e2:st0.1.take 2=st0.1:=rfl;rw [e2];refine Ret.mono (ZzG uA h [] 0 0 0 0 args st0.1) fun x _ ⟨hg,e⟩=>?_;subst e;simp only [wq,reduceCtorEq];have hn:=h.n;dsimp only at hn;have get:=fun i (hi:inR L.length i)=>ZSO haw ZSP ⟨rfl,fun x hx=>by simp at hx;omega⟩ rfl h.W h.sp h.oe uA [(nmF,2,L,va,st)] nmF 2 va st hg (replicate 16 []) (by omega) 1000 i hi (by have:=hi.2;omega);refine Ret.mono (get st rs _ _ (FrI.init _ _)) fun x _ ⟨h1,v1,F1,e1⟩=>?_;subst e1;simp only [ZRR,wq,reduceCtorEq];unfold ZT8;refine ⟨fun hk=>by rw [if_pos hk],fun hk=>?_⟩;refine Ret.mono (get va rv _ _ F1) fun x _ ⟨h2,v2,F2,e2⟩=>?_;subst e2;simp only [ZRR,wq,reduceCtorEq];rw [if_neg (fun h=>h hk)]
 simp only [ZBt,ZB2,ZBs,l1,g0,ha,reduceEq,false_imp_iff,true_imp_iff,not_false_eq_true,not_true_eq_false,true_and,and_true,wq,reduceCtorEq];exact ⟨fun _=>⟨fun h=>absurd h (by omega),fun _=>⟨fun h=>absurd rfl h,fun _=>core⟩⟩,fun h=>absurd h (by omega)⟩
theorem PG.gok {n:List Zae} (h:PG n 42) {v s:Int} (hv:AtT n v 1) (hs:AtT n s 2):GOK (nmF,2,n,v,s):=by
 have ok:=h.okS hv hs nmF 2;have hS:ZO7 n:=ok.sortL (g:=(nmF,2,n,v,s)) (h.G (by omega));have hl:=h.len;exact ⟨rfl,rfl,⟨⟨fun i x hx=>(hS i x hx).k,fun x hx m hm=>by
  obtain ⟨i,hi⟩:=List.getElem?_of_mem hx;exact (hS i x hi).a m hm⟩,h.w,by show n.length<=100000;omega⟩,by show n.length<=500;omega,fun i hi=>by
   have h1:=hi.1;have h2:=hi.2
   have:=ok.1 i.toNat (by omega);rw [show ((i.toNat:Nat):Int)=i by omega] at this;exact this,h.nd,h.oe,ok⟩
theorem ZSD {g h:GrT} (hg:GOK g) (hl:g.2.2.1.length<=100) (hn:ZLl [3,2] g h):GOK h/\∀ args:List Int,(∀ x∈args,I64 x)->ZRr ZRx unM args st0 h.2.2.1 h.2.2.2.1=ZRr ZRx unM args st0 g.2.2.1 g.2.2.2.1/\ZRr ZRx unM args st0 h.2.2.1 h.2.2.2.2=ZRr ZRx unM args st0 g.2.2.1 g.2.2.2.2:=by
 have ok:=hg.ok;have hW:ZhX g.2.2.1:=⟨hg.G,hg.W.w⟩
 have Ag:=ZQS hW (by omega) ok hn;obtain ⟨e1,e2,hx⟩:h.1=g.1/\h.2.1=g.2.1/\ZNv (ZK7 [3,2] g.2.2.1).2 (atI (ZK7 [3,2] g.2.2.1).1 g.2.2.2.1) (atI (ZK7 [3,2] g.2.2.1).1 g.2.2.2.2) h.2.2.1 h.2.2.2.1 h.2.2.2.2:=by
  rcases hn with ⟨_,h⟩ | ⟨hno,_⟩
  ·exact h
  ·exact absurd ok hno
 have hS:=ok.sortL hW.toGraphH;have hN:=ZLw (p:=[3,2]) hS hW.w (by omega) g.2.2.1.length (Nat.le_refl _);have hT:=ZQY (p:=[3,2]) hS hW.w (by omega) ok.1 g.2.2.1.length (Nat.le_refl _);rw [List.take_length] at hN hT;have v0:=ZKQ (l:=Zam g.2.2.1 g.2.2.1.length) (i:=g.2.2.2.1) (by rw [ok.2.1];omega);have s0:=ZKQ (l:=Zam g.2.2.1 g.2.2.1.length) (i:=g.2.2.2.2) (by rw [ok.2.2];omega);rw [ZaK] at v0 s0;have gv:gI (ZK7 [3,2] g.2.2.1).1 g.2.2.2.1=some (atI (ZK7 [3,2] g.2.2.1).1 g.2.2.2.1):=ZaB (by rw [hN.len];exact v0);have gs:gI (ZK7 [3,2] g.2.2.1).1 g.2.2.2.2=some (atI (ZK7 [3,2] g.2.2.1).1 g.2.2.2.2):=ZaB (by rw [hN.len];exact s0);have bv:=hN.hb _ (ZeR gv);have bs:=hN.hb _ (ZeR gs);have X:=hx.sorts hN.W hT.sp bv.r bs.r;have Y:=hx.props hN.W.toPoolH hN.irr hN.nd bv.r bs.r;obtain ⟨sm1,sm2⟩:=hx.small hN.W bv.r bs.r;have hNs:=hN.sz;have val:∀ args:List Int,(∀ x∈args,I64 x)->(∀ x∈h.2.2.1,OpE x)/\ZRr ZRx unM args st0 h.2.2.1 h.2.2.2.1=ZRr ZRx unM args st0 g.2.2.1 g.2.2.2.1/\ZRr ZRx unM args st0 h.2.2.1 h.2.2.2.2=ZRr ZRx unM args st0 g.2.2.1 g.2.2.2.2:=fun args ha=>by
  have hV:=ZSw ZTQ ha ZSP hS hW.w (by omega) ok.1 hg.W.toPoolH hg.oe g.2.2.1.length (Nat.le_refl _);rw [List.take_length] at hV;obtain ⟨x1,x2,x3⟩:=hx.val (B:=ZRx) (U:=unM) (A:=args) (σ:=st0) hN.W.toPoolH Y.p hV.oe bv.r bs.r;have at_:∀ i,inR g.2.2.1.length i->ZRr ZRx unM args st0 (ZK7 [3,2] g.2.2.1).2 (atI (ZK7 [3,2] g.2.2.1).1 i)=ZRr ZRx unM args st0 g.2.2.1 i:=fun i hi=>by
   obtain ⟨m,rfl⟩:∃ m:Nat,i=m:=⟨i.toNat,by have:=hi.1;omega⟩
   exact hV.va m (by have:=hi.2;omega)
  exact ⟨x1,x2.trans (at_ _ v0),x3.trans (at_ _ s0)⟩
 refine ⟨⟨e1.trans hg.nm,e2.trans hg.pr,⟨Y.p,sm2,by omega⟩,by omega,X.sp,Y.d,(val [] (fun x hx=>by cases hx)).1,Ag.ok⟩,fun args ha=>(val args ha).2⟩
theorem ZTi (a:Int×Int×List Int×Int) (h:a.2.2.1.length<=1000000):F8 a a=some true:=by
 refine Ret.eq ?_;simp only [F8,Z5E,bne_self_eq_false,reduceEq,false_imp_iff,true_imp_iff,not_false_eq_true,not_true_eq_false,true_and,and_true,wq,reduceCtorEq];refine Zac (fun i:Int=>∃ k:Nat,i=k/\k<=a.2.2.1.length) (fun i=>a.2.2.1.length - i.toNat) ?_ _ ⟨0,rfl,by omega⟩;rintro _ ⟨k,rfl,hk⟩;have hw:=Zab k (by omega);simp only [Z5G,reduceEq,false_imp_iff,true_imp_iff,not_false_eq_true,not_true_eq_false,true_and,and_true,wq,reduceCtorEq,hw];refine fun hlt=>Zaj (by omega) hlt fun x hx _=>?_;simp only [Za4 hx,reduceEq,false_imp_iff,true_imp_iff,not_false_eq_true,not_true_eq_false,true_and,and_true,wq,reduceCtorEq];exact ⟨⟨k+1,rfl,by omega⟩,by omega⟩
theorem ZRy (l:List Int) (a b w:Int) (hl:∀ x∈l,I64 x) (hw:I64 w):F3 l a b w=some true:=by
 refine Ret.eq ?_;simp only [F3,wq,reduceCtorEq];refine Ret.mono (ZEP l hl) fun n _ hP=>?_;refine Ret.mono (ZBu hP (by omega) hP.z) fun v _ hv=>?_;refine Ret.mono (ZBu hP (by omega) hP.e) fun s _ hs=>?_;have hg:=hP.gok hv hs;have hlen:=hP.len;refine Ret.mono (ZBv (g:=(nmF,2,n,v,s)) ⟨hg.G,hg.W.w⟩ (by show n.length<=2500;omega) [3,2]) fun h _ hn=>?_;obtain ⟨hh,hval⟩:=ZSD hg (by show n.length<=100;omega) hn;have hargs:Ret (F7 a b w) fun r=>r.length=2/\∀ x∈r,I64 x:=by
  simp only [F7,wq,reduceCtorEq];exact Ret.mono (Zzt a w hw) fun x _ hx=>Ret.mono (Zzt b w hw) fun y _ hy=>⟨rfl,fun z hz=>by
   rcases List.mem_cons.1 hz with rfl | hz
   ·exact hx
   ·rw [List.mem_singleton.1 hz];exact hy⟩
 refine Ret.mono hargs fun args _ ⟨ha1,ha2⟩=>?_;have r1:=ZSQ hg ha1 ha2;have r2:=ZSQ hh ha1 ha2;obtain ⟨q1,q2⟩:=hval args ha2;rw [q1,q2] at r2;have eU:([((ByteArray.mk #[97]),3),((ByteArray.mk #[98]),2)]:List (ByteArray×Int))=uA:=rfl;simp only [eU,Za4 r1,Za4 r2];have ho:=ZRX (B:=ZRx) (U:=unM) (A:=args) (σ:=st0) hg.W.toPoolH hg.oe rfl (s.toNat+1) s hs.1 (by have:=hs.1.1;omega);have hs2:=hs.1.2;have e:=ZTi (ZT8 (ZRr ZRx unM args st0 n s) (ZRr ZRx unM args st0 n v)) (by
  unfold ZT8;split<;>(dsimp only at ho |-;omega))
 simp only [Za4 e,F10,ZB4,reduceEq,false_imp_iff,true_imp_iff,not_false_eq_true,not_true_eq_false,true_and,and_true,wq,reduceCtorEq]
theorem ZR2 (x0:List Int) (x1 x2 x3:Int) (hb:x0.length<=9223372036854775807) (hw0:∀ x∈x0,I64 x) (_:I64 x1) (_:I64 x2) (h3:I64 x3):F3 x0 x1 x2 x3=some true:=ZRy x0 x1 x2 x3 hw0 h3
end Go.Dat
