/-
 Whether a graph is well formed: the program's answer.
-/
import Derived.Test.YteejallmbdngcaaGreatDoorPl0
namespace Go.Dat
open Go.Eng
set_option linter.unusedSimpArgs false
set_option linter.unusedVariables false
set_option linter.unusedSectionVars false
theorem Zff (n:Nat) (q:Int):atI (List.replicate n 0) q=0:=by
 unfold atI
 cases h:(List.replicate n (0:Int))[q.toNat]? with
 | none=>rfl
 | some r=>exact (List.mem_replicate.1 (List.mem_of_getElem? h)).2
theorem Zz2 {a:Nat} (ha:a < 65536):(BitVec.ofInt 32 (a:Int)).toNat=a:=by
 rw [BitVec.toNat_ofInt];omega
theorem Zk5 (b:BitVec 32):ZeM .u32 b=(b.toNat:Int):=by
 have:b.toNat < 4294967296:=b.isLt
 exact Zb1 (n:=((b.toNat:Nat):Int)) (by omega) (by omega)
theorem Z49 {a b:Nat} (ha:a < 65536) (hb:b < 65536):∃ c:Nat,ZeM .u32 (BitVec.ofInt (IntKind.bits .u32) (a:Int) ||| BitVec.ofInt (IntKind.bits .u32) (b:Int))=(c:Int)/\c < 65536/\∀ j,c.testBit j=(a.testBit j||b.testBit j):=by
 refine ⟨a ||| b,?_,Nat.or_lt_two_pow (n:=16) ha hb,fun j=>Nat.testBit_or a b j⟩
 rw [show ZeM .u32 (BitVec.ofInt (IntKind.bits .u32) (a:Int) ||| BitVec.ofInt (IntKind.bits .u32) (b:Int))=((BitVec.ofInt 32 (a:Int) ||| BitVec.ofInt 32 (b:Int)).toNat:Int) from Zk5 _,BitVec.toNat_or,Zz2 ha,Zz2 hb]
theorem Zz3 {i:Nat} (hi:i < 16):IntKind.wrap .u32 (1 * 2 ^ (min (Int.toNat (IntKind.wrap .u64 (i:Int))) (IntKind.bits .u32)))=((2 ^ i:Nat):Int)/\2 ^ i < 65536:=by
 have h1:(2:Nat) ^ i < 2 ^ 16:=Nat.pow_lt_pow_right (by omega) hi
 have h2:min (Int.toNat (IntKind.wrap .u64 (i:Int))) (IntKind.bits .u32)=i:=by
  rw [Zdz (n:=(i:Int)) (by omega) (by omega)]
  show min (Int.toNat (i:Int)) 32=i
  omega
 have h3:(1 * 2 ^ i:Int)=((2 ^ i:Nat):Int):=by rw [Int.one_mul];exact (Int.natCast_pow 2 i).symm
 refine ⟨?_,h1⟩
 rw [h2,h3]
 generalize 2 ^ i=p at h1
 exact Zb1 (by omega) (by omega)
theorem Zsu {a i:Nat} (ha:a < 65536) (hi:i < 16):∃ c:Nat,ZeM .u32 (BitVec.ofInt (IntKind.bits .u32) (a:Int) &&& ~~~ (BitVec.ofInt (IntKind.bits .u32) (IntKind.wrap .u32 (1 * 2 ^ (min (Int.toNat (IntKind.wrap .u64 (i:Int))) (IntKind.bits .u32))))))=(c:Int)/\c < 65536/\∀ j,c.testBit j=(a.testBit j&&decide (j≠i)):=by
 obtain ⟨h1,h2⟩:=Zz3 hi
 rw [h1]
 refine ⟨(BitVec.ofInt 32 (a:Int) &&& ~~~ (BitVec.ofInt 32 ((2 ^ i:Nat):Int))).toNat,Zk5 _,?_,fun j=>?_⟩
 ·rw [BitVec.toNat_and,Zz2 ha]
  exact Nat.lt_of_le_of_lt Nat.and_le_left ha
 ·rw [BitVec.testBit_toNat,BitVec.getLsbD_and,BitVec.getLsbD_not,<-BitVec.testBit_toNat,<-BitVec.testBit_toNat,Zz2 ha,Zz2 h2,Nat.testBit_two_pow]
  by_cases hj:j < 32
  ·by_cases e:i=j
   ·subst e;simp
   ·have:j≠i:=fun h=>e h.symm
    simp [hj,e,this]
  ·have:a.testBit j=false:=Nat.testBit_lt_two_pow (Nat.lt_of_lt_of_le ha (Nat.pow_le_pow_right (show 0 < 2 by omega) (show 16<=j by omega)))
   rw [this];simp
theorem Zfg {a:Nat} (ha:a < 65536):a=0↔∀ j:Nat,j < 16->a.testBit j=false:=by
 constructor
 ·rintro rfl j _;exact Nat.zero_testBit j
 ·intro h
  refine Nat.eq_of_testBit_eq fun j=>?_
  rw [Nat.zero_testBit]
  by_cases hj:j < 16
  ·exact h j hj
  ·exact Nat.testBit_lt_two_pow (Nat.lt_of_lt_of_le ha (Nat.pow_le_pow_right (show 0 < 2 by omega) (show 16<=j by omega)))
def Zq1 (v:Int) (P:Int->Prop):Prop:=∃ a:Nat,v=a/\a < 65536/\∀ j:Nat,j < 16->(a.testBit j=true↔P j)
theorem Zq1.congr {v:Int} {P R:Int->Prop} (h:Zq1 v P) (e:∀ j:Nat,j < 16->(P j↔R j)):Zq1 v R:=by
 obtain ⟨a,h1,h2,h3⟩:=h
 exact ⟨a,h1,h2,fun j hj=>(h3 j hj).trans (e j hj)⟩
theorem Z8B {l:List Zae} (hG:GraphH l) (hg:Zex l l.length):Ret (F14 l) fun out=>out.length=l.length/\∀ i:Nat,i < l.length->Zq1 (atI out (i:Int)) (Dp l i):=by
 have hn:=hG.n
 simp only [F14,wq,reduceCtorEq]
 refine ⟨fun _=>?_,fun h=>absurd h (by omega)⟩
 refine Zac (fun q:Int×List Int=>∃ m:Nat,q.1=m/\m<=l.length/\q.2.length=l.length/\(∀ i:Nat,i < m->Zq1 (atI q.2 (i:Int)) (Dp l i))/\∀ i:Nat,m<=i->i < l.length->atI q.2 (i:Int)=0) (fun q=>l.length - q.1.toNat) ?_ _ ⟨0,rfl,by omega,by simp,(fun i hi=>by omega),fun i _ hi=>Zff _ _⟩
 rintro ⟨_,out⟩ ⟨m,rfl,hm,hol,hP,hZ⟩
 dsimp only at hol hP hZ
 have hw:=Zab m (by omega)
 simp only [ZIX,wq,reduceCtorEq]
 refine ⟨fun hlt=>Zaj (by omega) hlt fun x hx hxm=>?_,fun hge=>?_⟩
 ·rw [Zax] at hx
  have hml:m < l.length:=by omega
  have hkb:=ZeD hg hx
  have hkl:=hG.k x hxm
  obtain ⟨hi3,hi31⟩:=Zer hG hg hx
  have hmo:inR out.length (m:Int):=⟨by omega,by omega⟩
  have hz:=hZ m (Nat.le_refl _) hml
  have hwd:IntKind.wrap .i64 ((x.2.2.length:Int) - 1)=(x.2.2.length:Int) - 1:=Zau (by omega) (by omega)
  -- through the kids
  have inner:∀ o0:List Int,o0.length=l.length->(∀ i:Nat,i≠m->atI o0 (i:Int)=atI out (i:Int))->Zq1 (atI o0 (m:Int)) (fun j=>x.1=3/\j=Int.tdiv x.2.1 16)->Ret (ZIp (m:Int) x o0) (Zev (fun q:Int×List Int=>∃ m:Nat,q.1=m/\m<=l.length/\q.2.length=l.length/\(∀ i:Nat,i < m->Zq1 (atI q.2 (i:Int)) (Dp l i))/\∀ i:Nat,m<=i->i < l.length->atI q.2 (i:Int)=0) (fun q=>l.length - q.1.toNat) (fun out=>out.length=l.length/\∀ i:Nat,i < l.length->Zq1 (atI out (i:Int)) (Dp l i)) ((m:Int),out)):=by
   intro o0 ho0 hsame h0
   unfold ZIp
   refine Zac (fun q:Int×List Int=>∃ k:Nat,q.1=k/\k<=x.2.2.length/\q.2.length=l.length/\(∀ i:Nat,i≠m->atI q.2 (i:Int)=atI out (i:Int))/\Zq1 (atI q.2 (m:Int)) (fun j=>(x.1=3/\j=Int.tdiv x.2.1 16)\/∃ t q:Nat,t < k/\x.2.2[t]?=some (q:Int)/\Dp l q j/\(x.1≠31\/j≠x.2.1\/t < x.2.2.length / 2))) (fun q=>x.2.2.length - q.1.toNat) ?_ _ ⟨0,rfl,by omega,ho0,hsame,h0.congr fun j _=>⟨.inl,fun h=>h.elim id fun ⟨t,q,h,_⟩=>by omega⟩⟩
   rintro ⟨_,o⟩ ⟨k,rfl,hk,hol2,hs2,hB⟩
   dsimp only at hol2 hs2 hB
   have hw2:=Zab k (by omega)
   have hmo2:inR o.length (m:Int):=⟨by omega,by omega⟩
   simp only [ZIW,wq,reduceCtorEq,hw]
   refine ⟨fun hlt2=>Zaj (by omega) hlt2 fun y hy hym=>?_,fun hge2=>?_⟩
   ·obtain ⟨q,rfl⟩:∃ q:Nat,y=q:=⟨y.toNat,by have:=(hkb y hym).1;omega⟩
    have hqm:q < m:=by have:=(hkb _ hym).2;omega
    rw [Zax] at hy
    have hqo:inR o.length (q:Int):=⟨by omega,by omega⟩
    obtain ⟨b,hb1,hb2,hb3⟩:Zq1 (atI o (q:Int)) (Dp l q):=by rw [hs2 q (by omega)];exact hP q hqm
    obtain ⟨a,ha1,ha2,ha3⟩:=hB
    simp only [ZaB hqo,ZaB hmo2,ZIV,ZIU,wq,reduceCtorEq,hw2,hb1]
    have push:∀ c:Nat,c < 65536->(∀ j:Nat,j < 16->(c.testBit j=true↔Dp l q j/\(x.1≠31\/(j:Int)≠x.2.1\/k < x.2.2.length / 2)))->(∃ k':Nat,((k+1:Nat):Int)=k'/\k'<=x.2.2.length/\(Zaq o (m:Int) (ZeM .u32 (BitVec.ofInt (IntKind.bits .u32) (atI o (m:Int)) ||| BitVec.ofInt (IntKind.bits .u32) (c:Int)))).length=l.length/\(∀ i:Nat,i≠m->atI (Zaq o (m:Int) (ZeM .u32 (BitVec.ofInt (IntKind.bits .u32) (atI o (m:Int)) ||| BitVec.ofInt (IntKind.bits .u32) (c:Int)))) (i:Int)=atI out (i:Int))/\Zq1 (atI (Zaq o (m:Int) (ZeM .u32 (BitVec.ofInt (IntKind.bits .u32) (atI o (m:Int)) ||| BitVec.ofInt (IntKind.bits .u32) (c:Int)))) (m:Int)) (fun j=>(x.1=3/\j=Int.tdiv x.2.1 16)\/∃ t q:Nat,t < k'/\x.2.2[t]?=some (q:Int)/\Dp l q j/\(x.1≠31\/j≠x.2.1\/t < x.2.2.length / 2)))/\x.2.2.length - ((k+1:Nat):Int).toNat < x.2.2.length - ((k:Int)).toNat:=by
     intro c hc hcj
     obtain ⟨d,hd1,hd2,hd3⟩:=Z49 ha2 hc
     rw [ha1,hd1]
     refine ⟨⟨k+1,rfl,by omega,by rw [Zay];exact hol2,fun i hi=>?_,d,?_,hd2,fun j hj=>?_⟩,by omega⟩
     ·rw [Za3 hmo2 (by omega),if_neg (by omega)];exact hs2 i hi
     ·rw [Za3 hmo2 (by omega),if_pos rfl]
     ·rw [hd3,Bool.or_eq_true,ha3 j hj,hcj j hj]
      constructor
      ·rintro ((h | ⟨t,q',h1,h2,h3,h4⟩) | ⟨h1,h2⟩)
       ·exact .inl h
       ·exact .inr ⟨t,q',by omega,h2,h3,h4⟩
       ·exact .inr ⟨k,q,by omega,hy,h1,h2⟩
      ·rintro (h | ⟨t,q',h1,h2,h3,h4⟩)
       ·exact .inl (.inl h)
       ·by_cases e:t < k
        ·exact .inl (.inr ⟨t,q',e,h2,h3,h4⟩)
        ·obtain rfl:t=k:=by omega
         rw [hy] at h2
         have:q=q':=by have:=Option.some.inj h2;omega
         subst this
         exact .inr ⟨h3,h4⟩
    have Zlw:(x.1≠31\/k < x.2.2.length / 2)->∀ j:Nat,j < 16->(b.testBit j=true↔Dp l q j/\(x.1≠31\/(j:Int)≠x.2.1\/k < x.2.2.length / 2)):=fun h j hj=>(hb3 j hj).trans ⟨fun d=>⟨d,by omega⟩,fun d=>d.1⟩
    refine ⟨fun e31=>?_,fun e31=>push b hb2 (Zlw (.inl e31))⟩
    obtain ⟨i0,i1,mm,hmm,m1,m2⟩:=hi31 e31
    have hd3:Int.tdiv ((x.2.2.length:Int) - 1) 2=(mm:Int):=by
     rw [hmm,Int.tdiv_eq_ediv_of_nonneg (by omega)];omega
    have hd4:IntKind.wrap .i64 (mm:Int)=mm:=Zau (by omega) (by omega)
    obtain ⟨im,him⟩:∃ im:Nat,x.2.1=im:=⟨x.2.1.toNat,by omega⟩
    have him16:im < 16:=by omega
    have hwu:IntKind.wrap .u64 (im:Int)=im:=Zdz (by omega) (by omega)
    rw [hwd,hd3,hd4]
    refine ⟨fun hge3=>⟨fun h=>?_,fun _=>?_⟩,fun hlt3=>push b hb2 (Zlw (.inr (by omega)))⟩
    ·rw [him,hwu] at h;omega
    ·obtain ⟨c,hc1,hc2,hc3⟩:=Zsu hb2 him16
     rw [him,hc1]
     have hp:=push c hc2 (fun j hj=>by
      rw [hc3,Bool.and_eq_true,hb3 j hj,decide_eq_true_eq]
      constructor
      ·rintro ⟨h1,h2⟩;exact ⟨h1,.inr (.inl (by omega))⟩
      ·rintro ⟨h1,h2⟩;exact ⟨h1,by rintro rfl;rcases h2 with h | h | h;exact absurd e31 h;omega;omega⟩)
     rw [him] at hp
     exact hp
   ·have hkk:k=x.2.2.length:=by omega
    refine ⟨⟨m+1,rfl,by omega,hol2,fun i hi=>?_,fun i hi1 hi2=>by rw [hs2 i (by omega)];exact hZ i (by omega) hi2⟩,by omega⟩
    by_cases e:i=m
    ·subst e
     refine hB.congr fun j hj=>⟨?_,fun h=>?_⟩
     ·rintro (⟨h1,h2⟩ | ⟨t,q,_,h2,h3,h4⟩)
      ·rw [h2];exact .var hx h1
      ·exact .kid hx h2 h3 h4
     ·rcases h.inv hx with ⟨h1,h2⟩ | ⟨t,q,h2,h3,h4⟩
      ·exact .inl ⟨h1,h2⟩
      ·exact .inr ⟨t,q,by have:=ZaA h2;omega,h2,h3,h4⟩
    ·rw [hs2 i e];exact hP i (by omega)
  refine ⟨fun e3=>?_,fun e3=>?_⟩
  ·obtain ⟨i0,i1⟩:=hi3 e3
   obtain ⟨im,him⟩:∃ im:Nat,x.2.1=im:=⟨x.2.1.toNat,by omega⟩
   have hq:Int.tdiv x.2.1 16=((im / 16:Nat):Int):=by rw [him];exact ZiT im 16
   have h16:im / 16 < 16:=by omega
   have hwq:IntKind.wrap .i64 ((im / 16:Nat):Int)=((im / 16:Nat):Int):=Zau (by omega) (by omega)
   have hwu:IntKind.wrap .u64 ((im / 16:Nat):Int)=((im / 16:Nat):Int):=Zdz (by omega) (by omega)
   obtain ⟨b1,b2⟩:=Zz3 h16
   rw [hq,hwq,b1,hwu]
   refine ⟨fun h=>by omega,fun _=>?_⟩
   rw [ZaB hmo]
   simp only [wq,reduceCtorEq]
   refine inner _ (by rw [Zay];exact hol) (fun i hi=>?_) ⟨2 ^ (im / 16),?_,b2,fun j hj=>?_⟩
   ·rw [Za3 hmo (by omega),if_neg (by omega)]
   ·rw [Za3 hmo (by omega),if_pos rfl]
   ·rw [Nat.testBit_two_pow,decide_eq_true_eq,hq]
    exact ⟨fun h=>⟨e3,by omega⟩,fun h=>by omega⟩
  ·refine inner out hol (fun _ _=>rfl) ⟨0,hz,by omega,fun j hj=>?_⟩
   rw [Nat.zero_testBit]
   exact ⟨fun h=>(by cases h),fun h=>absurd h.1 e3⟩
 ·have:m=l.length:=by omega
  subst this
  exact ⟨hol,hP⟩
def Z1H (l:List Zae) (m:Nat) (vars:List Int):Prop:=vars.length=16/\∀ j:Int,0<=j->j < 16->(atI vars j=0/\∀ y∈l.take m,y.1=31->y.2.1≠j)\/∃ y∈l.take m,y.1=31/\y.2.1=j/\atI vars j=((y.2.2.length / 2:Nat):Int)/\0 < atI vars j
theorem ZI5 (g:GrT) (hW:ZhX g.2.2.1):F6 g=some (wfB g):=by
 refine Ret.eq ?_
 have hG:=hW.toGraphH
 have hn:=hG.n
 have hsl:=ZaK g.2.2.1 g.2.2.1.length
 simp only [F6,ZJr _ hW,Z6J,wq,reduceCtorEq]
 cases hgb:ZeX g.2.2.1
 ·simp only [cond_false,wq,reduceCtorEq]
  exact Zbx fun w=>by (rw [Zc5 w.good] at hgb;cases hgb)
 have hg:Zex g.2.2.1 g.2.2.1.length:=by unfold ZeX at hgb;simpa using hgb
 simp only [cond_true,ZJs,wq,reduceCtorEq]
 refine ⟨fun e1=>Zbx fun w=>e1 w.va,fun e1=>⟨fun e2=>Zbx fun w=>e2 w.st,fun e2=>?_⟩⟩
 have rv:inR g.2.2.1.length g.2.2.2.1:=by have:=Zfe (l:=Zam g.2.2.1 g.2.2.1.length) (i:=g.2.2.2.1) (by omega);rwa [hsl] at this
 have rs:inR g.2.2.1.length g.2.2.2.2:=by have:=Zfe (l:=Zam g.2.2.1 g.2.2.1.length) (i:=g.2.2.2.2) (by omega);rwa [hsl] at this
 refine Zac (fun q:Int×List Int=>∃ m:Nat,q.1=m/\m<=g.2.2.1.length/\Z1H g.2.2.1 m q.2/\∀ i k:Nat,i < m->k < i->∀ x y,g.2.2.1[i]?=some x->g.2.2.1[k]?=some y->x.1=31->y.1=31->y.2.1≠x.2.1) (fun q=>g.2.2.1.length - q.1.toNat) ?_ _ ⟨0,rfl,by omega,⟨by simp,fun j h0 h1=>.inl ⟨Zff _ _,fun y hy=>by simp at hy⟩⟩,fun i k h=>by omega⟩
 rintro ⟨_,vars⟩ ⟨m,rfl,hm,hV,hlp⟩
 dsimp only at hV
 obtain ⟨v16,hV⟩:=hV
 have hw:=Zab m (by omega)
 simp only [ZER,ZJM,wq,reduceCtorEq,hw]
 refine ⟨fun hlt=>Zaj (by omega) hlt fun x hx hxm=>?_,fun hge=>?_⟩
 ·rw [Zax] at hx
  have htake:∀ y,y∈g.2.2.1.take (m+1)↔y∈g.2.2.1.take m\/y=x:=fun y=>by
   rw [List.take_add_one,hx,List.mem_append];simp
  refine ⟨fun e31=>?_,fun e31=>⟨⟨m+1,rfl,by omega,⟨v16,fun j h0 h1=>?_⟩,fun i k hi hk x' y' hx' hy'=>?_⟩,by omega⟩⟩
  ·obtain ⟨i0,i1,mm,hmm,m1,m2⟩:=(Zer hG hg hx).2 e31
   have hiv:inR vars.length x.2.1:=⟨i0,by omega⟩
   have hwd:IntKind.wrap .i64 ((x.2.2.length:Int) - 1)=(x.2.2.length:Int) - 1:=Zau (by omega) (by omega)
   have hd3:Int.tdiv ((x.2.2.length:Int) - 1) 2=(mm:Int):=by
    rw [hmm,Int.tdiv_eq_ediv_of_nonneg (by omega)];omega
   have hd4:IntKind.wrap .i64 (mm:Int)=mm:=Zau (by omega) (by omega)
   rw [ZaB hiv,hwd,hd3,hd4]
   simp only [wq,reduceCtorEq]
   refine ⟨fun _=>⟨fun hpos=>Zbx fun w=>?_,fun hz=>⟨fun _=>?_,fun h=>by omega⟩⟩,fun h=>by omega⟩
   ·rcases hV x.2.1 i0 i1 with ⟨h,_⟩ | ⟨y,hy,y1,y2,_⟩
    ·omega
    ·obtain ⟨k,hk⟩:=List.getElem?_of_mem hy
     have hkm:k < m:=by have:=ZaA hk;rw [List.length_take] at this;omega
     rw [List.getElem?_take_of_lt hkm] at hk
     exact w.lp m k hkm x y hx hk e31 y1 y2
   ·have hno:∀ y∈g.2.2.1.take m,y.1=31->y.2.1≠x.2.1:=by
     rcases hV x.2.1 i0 i1 with ⟨_,h⟩ | ⟨y,hy,y1,y2,_,h⟩
     ·exact h
     ·omega
    refine ⟨⟨m+1,rfl,by omega,⟨by rw [Zay];exact v16,fun j h0 h1=>?_⟩,fun i k hi hk x' y' hx' hy'=>?_⟩,by omega⟩
    ·rw [Za3 hiv h0]
     split
     ·subst ‹j=_›
      exact .inr ⟨x,(htake x).2 (.inr rfl),e31,rfl,by rw [hmm];omega,by omega⟩
     ·rename_i hne
      rcases hV j h0 h1 with ⟨h,h2⟩ | ⟨y,hy,h⟩
      ·refine .inl ⟨h,fun y hy y1=>?_⟩
       rcases (htake y).1 hy with hy | rfl
       ·exact h2 y hy y1
       ·exact fun e=>hne e.symm
      ·exact .inr ⟨y,(htake y).2 (.inl hy),h⟩
    ·by_cases e:i < m
     ·exact hlp i k e hk x' y' hx' hy'
     ·have:i=m:=by omega
      subst this
      rw [hx] at hx';obtain rfl:=Option.some.inj hx'
      exact fun _ e2=>hno y' (List.mem_of_getElem? (by rw [List.getElem?_take_of_lt hk];exact hy')) e2
  ·rcases hV j h0 h1 with ⟨h,h2⟩ | ⟨y,hy,h⟩
   ·refine .inl ⟨h,fun y hy y1=>?_⟩
    rcases (htake y).1 hy with hy | rfl
    ·exact h2 y hy y1
    ·exact absurd y1 e31
   ·exact .inr ⟨y,(htake y).2 (.inl hy),h⟩
  ·by_cases e:i < m
   ·exact hlp i k e hk x' y' hx' hy'
   ·have:i=m:=by omega
    subst this
    rw [hx] at hx';obtain rfl:=Option.some.inj hx'
    exact fun e1=>absurd e1 e31
 ·have hmn:m=g.2.2.1.length:=by omega
  rw [List.take_of_length_le (by omega)] at hV
  have hlp':∀ i k:Nat,k < i->∀ x y,g.2.2.1[i]?=some x->g.2.2.1[k]?=some y->x.1=31->y.1=31->y.2.1≠x.2.1:=fun i k hk x y hx hy=>hlp i k (by have:=ZaA hx;omega) hk x y hx hy
  refine Zac (fun q:Int×List Int=>∃ m:Nat,q=((m:Int),vars)/\m<=g.2.2.1.length/\∀ x∈g.2.2.1.take m,x.1=3->∀ y∈g.2.2.1,y.1=31->y.2.1=Int.tdiv x.2.1 16->Int.tmod x.2.1 16 < ((y.2.2.length / 2:Nat):Int)) (fun q=>g.2.2.1.length - q.1.toNat) ?_ _ ⟨0,rfl,by omega,fun x hx=>by simp at hx⟩
  rintro _ ⟨m,rfl,hm,hlv⟩
  have hw:=Zab m (by omega)
  simp only [ZJQ,ZJO,ZJN,ZJP,wq,reduceCtorEq,hw]
  refine ⟨fun hlt=>Zaj (by omega) hlt fun x hx hxm=>?_,fun hge=>?_⟩
  ·rw [Zax] at hx
   have nx:(x.1=3->∀ y∈g.2.2.1,y.1=31->y.2.1=Int.tdiv x.2.1 16->Int.tmod x.2.1 16 < ((y.2.2.length / 2:Nat):Int))->∃ m':Nat,(((m+1:Nat):Int),vars)=((m':Int),vars)/\m'<=g.2.2.1.length/\∀ x∈g.2.2.1.take m',x.1=3->∀ y∈g.2.2.1,y.1=31->y.2.1=Int.tdiv x.2.1 16->Int.tmod x.2.1 16 < ((y.2.2.length / 2:Nat):Int):=fun h=>by
    refine ⟨m+1,rfl,by omega,fun z hz=>?_⟩
    rw [List.take_add_one,hx] at hz
    rcases List.mem_append.1 hz with hz | hz
    ·exact hlv z hz
    ·rw [show z=x by simpa using hz];exact h
   refine ⟨fun e3=>?_,fun e3=>⟨nx fun h=>absurd h e3,by omega⟩⟩
   obtain ⟨i0,i1⟩:=(Zer hG hg hx).1 e3
   obtain ⟨im,him⟩:∃ im:Nat,x.2.1=im:=⟨x.2.1.toNat,by omega⟩
   have hq:Int.tdiv x.2.1 16=((im / 16:Nat):Int):=by rw [him];exact ZiT im 16
   have h16:im / 16 < 16:=by omega
   have hwq:IntKind.wrap .i64 ((im / 16:Nat):Int)=((im / 16:Nat):Int):=Zau (by omega) (by omega)
   have hiv:inR vars.length ((im / 16:Nat):Int):=⟨by omega,by omega⟩
   rw [hq,hwq,ZaB hiv]
   simp only [wq,reduceCtorEq]
   refine ⟨fun _=>⟨fun hpos=>⟨fun hge2=>?_,fun hlt2=>⟨nx fun _ y hy y1 y2=>?_,by omega⟩⟩,fun hz=>⟨nx fun _ y hy y1 y2=>?_,by omega⟩⟩,fun h=>by omega⟩
   ·rcases hV _ (show (0:Int)<=((im / 16:Nat):Int) by omega) (by omega) with ⟨h,_⟩ | ⟨y,hy,y1,y2,y3,_⟩
    ·omega
    ·exact Zbx fun w=>by have:=w.lv x hxm e3 y hy y1 (by rw [y2,hq]);omega
   ·rcases hV _ (show (0:Int)<=((im / 16:Nat):Int) by omega) (by omega) with ⟨h,_⟩ | ⟨z,hz,z1,z2,z3,_⟩
    ·omega
    ·have:y=z:=by
      obtain ⟨a,ha⟩:=List.getElem?_of_mem hy
      obtain ⟨b,hb⟩:=List.getElem?_of_mem hz
      have hab:a=b:=by
       rcases Nat.lt_trichotomy a b with h | h | h
       ·exact absurd (by rw [y2,z2,hq]) (hlp' b a h z y hb ha z1 y1)
       ·exact h
       ·exact absurd (by rw [y2,z2,hq]) (hlp' a b h y z ha hb y1 z1)
      subst hab
      rw [ha] at hb
      exact Option.some.inj hb
     subst this
     omega
   ·rcases hV _ (show (0:Int)<=((im / 16:Nat):Int) by omega) (by omega) with ⟨_,h⟩ | ⟨z,hz,z1,z2,z3,z4⟩
    ·exact absurd (by rw [y2,hq]) (h y hy y1)
    ·omega
  ·have hlv':∀ x∈g.2.2.1,x.1=3->∀ y∈g.2.2.1,y.1=31->y.2.1=Int.tdiv x.2.1 16->Int.tmod x.2.1 16 < ((y.2.2.length / 2:Nat):Int):=by
    rw [List.take_of_length_le (by omega)] at hlv;exact hlv
   refine (Z8B hG hg).mono fun out _ ⟨hol,hB⟩=>?_
   have nv:((g.2.2.2.1.toNat:Nat):Int)=g.2.2.2.1:=by have:=rv.1;omega
   have ns:((g.2.2.2.2.toNat:Nat):Int)=g.2.2.2.2:=by have:=rs.1;omega
   obtain ⟨a,a1,a2,a3⟩:=hB g.2.2.2.1.toNat (by have:=rv.2;have:=rv.1;omega)
   obtain ⟨b,b1,b2,b3⟩:=hB g.2.2.2.2.toNat (by have:=rs.2;have:=rs.1;omega)
   rw [nv] at a1
   rw [ns] at b1
   rw [ZaB (l:=out) (i:=g.2.2.2.1) (by rw [hol];exact rv),ZaB (l:=out) (i:=g.2.2.2.2) (by rw [hol];exact rs),a1,b1]
   simp only [wq,reduceCtorEq]
   refine ⟨fun e=>?_,fun e=>Zbx fun w=>?_⟩
   ·have ha0:a=0:=by omega
    rw [Bool.eq_iff_iff,ZvJ,beq_iff_eq]
    constructor
    ·intro e5
     have hb0:b=0:=by omega
     refine ⟨hg,e1,e2,hlp',hlv',fun j h0 h1=>?_⟩
     obtain ⟨jn,rfl⟩:∃ jn:Nat,j=jn:=⟨j.toNat,by omega⟩
     have hj:jn < 16:=by omega
     refine ⟨fun d=>?_,fun d=>?_⟩
     ·have:=(a3 jn hj).2 d;rw [(Zfg a2).1 ha0 jn hj] at this;cases this
     ·have:=(b3 jn hj).2 d;rw [(Zfg b2).1 hb0 jn hj] at this;cases this
    ·intro w
     have:b=0:=(Zfg b2).2 fun j hj=>by
      cases h:b.testBit j
      ·rfl
      ·exact absurd ((b3 j hj).1 h) (w.dp j (by omega) (by omega)).2
     omega
   ·have:a=0:=(Zfg a2).2 fun j hj=>by
     cases h:a.testBit j
     ·rfl
     ·exact absurd ((a3 j hj).1 h) (w.dp j (by omega) (by omega)).1
    omega
structure ZKc (o:List Zae):Prop where
 n0:0 < o.length
 n1:o.length<=2001
 w:ZhX o
theorem ZJ6 (l:List Zae) (how at':Int) (h0:0 < l.length) (h1:l.length<=2000) (hk:∀ x∈l,x.2.2.length<=40) (hw:∀ x∈l,NodeW x):Ret (F7 l how at') ZKc:=by
 have J:∀ (r:Int) (o:List Zae) (a b:Int) (k:List Int),0<=r->r < o.length->o.length<=2001->(∀ x∈o,NodeW x)->k.length<=41->I64 a->I64 b->(∀ x∈k,I64 x)->Ret (Z0f r (o,a,b,k)) ZKc:=by
  intro r o a b k r0 r1 ol ow hk ha hb hkw
  simp only [Z0f,wq,reduceCtorEq]
  refine Zaj r0 r1 fun y hy _=>?_
  simp only [Za4 hy]
  have all:∀ x∈Zaq o r (a,b,k),NodeW x:=fun x hx=>by
   rcases Zja hx with hx | rfl
   ·exact ow x hx
   ·exact ⟨ha,hb,by show k.length<=1000;omega,hkw⟩
  exact ⟨by rw [Zay];omega,by rw [Zay];omega,⟨⟨by rw [Zay];omega,fun x hx=>(all x hx).k⟩,all⟩⟩
 simp only [F7,List.nil_append,List.length_nil,wq,reduceCtorEq]
 refine ⟨fun _=>⟨fun h=>by omega,fun _=>?_⟩,fun h=>by omega⟩
 refine ZBu (by omega) (by omega) fun r r0 r1=>Zaj r0 r1 fun y hy hm=>?_
 have hyk:=hk y hm
 obtain ⟨wo,wi,_,wk⟩:=hw y hm
 have hw2:IntKind.wrap .i64 ((l.length:Int)+2)=(l.length:Int)+2:=Zau (by omega) (by omega)
 simp only [Za4 hy,wq,reduceCtorEq,hw2]
 refine ⟨fun _=>?_,fun h=>by omega⟩
 have sm:∀ {a:Int},-10000<=a->a<=10000->I64 (IntKind.wrap .i64 a):=fun h1 h2=>by rw [Zau (by omega) (by omega)];constructor<;>omega
 refine ZBu (by omega) (by omega) fun q q0 q1=>⟨fun _=>?_,fun _=>⟨fun _=>?_,fun _=>⟨fun _=>?_,fun _=>⟨fun _=>⟨fun _=>?_,fun _=>?_⟩,fun _=>⟨fun _=>⟨fun _=>⟨fun _=>?_,fun _=>?_⟩,fun _=>?_⟩,fun _=>⟨fun _=>⟨fun _=>?_,fun _=>?_⟩,fun _=>⟨fun _=>?_,fun _=>?_⟩⟩⟩⟩⟩⟩⟩
 ·exact ZBu (by omega) (by omega) fun p p0 p1=>J _ _ _ _ _ r0 r1 (by omega) hw (by omega) (sm (by omega) (by omega)) wi wk
 ·exact ZBu (by omega) (by omega) fun p p0 p1=>J _ _ _ _ _ r0 r1 (by omega) hw (by omega) wo (sm (by omega) (by omega)) wk
 ·refine ZBu (by omega) (by omega) fun p p0 p1=>⟨fun _=>J _ _ _ _ _ r0 r1 (by omega) hw (by simp;omega) wo wi fun x hx=>?_,fun h=>absurd h (by simp only [List.length_cons,List.length_nil];omega)⟩
  rcases List.mem_append.1 hx with hx | hx
  ·exact wk x hx
  ·rw [List.mem_singleton.1 hx];exact sm (by omega) (by omega)
 ·refine ZBu (by omega) (by omega) fun p p0 p1=>ZBu (by omega) (by omega) fun p' p0' p1'=>Zaj p0 p1 fun z hz _=>?_
  simp only [Za4 hz]
  refine J _ _ _ _ _ r0 r1 (by omega) hw (by rw [Zay];omega) wo wi fun x hx=>?_
  rcases Zja hx with hx | rfl
  ·exact wk x hx
  ·exact sm (by omega) (by omega)
 ·exact J _ _ _ _ _ r0 r1 (by omega) hw (by omega) wo wi wk
 ·exact J _ _ _ _ _ r0 r1 (by omega) hw (by have:=Zmw y.2.2 1 (y.2.2.length:Int);omega) wo wi fun x hx=>wk x (by unfold slI at hx;exact List.mem_of_mem_drop (List.mem_of_mem_take hx))
 ·omega
 ·exact J _ _ _ _ _ r0 r1 (by omega) hw (by omega) wo wi wk
 ·refine J _ _ _ _ _ r0 (by simp;omega) (by simp;omega) (fun x hx=>?_) (by omega) wo wi wk
  rcases List.mem_append.1 hx with hx | hx
  ·exact hw x hx
  ·rw [List.mem_singleton.1 hx];exact hw y hm
 ·exact absurd ‹_› (by simp only [List.length_cons,List.length_nil];omega)
 ·exact ZBu (by omega) (by omega) fun p p0 p1=>J _ _ _ _ _ r0 r1 (by omega) hw (by simp) (by decide) (by constructor<;>omega) fun x hx=>by cases hx
 ·exact J _ _ _ _ _ r0 r1 (by omega) hw (by omega) wo wi wk
theorem ZGz (l:List Int) (f how at' va st:Int) (hl:∀ x∈l,I64 x) (hn:l.length<=9223372036854775807):F3 l f how at' va st=some true:=by
 refine Ret.eq ?_
 simp only [F3,wq,reduceCtorEq]
 refine ⟨fun _=>?_,fun h=>absurd h (by split<;>simp<;>omega)⟩
 generalize hl':slI l 0 (if 30 < (List.length l:Int) then 30 else (List.length l:Int))=l'
 have h1:ZGD l':=by
  intro x hx
  rw [<-hl'] at hx
  unfold slI at hx
  exact hl x (List.mem_of_mem_drop (List.mem_of_mem_take hx))
 have h2:l'.length<=9223372036854775807:=by
  rw [<-hl']
  unfold slI
  rw [List.length_take,List.length_drop]
  omega
 refine Ret.mono (ZEP l' h1 h2) fun u _ ⟨u1,u2⟩=>?_
 refine ZBu (by omega) (by omega) fun r r0 r1=>Zaj r0 (by omega) fun g _ hgm=>?_
 have hg:=u2 g hgm
 rw [ZI5 g hg.w,ZaH,<-Zst hg.wf]
 refine ⟨fun h=>absurd h (by simp),fun _=>?_⟩
 refine Ret.mono (ZJ6 g.2.2.1 how at' hg.p hg.n hg.k hg.w.w) fun o _ ho=>?_
 have w2:IntKind.wrap .i64 ((o.length:Int)+2)=(o.length:Int)+2:=by have:=ho.n1;exact Zau (by omega) (by omega)
 rw [w2]
 have p1:=ho.n1
 refine ZBu (by omega) (by omega) fun p _ _=>ZBu (by omega) (by omega) fun q _ _=>?_
 have e1:=ZI5 (g.1,g.2.1,o,g.2.2.2.1,g.2.2.2.2) ho.w
 have e2:=ZJt (g.1,g.2.1,o,g.2.2.2.1,g.2.2.2.2) ho.w.toGraphH
 have e3:=ZI5 (g.1,g.2.1,o,IntKind.wrap .i64 (p - 1),IntKind.wrap .i64 (q - 1)) ho.w
 have e4:=ZJt (g.1,g.2.1,o,IntKind.wrap .i64 (p - 1),IntKind.wrap .i64 (q - 1)) ho.w.toGraphH
 simp only [e1,e2,e3,e4,F9,ZB4,wq,reduceCtorEq,beq_self_eq_true]
theorem ZG0 (x0:List Int) (x1 x2 x3 x4 x5:Int) (hb:x0.length<=9223372036854775807) (hw0:∀ x∈x0,I64 x) (_:I64 x1) (_:I64 x2) (_:I64 x3) (_:I64 x4) (_:I64 x5):F3 x0 x1 x2 x3 x4 x5=some true:=
 ZGz x0 x1 x2 x3 x4 x5 hw0 hb
end Go.Dat
