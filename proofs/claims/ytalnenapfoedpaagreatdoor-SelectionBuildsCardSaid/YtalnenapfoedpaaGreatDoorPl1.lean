/-
 Whether a graph is well formed: the program's answer.
-/
import Derived.Test.YtalnenapfoedpaaGreatDoorPl0
namespace Go.Dat
open Go.Eng
set_option linter.unusedSimpArgs false
set_option linter.unusedVariables false
set_option linter.unusedSectionVars false
theorem Zff (n:Nat) (q:Int):atI (List.replicate n 0) q=0:=by
 unfold atI
 cases h:(List.replicate n (0:Int))[q.toNat]? with
 | none=>rfl
 | some r=>exact (List.mem_replicate.1 (List.mem_of_getElem? h)).2
theorem Zz2 {a:Nat} (ha:a < 65536):(BitVec.ofInt 32 (a:Int)).toNat=a:=by
 rw [BitVec.toNat_ofInt];omega
theorem Zk5 (b:BitVec 32):ZeM .u32 b=(b.toNat:Int):=by
 have:b.toNat < 4294967296:=b.isLt
 exact Zb1 (n:=((b.toNat:Nat):Int)) (by omega) (by omega)
theorem Z49 {a b:Nat} (ha:a < 65536) (hb:b < 65536):∃ c:Nat,ZeM .u32 (BitVec.ofInt (IntKind.bits .u32) (a:Int) ||| BitVec.ofInt (IntKind.bits .u32) (b:Int))=(c:Int)/\c < 65536/\∀ j,c.testBit j=(a.testBit j||b.testBit j):=by
 refine ⟨a ||| b,?_,Nat.or_lt_two_pow (n:=16) ha hb,fun j=>Nat.testBit_or a b j⟩
 rw [show ZeM .u32 (BitVec.ofInt (IntKind.bits .u32) (a:Int) ||| BitVec.ofInt (IntKind.bits .u32) (b:Int))=((BitVec.ofInt 32 (a:Int) ||| BitVec.ofInt 32 (b:Int)).toNat:Int) from Zk5 _,BitVec.toNat_or,Zz2 ha,Zz2 hb]
theorem Zz3 {i:Nat} (hi:i < 16):IntKind.wrap .u32 (1 * 2 ^ (min (Int.toNat (IntKind.wrap .u64 (i:Int))) (IntKind.bits .u32)))=((2 ^ i:Nat):Int)/\2 ^ i < 65536:=by
 have h1:(2:Nat) ^ i < 2 ^ 16:=Nat.pow_lt_pow_right (by omega) hi
 have h2:min (Int.toNat (IntKind.wrap .u64 (i:Int))) (IntKind.bits .u32)=i:=by
  rw [Zdz (n:=(i:Int)) (by omega) (by omega)]
  show min (Int.toNat (i:Int)) 32=i
  omega
 have h3:(1 * 2 ^ i:Int)=((2 ^ i:Nat):Int):=by rw [Int.one_mul];exact (Int.natCast_pow 2 i).symm
 refine ⟨?_,h1⟩
 rw [h2,h3]
 generalize 2 ^ i=p at h1
 exact Zb1 (by omega) (by omega)
theorem Zsu {a i:Nat} (ha:a < 65536) (hi:i < 16):∃ c:Nat,ZeM .u32 (BitVec.ofInt (IntKind.bits .u32) (a:Int) &&& ~~~ (BitVec.ofInt (IntKind.bits .u32) (IntKind.wrap .u32 (1 * 2 ^ (min (Int.toNat (IntKind.wrap .u64 (i:Int))) (IntKind.bits .u32))))))=(c:Int)/\c < 65536/\∀ j,c.testBit j=(a.testBit j&&decide (j≠i)):=by
 obtain ⟨h1,h2⟩:=Zz3 hi
 rw [h1]
 refine ⟨(BitVec.ofInt 32 (a:Int) &&& ~~~ (BitVec.ofInt 32 ((2 ^ i:Nat):Int))).toNat,Zk5 _,?_,fun j=>?_⟩
 ·rw [BitVec.toNat_and,Zz2 ha]
  exact Nat.lt_of_le_of_lt Nat.and_le_left ha
 ·rw [BitVec.testBit_toNat,BitVec.getLsbD_and,BitVec.getLsbD_not,<-BitVec.testBit_toNat,<-BitVec.testBit_toNat,Zz2 ha,Zz2 h2,Nat.testBit_two_pow]
  by_cases hj:j < 32
  ·by_cases e:i=j
   ·subst e;simp
   ·have:j≠i:=fun h=>e h.symm
    simp [hj,e,this]
  ·have:a.testBit j=false:=Nat.testBit_lt_two_pow (Nat.lt_of_lt_of_le ha (Nat.pow_le_pow_right (show 0 < 2 by omega) (show 16<=j by omega)))
   rw [this];simp
theorem Zfg {a:Nat} (ha:a < 65536):a=0↔∀ j:Nat,j < 16->a.testBit j=false:=by
 constructor
 ·rintro rfl j _;exact Nat.zero_testBit j
 ·intro h
  refine Nat.eq_of_testBit_eq fun j=>?_
  rw [Nat.zero_testBit]
  by_cases hj:j < 16
  ·exact h j hj
  ·exact Nat.testBit_lt_two_pow (Nat.lt_of_lt_of_le ha (Nat.pow_le_pow_right (show 0 < 2 by omega) (show 16<=j by omega)))
def Zq1 (v:Int) (P:Int->Prop):Prop:=∃ a:Nat,v=a/\a < 65536/\∀ j:Nat,j < 16->(a.testBit j=true↔P j)
theorem Zq1.congr {v:Int} {P R:Int->Prop} (h:Zq1 v P) (e:∀ j:Nat,j < 16->(P j↔R j)):Zq1 v R:=by
 obtain ⟨a,h1,h2,h3⟩:=h
 exact ⟨a,h1,h2,fun j hj=>(h3 j hj).trans (e j hj)⟩
theorem ZvN {l:List Zae} (hG:GraphH l) (hg:Zex l l.length):Ret (Z0p l) fun out=>out.length=l.length/\∀ i:Nat,i < l.length->Zq1 (atI out (i:Int)) (Dp l i):=by
 have hn:=hG.n
 simp only [Z0p,wq,reduceCtorEq]
 refine ⟨fun _=>?_,fun h=>absurd h (by omega)⟩
 refine Zac (fun q:Int×List Int=>∃ m:Nat,q.1=m/\m<=l.length/\q.2.length=l.length/\(∀ i:Nat,i < m->Zq1 (atI q.2 (i:Int)) (Dp l i))/\∀ i:Nat,m<=i->i < l.length->atI q.2 (i:Int)=0) (fun q=>l.length - q.1.toNat) ?_ _ ⟨0,rfl,by omega,by simp,(fun i hi=>by omega),fun i _ hi=>Zff _ _⟩
 rintro ⟨_,out⟩ ⟨m,rfl,hm,hol,hP,hZ⟩
 dsimp only at hol hP hZ
 have hw:=Zab m (by omega)
 simp only [Ztl,wq,reduceCtorEq]
 refine ⟨fun hlt=>Zaj (by omega) hlt fun x hx hxm=>?_,fun hge=>?_⟩
 ·rw [Zax] at hx
  have hml:m < l.length:=by omega
  have hkb:=ZeD hg hx
  have hkl:=hG.k x hxm
  obtain ⟨hi3,hi31⟩:=Zer hG hg hx
  have hmo:inR out.length (m:Int):=⟨by omega,by omega⟩
  have hz:=hZ m (Nat.le_refl _) hml
  have hwd:IntKind.wrap .i64 ((x.2.2.length:Int) - 1)=(x.2.2.length:Int) - 1:=Zau (by omega) (by omega)
  -- through the kids
  have inner:∀ o0:List Int,o0.length=l.length->(∀ i:Nat,i≠m->atI o0 (i:Int)=atI out (i:Int))->Zq1 (atI o0 (m:Int)) (fun j=>x.1=3/\j=Int.tdiv x.2.1 16)->Ret (ZpB (m:Int) x o0) (Zev (fun q:Int×List Int=>∃ m:Nat,q.1=m/\m<=l.length/\q.2.length=l.length/\(∀ i:Nat,i < m->Zq1 (atI q.2 (i:Int)) (Dp l i))/\∀ i:Nat,m<=i->i < l.length->atI q.2 (i:Int)=0) (fun q=>l.length - q.1.toNat) (fun out=>out.length=l.length/\∀ i:Nat,i < l.length->Zq1 (atI out (i:Int)) (Dp l i)) ((m:Int),out)):=by
   intro o0 ho0 hsame h0
   unfold ZpB
   refine Zac (fun q:Int×List Int=>∃ k:Nat,q.1=k/\k<=x.2.2.length/\q.2.length=l.length/\(∀ i:Nat,i≠m->atI q.2 (i:Int)=atI out (i:Int))/\Zq1 (atI q.2 (m:Int)) (fun j=>(x.1=3/\j=Int.tdiv x.2.1 16)\/∃ t q:Nat,t < k/\x.2.2[t]?=some (q:Int)/\Dp l q j/\(x.1≠31\/j≠x.2.1\/t < x.2.2.length / 2))) (fun q=>x.2.2.length - q.1.toNat) ?_ _ ⟨0,rfl,by omega,ho0,hsame,h0.congr fun j _=>⟨.inl,fun h=>h.elim id fun ⟨t,q,h,_⟩=>by omega⟩⟩
   rintro ⟨_,o⟩ ⟨k,rfl,hk,hol2,hs2,hB⟩
   dsimp only at hol2 hs2 hB
   have hw2:=Zab k (by omega)
   have hmo2:inR o.length (m:Int):=⟨by omega,by omega⟩
   simp only [Ztk,wq,reduceCtorEq,hw]
   refine ⟨fun hlt2=>Zaj (by omega) hlt2 fun y hy hym=>?_,fun hge2=>?_⟩
   ·obtain ⟨q,rfl⟩:∃ q:Nat,y=q:=⟨y.toNat,by have:=(hkb y hym).1;omega⟩
    have hqm:q < m:=by have:=(hkb _ hym).2;omega
    rw [Zax] at hy
    have hqo:inR o.length (q:Int):=⟨by omega,by omega⟩
    obtain ⟨b,hb1,hb2,hb3⟩:Zq1 (atI o (q:Int)) (Dp l q):=by rw [hs2 q (by omega)];exact hP q hqm
    obtain ⟨a,ha1,ha2,ha3⟩:=hB
    simp only [ZaB hqo,ZaB hmo2,Ztj,Zti,wq,reduceCtorEq,hw2,hb1]
    have push:∀ c:Nat,c < 65536->(∀ j:Nat,j < 16->(c.testBit j=true↔Dp l q j/\(x.1≠31\/(j:Int)≠x.2.1\/k < x.2.2.length / 2)))->(∃ k':Nat,((k+1:Nat):Int)=k'/\k'<=x.2.2.length/\(Zaq o (m:Int) (ZeM .u32 (BitVec.ofInt (IntKind.bits .u32) (atI o (m:Int)) ||| BitVec.ofInt (IntKind.bits .u32) (c:Int)))).length=l.length/\(∀ i:Nat,i≠m->atI (Zaq o (m:Int) (ZeM .u32 (BitVec.ofInt (IntKind.bits .u32) (atI o (m:Int)) ||| BitVec.ofInt (IntKind.bits .u32) (c:Int)))) (i:Int)=atI out (i:Int))/\Zq1 (atI (Zaq o (m:Int) (ZeM .u32 (BitVec.ofInt (IntKind.bits .u32) (atI o (m:Int)) ||| BitVec.ofInt (IntKind.bits .u32) (c:Int)))) (m:Int)) (fun j=>(x.1=3/\j=Int.tdiv x.2.1 16)\/∃ t q:Nat,t < k'/\x.2.2[t]?=some (q:Int)/\Dp l q j/\(x.1≠31\/j≠x.2.1\/t < x.2.2.length / 2)))/\x.2.2.length - ((k+1:Nat):Int).toNat < x.2.2.length - ((k:Int)).toNat:=by
     intro c hc hcj
     obtain ⟨d,hd1,hd2,hd3⟩:=Z49 ha2 hc
     rw [ha1,hd1]
     refine ⟨⟨k+1,rfl,by omega,by rw [Zay];exact hol2,fun i hi=>?_,d,?_,hd2,fun j hj=>?_⟩,by omega⟩
     ·rw [Za3 hmo2 (by omega),if_neg (by omega)];exact hs2 i hi
     ·rw [Za3 hmo2 (by omega),if_pos rfl]
     ·rw [hd3,Bool.or_eq_true,ha3 j hj,hcj j hj]
      constructor
      ·rintro ((h | ⟨t,q',h1,h2,h3,h4⟩) | ⟨h1,h2⟩)
       ·exact .inl h
       ·exact .inr ⟨t,q',by omega,h2,h3,h4⟩
       ·exact .inr ⟨k,q,by omega,hy,h1,h2⟩
      ·rintro (h | ⟨t,q',h1,h2,h3,h4⟩)
       ·exact .inl (.inl h)
       ·by_cases e:t < k
        ·exact .inl (.inr ⟨t,q',e,h2,h3,h4⟩)
        ·obtain rfl:t=k:=by omega
         rw [hy] at h2
         have:q=q':=by have:=Option.some.inj h2;omega
         subst this
         exact .inr ⟨h3,h4⟩
    have Zlw:(x.1≠31\/k < x.2.2.length / 2)->∀ j:Nat,j < 16->(b.testBit j=true↔Dp l q j/\(x.1≠31\/(j:Int)≠x.2.1\/k < x.2.2.length / 2)):=fun h j hj=>(hb3 j hj).trans ⟨fun d=>⟨d,by omega⟩,fun d=>d.1⟩
    refine ⟨fun e31=>?_,fun e31=>push b hb2 (Zlw (.inl e31))⟩
    obtain ⟨i0,i1,mm,hmm,m1,m2⟩:=hi31 e31
    have hd3:Int.tdiv ((x.2.2.length:Int) - 1) 2=(mm:Int):=by
     rw [hmm,Int.tdiv_eq_ediv_of_nonneg (by omega)];omega
    have hd4:IntKind.wrap .i64 (mm:Int)=mm:=Zau (by omega) (by omega)
    obtain ⟨im,him⟩:∃ im:Nat,x.2.1=im:=⟨x.2.1.toNat,by omega⟩
    have him16:im < 16:=by omega
    have hwu:IntKind.wrap .u64 (im:Int)=im:=Zdz (by omega) (by omega)
    rw [hwd,hd3,hd4]
    refine ⟨fun hge3=>⟨fun h=>?_,fun _=>?_⟩,fun hlt3=>push b hb2 (Zlw (.inr (by omega)))⟩
    ·rw [him,hwu] at h;omega
    ·obtain ⟨c,hc1,hc2,hc3⟩:=Zsu hb2 him16
     rw [him,hc1]
     have hp:=push c hc2 (fun j hj=>by
      rw [hc3,Bool.and_eq_true,hb3 j hj,decide_eq_true_eq]
      constructor
      ·rintro ⟨h1,h2⟩;exact ⟨h1,.inr (.inl (by omega))⟩
      ·rintro ⟨h1,h2⟩;exact ⟨h1,by rintro rfl;rcases h2 with h | h | h;exact absurd e31 h;omega;omega⟩)
     rw [him] at hp
     exact hp
   ·have hkk:k=x.2.2.length:=by omega
    refine ⟨⟨m+1,rfl,by omega,hol2,fun i hi=>?_,fun i hi1 hi2=>by rw [hs2 i (by omega)];exact hZ i (by omega) hi2⟩,by omega⟩
    by_cases e:i=m
    ·subst e
     refine hB.congr fun j hj=>⟨?_,fun h=>?_⟩
     ·rintro (⟨h1,h2⟩ | ⟨t,q,_,h2,h3,h4⟩)
      ·rw [h2];exact .var hx h1
      ·exact .kid hx h2 h3 h4
     ·rcases h.inv hx with ⟨h1,h2⟩ | ⟨t,q,h2,h3,h4⟩
      ·exact .inl ⟨h1,h2⟩
      ·exact .inr ⟨t,q,by have:=ZaA h2;omega,h2,h3,h4⟩
    ·rw [hs2 i e];exact hP i (by omega)
  refine ⟨fun e3=>?_,fun e3=>?_⟩
  ·obtain ⟨i0,i1⟩:=hi3 e3
   obtain ⟨im,him⟩:∃ im:Nat,x.2.1=im:=⟨x.2.1.toNat,by omega⟩
   have hq:Int.tdiv x.2.1 16=((im / 16:Nat):Int):=by rw [him];exact ZiT im 16
   have h16:im / 16 < 16:=by omega
   have hwq:IntKind.wrap .i64 ((im / 16:Nat):Int)=((im / 16:Nat):Int):=Zau (by omega) (by omega)
   have hwu:IntKind.wrap .u64 ((im / 16:Nat):Int)=((im / 16:Nat):Int):=Zdz (by omega) (by omega)
   obtain ⟨b1,b2⟩:=Zz3 h16
   rw [hq,hwq,b1,hwu]
   refine ⟨fun h=>by omega,fun _=>?_⟩
   rw [ZaB hmo]
   simp only [wq,reduceCtorEq]
   refine inner _ (by rw [Zay];exact hol) (fun i hi=>?_) ⟨2 ^ (im / 16),?_,b2,fun j hj=>?_⟩
   ·rw [Za3 hmo (by omega),if_neg (by omega)]
   ·rw [Za3 hmo (by omega),if_pos rfl]
   ·rw [Nat.testBit_two_pow,decide_eq_true_eq,hq]
    exact ⟨fun h=>⟨e3,by omega⟩,fun h=>by omega⟩
  ·refine inner out hol (fun _ _=>rfl) ⟨0,hz,by omega,fun j hj=>?_⟩
   rw [Nat.zero_testBit]
   exact ⟨fun h=>(by cases h),fun h=>absurd h.1 e3⟩
 ·have:m=l.length:=by omega
  subst this
  exact ⟨hol,hP⟩
def Z1H (l:List Zae) (m:Nat) (vars:List Int):Prop:=vars.length=16/\∀ j:Int,0<=j->j < 16->(atI vars j=0/\∀ y∈l.take m,y.1=31->y.2.1≠j)\/∃ y∈l.take m,y.1=31/\y.2.1=j/\atI vars j=((y.2.2.length / 2:Nat):Int)/\0 < atI vars j
theorem Zz4 (g:GrT) (hW:ZhX g.2.2.1):F75 g=some (wfB g):=by
 refine Ret.eq ?_
 have hG:=hW.toGraphH
 have hn:=hG.n
 have hsl:=ZaK g.2.2.1 g.2.2.1.length
 simp only [F75,ZtF _ hW,ZxE,wq,reduceCtorEq]
 cases hgb:ZeX g.2.2.1
 ·simp only [cond_false,wq,reduceCtorEq]
  exact Zbx fun w=>by (rw [Zc5 w.good] at hgb;cases hgb)
 have hg:Zex g.2.2.1 g.2.2.1.length:=by unfold ZeX at hgb;simpa using hgb
 simp only [cond_true,Zqf,wq,reduceCtorEq]
 refine ⟨fun e1=>Zbx fun w=>e1 w.va,fun e1=>⟨fun e2=>Zbx fun w=>e2 w.st,fun e2=>?_⟩⟩
 have rv:inR g.2.2.1.length g.2.2.2.1:=by have:=Zfe (l:=Zam g.2.2.1 g.2.2.1.length) (i:=g.2.2.2.1) (by omega);rwa [hsl] at this
 have rs:inR g.2.2.1.length g.2.2.2.2:=by have:=Zfe (l:=Zam g.2.2.1 g.2.2.1.length) (i:=g.2.2.2.2) (by omega);rwa [hsl] at this
 refine Zac (fun q:Int×List Int=>∃ m:Nat,q.1=m/\m<=g.2.2.1.length/\Z1H g.2.2.1 m q.2/\∀ i k:Nat,i < m->k < i->∀ x y,g.2.2.1[i]?=some x->g.2.2.1[k]?=some y->x.1=31->y.1=31->y.2.1≠x.2.1) (fun q=>g.2.2.1.length - q.1.toNat) ?_ _ ⟨0,rfl,by omega,⟨by simp,fun j h0 h1=>.inl ⟨Zff _ _,fun y hy=>by simp at hy⟩⟩,fun i k h=>by omega⟩
 rintro ⟨_,vars⟩ ⟨m,rfl,hm,hV,hlp⟩
 dsimp only at hV
 obtain ⟨v16,hV⟩:=hV
 have hw:=Zab m (by omega)
 simp only [ZxD,Zx8,wq,reduceCtorEq,hw]
 refine ⟨fun hlt=>Zaj (by omega) hlt fun x hx hxm=>?_,fun hge=>?_⟩
 ·rw [Zax] at hx
  have htake:∀ y,y∈g.2.2.1.take (m+1)↔y∈g.2.2.1.take m\/y=x:=fun y=>by
   rw [List.take_add_one,hx,List.mem_append];simp
  refine ⟨fun e31=>?_,fun e31=>⟨⟨m+1,rfl,by omega,⟨v16,fun j h0 h1=>?_⟩,fun i k hi hk x' y' hx' hy'=>?_⟩,by omega⟩⟩
  ·obtain ⟨i0,i1,mm,hmm,m1,m2⟩:=(Zer hG hg hx).2 e31
   have hiv:inR vars.length x.2.1:=⟨i0,by omega⟩
   have hwd:IntKind.wrap .i64 ((x.2.2.length:Int) - 1)=(x.2.2.length:Int) - 1:=Zau (by omega) (by omega)
   have hd3:Int.tdiv ((x.2.2.length:Int) - 1) 2=(mm:Int):=by
    rw [hmm,Int.tdiv_eq_ediv_of_nonneg (by omega)];omega
   have hd4:IntKind.wrap .i64 (mm:Int)=mm:=Zau (by omega) (by omega)
   rw [ZaB hiv,hwd,hd3,hd4]
   simp only [wq,reduceCtorEq]
   refine ⟨fun _=>⟨fun hpos=>Zbx fun w=>?_,fun hz=>⟨fun _=>?_,fun h=>by omega⟩⟩,fun h=>by omega⟩
   ·rcases hV x.2.1 i0 i1 with ⟨h,_⟩ | ⟨y,hy,y1,y2,_⟩
    ·omega
    ·obtain ⟨k,hk⟩:=List.getElem?_of_mem hy
     have hkm:k < m:=by have:=ZaA hk;rw [List.length_take] at this;omega
     rw [List.getElem?_take_of_lt hkm] at hk
     exact w.lp m k hkm x y hx hk e31 y1 y2
   ·have hno:∀ y∈g.2.2.1.take m,y.1=31->y.2.1≠x.2.1:=by
     rcases hV x.2.1 i0 i1 with ⟨_,h⟩ | ⟨y,hy,y1,y2,_,h⟩
     ·exact h
     ·omega
    refine ⟨⟨m+1,rfl,by omega,⟨by rw [Zay];exact v16,fun j h0 h1=>?_⟩,fun i k hi hk x' y' hx' hy'=>?_⟩,by omega⟩
    ·rw [Za3 hiv h0]
     split
     ·subst ‹j=_›
      exact .inr ⟨x,(htake x).2 (.inr rfl),e31,rfl,by rw [hmm];omega,by omega⟩
     ·rename_i hne
      rcases hV j h0 h1 with ⟨h,h2⟩ | ⟨y,hy,h⟩
      ·refine .inl ⟨h,fun y hy y1=>?_⟩
       rcases (htake y).1 hy with hy | rfl
       ·exact h2 y hy y1
       ·exact fun e=>hne e.symm
      ·exact .inr ⟨y,(htake y).2 (.inl hy),h⟩
    ·by_cases e:i < m
     ·exact hlp i k e hk x' y' hx' hy'
     ·have:i=m:=by omega
      subst this
      rw [hx] at hx';obtain rfl:=Option.some.inj hx'
      exact fun _ e2=>hno y' (List.mem_of_getElem? (by rw [List.getElem?_take_of_lt hk];exact hy')) e2
  ·rcases hV j h0 h1 with ⟨h,h2⟩ | ⟨y,hy,h⟩
   ·refine .inl ⟨h,fun y hy y1=>?_⟩
    rcases (htake y).1 hy with hy | rfl
    ·exact h2 y hy y1
    ·exact absurd y1 e31
   ·exact .inr ⟨y,(htake y).2 (.inl hy),h⟩
  ·by_cases e:i < m
   ·exact hlp i k e hk x' y' hx' hy'
   ·have:i=m:=by omega
    subst this
    rw [hx] at hx';obtain rfl:=Option.some.inj hx'
    exact fun e1=>absurd e1 e31
 ·have hmn:m=g.2.2.1.length:=by omega
  rw [List.take_of_length_le (by omega)] at hV
  have hlp':∀ i k:Nat,k < i->∀ x y,g.2.2.1[i]?=some x->g.2.2.1[k]?=some y->x.1=31->y.1=31->y.2.1≠x.2.1:=fun i k hk x y hx hy=>hlp i k (by have:=ZaA hx;omega) hk x y hx hy
  refine Zac (fun q:Int×List Int=>∃ m:Nat,q=((m:Int),vars)/\m<=g.2.2.1.length/\∀ x∈g.2.2.1.take m,x.1=3->∀ y∈g.2.2.1,y.1=31->y.2.1=Int.tdiv x.2.1 16->Int.tmod x.2.1 16 < ((y.2.2.length / 2:Nat):Int)) (fun q=>g.2.2.1.length - q.1.toNat) ?_ _ ⟨0,rfl,by omega,fun x hx=>by simp at hx⟩
  rintro _ ⟨m,rfl,hm,hlv⟩
  have hw:=Zab m (by omega)
  simp only [ZxC,ZxA,Zx9,ZxB,wq,reduceCtorEq,hw]
  refine ⟨fun hlt=>Zaj (by omega) hlt fun x hx hxm=>?_,fun hge=>?_⟩
  ·rw [Zax] at hx
   have nx:(x.1=3->∀ y∈g.2.2.1,y.1=31->y.2.1=Int.tdiv x.2.1 16->Int.tmod x.2.1 16 < ((y.2.2.length / 2:Nat):Int))->∃ m':Nat,(((m+1:Nat):Int),vars)=((m':Int),vars)/\m'<=g.2.2.1.length/\∀ x∈g.2.2.1.take m',x.1=3->∀ y∈g.2.2.1,y.1=31->y.2.1=Int.tdiv x.2.1 16->Int.tmod x.2.1 16 < ((y.2.2.length / 2:Nat):Int):=fun h=>by
    refine ⟨m+1,rfl,by omega,fun z hz=>?_⟩
    rw [List.take_add_one,hx] at hz
    rcases List.mem_append.1 hz with hz | hz
    ·exact hlv z hz
    ·rw [show z=x by simpa using hz];exact h
   refine ⟨fun e3=>?_,fun e3=>⟨nx fun h=>absurd h e3,by omega⟩⟩
   obtain ⟨i0,i1⟩:=(Zer hG hg hx).1 e3
   obtain ⟨im,him⟩:∃ im:Nat,x.2.1=im:=⟨x.2.1.toNat,by omega⟩
   have hq:Int.tdiv x.2.1 16=((im / 16:Nat):Int):=by rw [him];exact ZiT im 16
   have h16:im / 16 < 16:=by omega
   have hwq:IntKind.wrap .i64 ((im / 16:Nat):Int)=((im / 16:Nat):Int):=Zau (by omega) (by omega)
   have hiv:inR vars.length ((im / 16:Nat):Int):=⟨by omega,by omega⟩
   rw [hq,hwq,ZaB hiv]
   simp only [wq,reduceCtorEq]
   refine ⟨fun _=>⟨fun hpos=>⟨fun hge2=>?_,fun hlt2=>⟨nx fun _ y hy y1 y2=>?_,by omega⟩⟩,fun hz=>⟨nx fun _ y hy y1 y2=>?_,by omega⟩⟩,fun h=>by omega⟩
   ·rcases hV _ (show (0:Int)<=((im / 16:Nat):Int) by omega) (by omega) with ⟨h,_⟩ | ⟨y,hy,y1,y2,y3,_⟩
    ·omega
    ·exact Zbx fun w=>by have:=w.lv x hxm e3 y hy y1 (by rw [y2,hq]);omega
   ·rcases hV _ (show (0:Int)<=((im / 16:Nat):Int) by omega) (by omega) with ⟨h,_⟩ | ⟨z,hz,z1,z2,z3,_⟩
    ·omega
    ·have:y=z:=by
      obtain ⟨a,ha⟩:=List.getElem?_of_mem hy
      obtain ⟨b,hb⟩:=List.getElem?_of_mem hz
      have hab:a=b:=by
       rcases Nat.lt_trichotomy a b with h | h | h
       ·exact absurd (by rw [y2,z2,hq]) (hlp' b a h z y hb ha z1 y1)
       ·exact h
       ·exact absurd (by rw [y2,z2,hq]) (hlp' a b h y z ha hb y1 z1)
      subst hab
      rw [ha] at hb
      exact Option.some.inj hb
     subst this
     omega
   ·rcases hV _ (show (0:Int)<=((im / 16:Nat):Int) by omega) (by omega) with ⟨_,h⟩ | ⟨z,hz,z1,z2,z3,z4⟩
    ·exact absurd (by rw [y2,hq]) (h y hy y1)
    ·omega
  ·have hlv':∀ x∈g.2.2.1,x.1=3->∀ y∈g.2.2.1,y.1=31->y.2.1=Int.tdiv x.2.1 16->Int.tmod x.2.1 16 < ((y.2.2.length / 2:Nat):Int):=by
    rw [List.take_of_length_le (by omega)] at hlv;exact hlv
   refine (ZvN hG hg).mono fun out _ ⟨hol,hB⟩=>?_
   have nv:((g.2.2.2.1.toNat:Nat):Int)=g.2.2.2.1:=by have:=rv.1;omega
   have ns:((g.2.2.2.2.toNat:Nat):Int)=g.2.2.2.2:=by have:=rs.1;omega
   obtain ⟨a,a1,a2,a3⟩:=hB g.2.2.2.1.toNat (by have:=rv.2;have:=rv.1;omega)
   obtain ⟨b,b1,b2,b3⟩:=hB g.2.2.2.2.toNat (by have:=rs.2;have:=rs.1;omega)
   rw [nv] at a1
   rw [ns] at b1
   rw [ZaB (l:=out) (i:=g.2.2.2.1) (by rw [hol];exact rv),ZaB (l:=out) (i:=g.2.2.2.2) (by rw [hol];exact rs),a1,b1]
   simp only [wq,reduceCtorEq]
   refine ⟨fun e=>?_,fun e=>Zbx fun w=>?_⟩
   ·have ha0:a=0:=by omega
    rw [Bool.eq_iff_iff,ZvJ,beq_iff_eq]
    constructor
    ·intro e5
     have hb0:b=0:=by omega
     refine ⟨hg,e1,e2,hlp',hlv',fun j h0 h1=>?_⟩
     obtain ⟨jn,rfl⟩:∃ jn:Nat,j=jn:=⟨j.toNat,by omega⟩
     have hj:jn < 16:=by omega
     refine ⟨fun d=>?_,fun d=>?_⟩
     ·have:=(a3 jn hj).2 d;rw [(Zfg a2).1 ha0 jn hj] at this;cases this
     ·have:=(b3 jn hj).2 d;rw [(Zfg b2).1 hb0 jn hj] at this;cases this
    ·intro w
     have:b=0:=(Zfg b2).2 fun j hj=>by
      cases h:b.testBit j
      ·rfl
      ·exact absurd ((b3 j hj).1 h) (w.dp j (by omega) (by omega)).2
     omega
   ·have:a=0:=(Zfg a2).2 fun j hj=>by
     cases h:a.testBit j
     ·rfl
     ·exact absurd ((a3 j hj).1 h) (w.dp j (by omega) (by omega)).1
    omega
end Go.Dat
namespace Go.Dat
open Go.Eng
set_option linter.unusedSimpArgs false
set_option linter.unusedVariables false
set_option linter.unusedSectionVars false
mutual
theorem Po.det {s:Za5} {ch:List Int} {c:Int} {vs a b:List Int}:Po s ch c vs a->Po s ch c vs b->a=b
 | .seen _,.seen _=>rfl
 | .seen h,.new h2 _ _ _=>absurd h h2
 | .new h2 _ _ _,.seen h=>absurd h h2
 | .new _ _ h1 _,.new _ _ h2 _=>by rw [PoL.det h1 h2]
theorem PoL.det {s:Za5} {ch ps:List Int} {vs a b:List Int}:PoL s ch ps vs a->PoL s ch ps vs b->a=b
 | .nil,.nil=>rfl
 | .cons h1 h2,.cons h3 h4=>by
  have e:=Po.det h1 h3
  subst e
  exact PoL.det h2 h4
end
theorem PoR.uniq {s:Za5} {ch a b:List Int} (ha:PoR s ch a) (hb:PoR s ch b):a=b:=ha.po.det hb.po
section
variable {s:Za5} {ch vs:List Int} (h:PoR s ch vs)
include h
theorem Z1I {q:Int} (hq:RS s ch q):q∈vs:=by
 induction hq with
 | val=>exact h.va
 | st=>exact h.st
 | step _ e ih=>exact ((h.sel _ ih).2.2 _ e.2).1
theorem Zz5 {p q:Int} (hp:ZnS s ch p q) (hm:p∈vs):q∈vs/\ZdD vs q<=ZdD vs p:=by
 induction hp with
 | refl=>exact ⟨hm,Int.le_refl _⟩
 | snoc _ e ih=>
  obtain ⟨a,b⟩:=ih
  obtain ⟨c,d⟩:=(h.sel _ a).2.2 _ e.2
  exact ⟨c,by omega⟩
theorem Zq2 (hb:Zqx s ch):False:=by
 obtain ⟨q,hq,hb⟩:=hb
 have hm:=Z1I h hq
 rcases hb with hb | ⟨p,e,hp⟩
 ·have:=(h.sel q hm).2.1;omega
 ·obtain ⟨c,d⟩:=(h.sel q hm).2.2 p e.2
  have:=(Zz5 h hp c).2
  omega
end
theorem Zq0.uniq {s:Za5} {ch:List Int} {r r':GrT×Bool} (h:Zq0 s ch r) (h':Zq0 s ch r'):r=r':=by
 rcases h with ⟨b,rfl⟩ | ⟨vs,hv,rfl⟩<;>rcases h' with ⟨b',rfl⟩ | ⟨vs',hv',rfl⟩
 ·rfl
 ·exact (Zq2 hv' b).elim
 ·exact (Zq2 hv b').elim
 ·rw [hv.uniq hv']
structure BP (s:Za5) (ch:List Int) (st:List Int) (vs:List Int):Prop extends VsI s ch vs where
 len:st.length=s.1.length
 v:∀ q,inR s.1.length q->q∉vs->atI st q=0\/atI st q=1
 idx:∀ q∈vs,atI st q=2
abbrev Z4A:=Bool×List Int×Option Zwb×List Int×List Int
def Z2p (s:Za5) (ch:List Int) (c:Int) (st vs:List Int) (r:Z4A):Prop:=
 ∃ ok st' out,r=(ok,ch,some (Zbz s),st',out)/\st'.length=s.1.length/\out.length+Zhb st'<=vs.length+Zhb st/\(ok=false->Zqx s ch) /\
  (ok=true->∃ es,out=vs++es/\Po s ch c vs (vs++es)/\c∈vs++es/\BP s ch st' (vs++es)/\(∀ q,inR s.1.length q->(atI st' q=1↔atI st q=1))/\Zhb st'<=Zhb st)
section
variable {s:Za5} (X:Ctx s) {ch:List Int} (hs:Zdi s ch)
theorem Zih (n:Nat) (c:Int) (hc:inR s.1.length c) (st out:List Int) (hl:st.length=s.1.length):N84 (n+1) c false ch (some (Zbz s)) st out=some (false,ch,some (Zbz s),st,out):=by
 refine Ret.eq ?_
 have hg:gI st c=some (atI st c):=ZaB (by rw [hl];exact hc)
 show Ret (G84 _ c false ch (some (Zbz s)) st out) _
 simp only [G84,ZuH,hg,wq,reduceCtorEq]
include X hs
theorem Zhi:∀ (n:Nat) (c:Int),RS s ch c->∀ (st vs:List Int),BP s ch st vs->(∀ q,inR s.1.length q->atI st q=1->∃ b,ZnS s ch q b/\EdS s ch b c)->Zhb st < n->vs.length+Zhb st<=900 ->
 Ret (N84 n c true ch (some (Zbz s)) st vs) (Z2p s ch c st vs)
 | 0,c,hc,st,vs,hB,h1,hz,hg=>by omega
 | n+1,c,hc,st,vs,hB,h1,hz,hg=>by
  have hrep:=RS.rep X hs hc
  have hal:inR st.length c:=by rw [hB.len];exact hrep.1
  have hga:gI st c=some (atI st c):=ZaB hal
  have hgc:gI ch c=some (atI ch c):=ZaB (by rw [hs.1];exact hrep.1)
  show Ret (G84 (N84 n) c true ch (some (Zbz s)) st vs) _
  simp only [G84,ZuH,Zx7,hga,hgc,wq,reduceCtorEq,Option.bind_some]
  have bad:Zqx s ch->Z2p s ch c st vs (false,ch,some (Zbz s),st,vs):=fun h=>⟨false,st,vs,rfl,hB.len,Nat.le_refl _,fun _=>h,fun h=>by cases h⟩
  refine ⟨fun e2=>?_,fun e2=>⟨fun e1=>?_,fun e1=>⟨fun e3=>bad ⟨c,hc,.inl e3⟩,fun e3=>?_⟩⟩⟩
  ·have hin:c∈vs:=by
    by_cases h:c∈vs
    ·exact h
    ·rcases hB.v c hrep.1 h with h | h<;>omega
   refine ⟨true,st,vs,rfl,hB.len,Nat.le_refl _,(fun h=>by cases h),fun _=>⟨[],?_⟩⟩
   rw [List.append_nil]
   exact ⟨rfl,.seen hin,hin,hB,fun _ _=>Iff.rfl,Nat.le_refl _⟩
  ·obtain ⟨b,p1,p2⟩:=h1 c hrep.1 e1
   refine bad ⟨c,hc,.inr ?_⟩
   rcases p1.head with rfl | ⟨d,h3,h4⟩
   ·exact ⟨_,p2,.refl⟩
   ·exact ⟨d,h3,h4.snoc p2⟩
  have hin:c∉vs:=fun h=>e2 (hB.idx c h)
  have em1:atI st c=0:=by rcases hB.v c hrep.1 hin with h | h;exact h;exact absurd h e1
  have hdr:=Zf4 X hs hrep.1 e3
  have hkl:=X.kids.k _ (Zav hdr)
  have hkr:=X.kids.r _ (Zav hdr)
  have hnd:gI (Zbz s).1.1 (atI ch c)=some (Zar s.1 (atI ch c)):=Za2 hdr
  simp only [hnd,wq,reduceCtorEq]
  have hz1:=ZmR hal em1 (x:=1) (by omega)
  have B1:BP s ch (Zaq st c 1) vs:=by
   refine ⟨hB.toVsI,by rw [Zay];exact hB.len,fun q hq hnq=>?_,fun q hq=>?_⟩
   ·rw [Za3 hal hq.1];split
    ·exact .inr rfl
    ·exact hB.v q hq hnq
   ·rw [Za3 hal ((hB.sel q hq).1.1).1,if_neg (fun e:q=c=>hin (e▸hq))];exact hB.idx q hq
  refine Zac (fun o=>∃ (j:Nat) (ok:Bool) (st' out:List Int),o=((j:Int),ok,ch,some (Zbz s),st',out)/\j<=(Zar s.1 (atI ch c)).2.2.length/\st'.length=s.1.length/\out.length+Zhb st'<=vs.length+Zhb (Zaq st c 1)/\(ok=false->Zqx s ch) /\
   (ok=true->∃ es,out=vs++es/\PoL s ch (Za9 s (atI ch c) j) vs (vs++es)/\(∀ p∈Za9 s (atI ch c) j,p∈vs++es)/\BP s ch st' (vs++es)/\(∀ q,inR s.1.length q->(atI st' q=1↔atI (Zaq st c 1) q=1))/\Zhb st'<=Zhb (Zaq st c 1))) (fun o=>(Zar s.1 (atI ch c)).2.2.length - o.1.toNat) ?_ _ ⟨0,true,_,vs,rfl,by omega,by rw [Zay];exact hB.len,Nat.le_refl _,(fun h=>by cases h),fun _=>⟨[],?_⟩⟩
  ·rintro _ ⟨j,ok,st',out,rfl,hj,hl',hc',hbad,hok⟩
   have hw:=Zab j (by omega)
   simp only [Zx6,wq,reduceCtorEq,hw,Option.bind_some]
   refine ⟨fun hlt=>Zaj (by omega) hlt fun y hy hym=>?_,fun hge=>?_⟩
   ·have hyr:=hkr y hym
    have hcg:gI (Zbz s).2.1 y=some (atI (Zai s) y):=X.cget hyr
    simp only [hcg,wq,reduceCtorEq]
    rw [Zax] at hy
    have hgk:=ZbV X hy
    have hpm:atI (Zai s) y∈Zbh s (atI ch c):=List.mem_of_getElem? hgk
    have hsn:Za9 s (atI ch c) (j+1)=Za9 s (atI ch c) j++[atI (Zai s) y]:=by unfold Za9;rw [List.take_add_one,hgk];rfl
    cases ok with
    | false=>
     obtain ⟨n',rfl⟩:∃ n',n=n'+1:=⟨n - 1,by omega⟩
     rw [Zih n' _ (X.ci.rng hyr) st' out hl']
     simp only [wq,reduceCtorEq]
     exact ⟨⟨j+1,false,st',out,rfl,by omega,hl',hc',hbad,fun h=>by cases h⟩,by omega⟩
    | true=>
     obtain ⟨es,rfl,q1,q2,q3,q6,q7⟩:=hok rfl
     refine (Zhi n _ (.step hc ⟨e3,hpm⟩) st' (vs++es) q3 (fun q hqr h=>?_) (by omega) (by omega)).mono fun o _ ⟨ok2,st2,out2,eo,w1,w2,w3,w4⟩=>?_
     ·have hh:=(q6 q hqr).1 h
      rw [Za3 hal hqr.1] at hh
      split at hh
      ·subst ‹q=c›;exact ⟨q,.refl,e3,hpm⟩
      ·obtain ⟨b,p1,p2⟩:=h1 q hqr hh
       exact ⟨c,p1.snoc p2,e3,hpm⟩
     ·subst eo
      refine ⟨⟨j+1,ok2,st2,out2,rfl,by omega,w1,by omega,w3,fun h=>?_⟩,by omega⟩
      obtain ⟨es2,z0,z1,z2,z3,z6,z7⟩:=w4 h
      refine ⟨es++es2,?_,?_,fun p hp=>?_,?_,fun q hqr=>(z6 q hqr).trans (q6 q hqr),by omega⟩
      ·rw [<-List.append_assoc];exact z0
      ·rw [hsn,<-List.append_assoc];exact q1.snoc z1
      ·rw [<-List.append_assoc]
       rw [hsn] at hp
       rcases List.mem_append.1 hp with hp | hp
       ·exact List.mem_append_left _ (q2 p hp)
       ·rw [List.mem_singleton.1 hp];exact z2
      ·rw [<-List.append_assoc];exact z3
   ·have hal':inR st'.length c:=by rw [hl'];exact hrep.1
    have hall:Za9 s (atI ch c) j=Zbh s (atI ch c):=by unfold Za9;rw [List.take_of_length_le (by rw [Zbw X];omega)]
    have hzl:=Zhc hal' (x:=2) (by omega)
    simp only [ZaB hal',wq,reduceCtorEq]
    refine ⟨fun _=>⟨ok,_,_,rfl,by rw [Zay];exact hl',by simp;omega,hbad,fun h=>?_⟩,fun h=>absurd h (by simp only [List.length_cons,List.length_nil];omega)⟩
    obtain ⟨es,rfl,q1,q2,q3,q6,q7⟩:=hok h
    rw [hall] at q1 q2
    have hcn:c∉vs++es:=fun hm=>by
     have h5:=q3.idx c hm
     have h6:=(q6 c hrep.1).2 (by rw [Za3 hal hrep.1.1,if_pos rfl])
     omega
    have hV:=q3.toVsI.snoc hrep hcn e3 q2
    refine ⟨es++[c],by rw [List.append_assoc],?_,by simp,⟨by rw [<-List.append_assoc];exact hV,by rw [Zay];exact hl',fun q hq hnq=>?_,fun q hq=>?_⟩,fun q hq=>?_,by omega⟩
    ·rw [<-List.append_assoc];exact .new hin e3 q1 hcn
    ·rw [<-List.append_assoc,List.mem_append,List.mem_singleton] at hnq
     rw [Za3 hal' hq.1,if_neg (fun e=>hnq (.inr e))]
     exact q3.v q hq fun hm=>hnq (.inl hm)
    ·rw [<-List.append_assoc,List.mem_append,List.mem_singleton] at hq
     rcases hq with hq | rfl
     ·rw [Za3 hal' ((q3.sel q hq).1.1).1,if_neg (fun e:q=c=>hcn (e▸hq))];exact q3.idx q hq
     ·rw [Za3 hal' hrep.1.1,if_pos rfl]
    ·rw [Za3 hal' hq.1]
     split
     ·subst ‹q=c›;constructor<;>intro h<;>omega
     ·rename_i hne
      rw [q6 q hq,Za3 hal hq.1,if_neg hne]
  ·rw [List.append_nil]
   exact ⟨rfl,.nil,fun p hp=>by simp [Za9] at hp,B1,fun _ _=>Iff.rfl,Nat.le_refl _⟩
theorem Zz6:Ret (F45 (some (Zbz s)) ch) fun r=>(Zqx s ch/\r.2=false)\/∃ vs,PoR s ch vs/\r=(vs,true):=by
 have hn:=X.n
 have hcl:=hs.1
 simp only [F45,Zzw X,ZmP.2 hs,wq,reduceCtorEq,Option.bind_some,hcl,Int.toNat_natCast]
 refine ⟨fun _=>?_,fun h=>absurd h (by omega)⟩
 have hcv:gI (Zbz s).2.1 (Zbz s).1.2.2.2.1=some (atI (Zai s) s.2.2.2.1):=X.cget X.v.va
 have hcs:gI (Zbz s).2.1 (Zbz s).1.2.2.2.2.1=some (atI (Zai s) s.2.2.2.2.1):=X.cget X.v.st
 simp only [hcv,wq,reduceCtorEq]
 have B0:BP s ch (List.replicate s.1.length 0) []:=⟨⟨List.nodup_nil,fun q hq=>by cases hq⟩,by simp,fun q hq _=>.inl (Zff _ _),fun q hq=>(by cases hq)⟩
 have hc0:Zhb (List.replicate s.1.length 0)=s.1.length:=by unfold Zhb;simp
 refine Ret.mono (show Ret (F84 (atI (Zai s) s.2.2.2.1) true ch (some (Zbz s)) (List.replicate s.1.length 0) []) _ from Zhi X hs 1000 (atI (Zai s) s.2.2.2.1) .val _ [] B0 (fun q hq h=>by rw [Zff] at h;omega) (by omega) (by simp only [List.length_nil];omega)) fun o _ ⟨ok,st,out,eo,a1,a2,a3,a4⟩=>?_
 subst eo
 simp only [Option.bind_some,hcs,wq,reduceCtorEq,List.length_nil] at a2 |-
 cases ok with
 | false=>
  rw [show F84 (atI (Zai s) s.2.2.2.2.1) false ch (some (Zbz s)) st out=_ from Zih 999 (atI (Zai s) s.2.2.2.2.1) (X.ci.rng X.v.st) st out a1]
  simp only [wq,reduceCtorEq]
  exact .inl (a3 rfl)
 | true=>
  obtain ⟨es,b0,b1,b2,b3,b6,b7⟩:=a4 rfl
  rw [List.nil_append] at b0 b1 b2 b3
  subst b0
  refine Ret.mono (show Ret (F84 (atI (Zai s) s.2.2.2.2.1) true ch (some (Zbz s)) st out) _ from Zhi X hs 1000 (atI (Zai s) s.2.2.2.2.1) .st st out b3 (fun q hq h=>by rw [b6 q hq,Zff] at h;omega) (by omega) (by omega)) fun o _ ⟨ok2,st2,out2,eo,c1,c2,c3,c4⟩=>?_
  subst eo
  cases ok2 with
  | false=>exact .inl ⟨c3 rfl,rfl⟩
  | true=>
   obtain ⟨es2,d0,d1,d2,d3,d6,d7⟩:=c4 rfl
   exact .inr ⟨out++es2,⟨d3.toVsI,.cons b1 (.cons d1 .nil),List.mem_append_left _ b2,d2,by rw [d0] at c2;omega⟩,by rw [d0]⟩
theorem Zsv {q:Int} (hq:inR s.1.length (atI ch q)) {m:Int} (hm:0<=m) (h2:(Zar s.1 (atI ch q)).1=2):(if IntKind.wrap .i64 ((Zar s.1 (atI ch q)).2.1+1) > m then IntKind.wrap .i64 ((Zar s.1 (atI ch q)).2.1+1) else m)=ZkA s ch m q:=by
 have hx:s.1[(atI ch q).toNat]?=some (Zar s.1 (atI ch q)):=(ZaI (Za2 hq)).2.2
 obtain ⟨i0,i1⟩:=(Zhh X.h.g.toGraphH X.v.good hx).1 h2
 unfold ZkA
 rw [Zau (by omega) (by omega)]
 split<;>split<;>omega
theorem ZvO (vs:List Int) (hv:∀ q∈vs,inR s.1.length (atI ch q)):0<=Zig s ch vs:=by
 unfold Zig
 suffices h:∀ (l:List Int) (m:Int),(∀ q∈l,inR s.1.length (atI ch q))->0<=m->0<=l.foldl (ZkA s ch) m from h vs 0 hv (by omega)
 intro l
 induction l with
 | nil=>intro m _ h;exact h
 | cons q l ih=>
  intro m hl h
  refine ih _ (fun p hp=>hl p (List.mem_cons_of_mem _ hp)) ?_
  have hq:=hl q (by simp)
  have hx:s.1[(atI ch q).toNat]?=some (Zar s.1 (atI ch q)):=(ZaI (Za2 hq)).2.2
  unfold ZkA
  split
  ·rename_i h2
   obtain ⟨i0,i1⟩:=(Zhh X.h.g.toGraphH X.v.good hx).1 h2.1
   rw [Zau (by omega) (by omega)];omega
  ·exact h
theorem Zz7:Ret (F39 (some (Zbz s)) ch) (Zq0 s ch):=by
 have hn:=X.n
 have hcl:=hs.1
 simp only [F39,wq,reduceCtorEq,hcl,Int.toNat_natCast]
 refine (Zz6 X hs).mono fun r _ hr=>?_
 rcases hr with ⟨hb,e⟩ | ⟨vs,hv,rfl⟩
 ·rw [e]
  exact ⟨fun _=>.inl ⟨hb,rfl⟩,fun h=>by cases h⟩
 refine ⟨fun h=>by (cases h),fun _=>⟨fun _=>?_,fun h=>absurd h (by omega)⟩⟩
 have hvl:=hv.len
 have hsr:∀ q∈vs,inR s.1.length (atI ch q):=fun q hq=>Zf4 X hs (hv.sel q hq).1.1 (hv.sel q hq).2.1
 refine Zac (fun o=>∃ (k:Nat) (num:List Int),k<=vs.length/\num.length=s.1.length/\(∀ q∈vs.take k,atI num q=ZdD vs q)/\o=((k:Int),ByteArray.empty,0,0,0,ByteArray.empty,Zig s ch (vs.take k),0,0,num,(vs.take k).map (Zjp s ch vs))) (fun o=>vs.length - o.1.toNat) ?_ _ ⟨0,_,by omega,by simp,(fun q hq=>by simp at hq),rfl⟩
 rintro _ ⟨k,num,hk,hnl,hnum,rfl⟩
 have hw:=Zab k (by omega)
 simp only [ZxG,ZuI,wq,reduceCtorEq,Option.bind_some]
 refine ⟨fun hlt=>Zaj (by omega) hlt fun c hc hcm=>?_,fun hge=>?_⟩
 ·have hdr:=hsr c hcm
  obtain ⟨hrep,hse,hkids⟩:=hv.sel c hcm
  have hgc:gI ch c=some (atI ch c):=ZaB (by rw [hcl];exact hrep.1)
  have hnd:gI (Zbz s).1.1 (atI ch c)=some (Zar s.1 (atI ch c)):=Za2 hdr
  have hkl:=X.kids.k _ (Zav hdr)
  have hkr:=X.kids.r _ (Zav hdr)
  have hcp:ZdD vs c=k:=by
   rw [Zax] at hc
   obtain ⟨h1,h2⟩:=List.getElem?_eq_some_iff.1 hc
   unfold ZdD
   rw [<-h2,List.Nodup.idxOf_getElem hv.nd]
  simp only [hgc,hnd,wq,reduceCtorEq]
  refine Zac (fun o=>∃ j:Nat,j<=(Zar s.1 (atI ch c)).2.2.length/\o=((j:Int),ByteArray.empty,0,0,0,ByteArray.empty,Zig s ch (vs.take k),0,0,num,(Za9 s (atI ch c) j).map (ZdD vs),(vs.take k).map (Zjp s ch vs))) (fun o=>(Zar s.1 (atI ch c)).2.2.length - o.1.toNat) ?_ _ ⟨0,by omega,by simp [Za9]⟩
  rintro _ ⟨j,hj,rfl⟩
  have hw2:=Zab j (by omega)
  have hkk:(Za9 s (atI ch c) j).length=j:=by unfold Za9;rw [List.length_take,Zbw X];omega
  simp only [ZxF,ZuI,wq,reduceCtorEq,Option.bind_some,hw,hw2]
  refine ⟨fun hlt2=>Zaj (by omega) hlt2 fun y hy hym=>?_,fun hge2=>?_⟩
  ·have hyr:=hkr y hym
   have hcg:gI (Zbz s).2.1 y=some (atI (Zai s) y):=X.cget hyr
   rw [Zax] at hy
   have hgk:=ZbV X hy
   have hpm:atI (Zai s) y∈Zbh s (atI ch c):=List.mem_of_getElem? hgk
   have hgn:gI num (atI (Zai s) y)=some (atI num (atI (Zai s) y)):=ZaB (by rw [hnl];exact X.ci.rng hyr)
   simp only [hcg,hgn,wq,reduceCtorEq]
   refine ⟨fun _=>⟨⟨j+1,by omega,?_⟩,by omega⟩,fun h=>absurd h (by simp only [List.length_cons,List.length_nil,List.length_map];omega)⟩
   obtain ⟨p1,p2⟩:=hkids _ hpm
   have:atI num (atI (Zai s) y)=ZdD vs (atI (Zai s) y):=hnum _ (by
    rw [hcp] at p2
    have h5:=Zqy p1
    unfold ZdD at p2 h5
    have h6:vs.idxOf (atI (Zai s) y) < k:=by omega
    have h7:(vs.take k)[vs.idxOf (atI (Zai s) y)]?=some (atI (Zai s) y):=by
     rw [List.getElem?_take_of_lt h6,List.getElem?_eq_getElem (by omega),List.getElem_idxOf]
    exact List.mem_of_getElem? h7)
   have hsn:Za9 s (atI ch c) (j+1)=Za9 s (atI ch c) j++[atI (Zai s) y]:=by unfold Za9;rw [List.take_add_one,hgk];rfl
   rw [this,hsn,List.map_append];rfl
  ·have hall:Za9 s (atI ch c) j=Zbh s (atI ch c):=by unfold Za9;rw [List.take_of_length_le (by rw [Zbw X];omega)]
   have hgn:gI num c=some (atI num c):=ZaB (by rw [hnl];exact hrep.1)
   have hnr:inR num.length c:=by rw [hnl];exact hrep.1
   rw [Zax] at hc
   have hts:vs.take (k+1)=vs.take k++[c]:=by rw [List.take_add_one,hc];rfl
   have fin:∀ p,p=Zig s ch (vs.take (k+1))->(∃ (k':Nat) (num':List Int),k'<=vs.length/\num'.length=s.1.length/\(∀ q∈vs.take k',atI num' q=ZdD vs q)/\(((k+1:Nat):Int),ByteArray.empty,(0:Int),(0:Int),(0:Int),ByteArray.empty,p,(0:Int),(0:Int),Zaq num c (k:Int),(vs.take k).map (Zjp s ch vs)++[((Zar s.1 (atI ch c)).1,(Zar s.1 (atI ch c)).2.1,(Za9 s (atI ch c) j).map (ZdD vs))])=((k':Int),ByteArray.empty,0,0,0,ByteArray.empty,Zig s ch (vs.take k'),0,0,num',(vs.take k').map (Zjp s ch vs))):=fun p hp=>by
    refine ⟨k+1,Zaq num c (k:Int),by omega,by rw [Zay];exact hnl,fun q hq=>?_,?_⟩
    ·rw [hts] at hq
     have hqv:q∈vs:=by rcases List.mem_append.1 hq with hq | hq;exact List.mem_of_mem_take hq;rw [List.mem_singleton.1 hq];exact hcm
     rw [Za3 hnr ((hv.sel q hqv).1.1).1]
     split
     ·subst ‹q=c›;exact hcp.symm
     ·rcases List.mem_append.1 hq with hq | hq
      ·exact hnum q hq
      ·exact absurd (List.mem_singleton.1 hq) ‹_›
    ·rw [hp,hts,List.map_append,hall];rfl
   have hpn:=ZvO X hs (vs.take k) (fun q hq=>hsr q (List.mem_of_mem_take hq))
   simp only [hgn,wq,reduceCtorEq]
   refine ⟨fun _=>⟨fun e2=>⟨fin _ ?_,by omega⟩,fun e2=>⟨fin _ ?_,by omega⟩⟩,fun h=>absurd h (by simp only [List.length_cons,List.length_nil,List.length_map,List.length_take];omega)⟩
   ·rw [hts,Zhf];exact Zsv X hs hdr hpn e2
   ·rw [hts,Zhf];unfold ZkA;rw [if_neg (fun h=>e2 h.1)]
 ·have hkn:vs.length<=k:=by omega
  rw [List.take_of_length_le hkn] at hnum
  rw [List.take_of_length_le hkn]
  have hcv:gI (Zbz s).2.1 (Zbz s).1.2.2.2.1=some (atI (Zai s) s.2.2.2.1):=X.cget X.v.va
  have hcs:gI (Zbz s).2.1 (Zbz s).1.2.2.2.2.1=some (atI (Zai s) s.2.2.2.2.1):=X.cget X.v.st
  have h1:gI num (atI (Zai s) s.2.2.2.1)=some (ZdD vs (atI (Zai s) s.2.2.2.1)):=by rw [ZaB (by rw [hnl];exact X.ci.rng X.v.va),hnum _ hv.va]
  have h2:gI num (atI (Zai s) s.2.2.2.2.1)=some (ZdD vs (atI (Zai s) s.2.2.2.2.1)):=by rw [ZaB (by rw [hnl];exact X.ci.rng X.v.st),hnum _ hv.st]
  simp only [hcv,hcs,h1,h2,wq,reduceCtorEq]
  rw [show ((ByteArray.empty,Zig s ch vs,vs.map (Zjp s ch vs),ZdD vs (atI (Zai s) s.2.2.2.1),ZdD vs (atI (Zai s) s.2.2.2.2.1)):GrT)=grS s ch vs from rfl,Zz4 _ (Zz0 X hs hv)]
  simp only [wq,reduceCtorEq]
  exact ⟨fun e=>.inr ⟨vs,hv,by rw [e];rfl⟩,fun e=>.inr ⟨vs,hv,by rw [e];rfl⟩⟩
end
theorem ZAY {s:Za5} (h:ZmA s) (hn:s.1.length<=900) (ch:List Int):F10 s ch=F11 s ch:=by
 obtain ⟨r,er,hr⟩:=Z4P h hn ch
 rw [er]
 refine Ret.eq ?_
 simp only [F10,Zzi s h,wq,reduceCtorEq]
 cases hb:ZdT s
 ·simp only [cond_false,wq,reduceCtorEq]
  rcases hr with ⟨_,rfl⟩ | ⟨hv,_⟩
  ·rfl
  ·rw [ZcH hv] at hb;cases hb
 ·have X:Ctx s:=⟨h,Zel.1 hb,hn⟩
  simp only [cond_true,wq,reduceCtorEq]
  by_cases hs:Zdi s ch
  ·rcases hr with ⟨h1,_⟩ | ⟨_,_,hq⟩
   ·exact absurd ⟨X.v,hs⟩ h1
   ·exact (Zz7 X hs).mono fun r' _ h'=>h'.uniq hq
  ·have hsb:ZqB s ch=false:=(Zep hs).symm
   simp only [F39,F45,Zzw X,hsb,wq,reduceCtorEq]
   rcases hr with ⟨_,rfl⟩ | ⟨_,h2,_⟩
   ·rfl
   ·exact absurd h2 hs
theorem Z5C (g:GrT) (hl:g.2.2.1.length<=900):F43 g=some (Z4R g.2.2.1):=by
 refine Ret.eq ?_
 unfold F43
 refine Zac (fun q:Int×Int=>∃ k:Nat,k<=g.2.2.1.length/\q=(Z4R (g.2.2.1.take k),(k:Int))) (fun q=>g.2.2.1.length - q.2.toNat) ?_ _ ⟨0,by omega,by simp [Z4R]⟩
 rintro _ ⟨k,hk,rfl⟩
 have hw:=Zab k (by omega)
 simp only [Z5y,wq,reduceCtorEq,hw]
 refine ⟨fun hlt=>Zaj (by omega) hlt fun x hx _=>?_,fun hge=>?_⟩
 ·rw [Zax] at hx
  have hb:=Z5a (g.2.2.1.take k)
  rw [List.length_take] at hb
  have hc:=(Zic x).2.2
  simp only [(Zic x).1,wq,reduceCtorEq]
  refine ⟨⟨k+1,by omega,?_⟩,by omega⟩
  rw [List.take_add_one,hx,Option.toList_some,Z4O,Zau (by omega) (by omega)]
 ·rw [List.take_of_length_le (by omega)]
theorem ZHe {s:Za5} (h:ZmA s) (hn:s.1.length<=900) (ch:List Int):F12 s ch=F13 s ch:=by
 obtain ⟨q,eq,r,er,hr,rfl⟩:=Z5k h hn ch
 rw [eq]
 refine Ret.eq ?_
 have hl:=Z4T hn hr
 simp only [F12,ZAY h hn,er,wq,reduceCtorEq,Z5C _ hl]
 refine ⟨fun e=>?_,fun e=>by rw [e]⟩
 have:r.1=noG:=by
  rcases hr with ⟨_,rfl⟩ | ⟨_,_,⟨_,rfl⟩ | ⟨vs,_,rfl⟩⟩
  ·rfl
  ·rfl
  ·cases hw:wfB (grS s ch vs)
   ·rfl
   ·rw [hw] at e;cases e
 rw [this,e]
 simp [noG,Z4R]
end Go.Dat
/-
 The parts of the search: what both programs know of a partial selection, and the whole selection that it stands for.
-/
namespace Go.Dat
open Go.Eng
set_option linter.unusedSimpArgs false
set_option linter.unusedVariables false
set_option linter.unusedSectionVars false
section
variable {s:Za5} (X:Ctx s) {ch:List Int} (hs:Zdi s ch)
include X hs
def Zsw (s:Za5) (ch:List Int):Prop:=∀ j,inR s.1.length j->0<=atI ch j->Zb7 s ch j
end
mutual
theorem Po.rs {s:Za5} {a:List Int} {c:Int} {vs ws:List Int}:Po s a c vs ws->RS s a c->(∀ q∈vs,RS s a q)->∀ q∈ws,RS s a q
 | .seen _,_,hv=>hv
 | .new _ h0 hl _,hc,hv=>fun q hq=>by
  rcases List.mem_append.1 hq with hq | hq
  ·exact PoL.rs hl (fun p hp=>.step hc ⟨h0,hp⟩) hv q hq
  ·rw [List.mem_singleton.1 hq];exact hc
theorem PoL.rs {s:Za5} {a ps vs ws:List Int}:PoL s a ps vs ws->(∀ p∈ps,RS s a p)->(∀ q∈vs,RS s a q)->∀ q∈ws,RS s a q
 | .nil,_,hv=>hv
 | .cons h1 h2,hp,hv=>PoL.rs h2 (fun p hm=>hp p (List.mem_cons_of_mem _ hm)) (Po.rs h1 (hp _ (by simp)) hv)
end
theorem Zsx {s:Za5} {a b:List Int} (h:∀ q,RS s a q->atI a q=atI b q) {q:Int} (hq:RS s a q):RS s b q:=by
 induction hq with
 | val=>exact .val
 | st=>exact .st
 | step h1 e ih=>
  have:=h _ h1
  exact .step ih ⟨by rw [<-this];exact e.1,by rw [<-this];exact e.2⟩
section
variable {s:Za5} {a b:List Int} (h:∀ q,RS s a q->atI a q=atI b q)
include h
theorem Zq4 (hb:Zqx s a):Zqx s b:=by
 obtain ⟨q,hq,hb⟩:=hb
 refine ⟨q,Zsx h hq,?_⟩
 rcases hb with hb | ⟨p,e,hp⟩
 ·exact .inl (by rw [<-h q hq];exact hb)
 ·have he:EdS s b q p:=⟨by rw [<-h q hq];exact e.1,by rw [<-h q hq];exact e.2⟩
  refine .inr ⟨p,he,?_⟩
  have hrp:RS s a p:=.step hq e
  have key:∀ {x:Int},ZnS s a p x->ZnS s b p x/\RS s a x:=fun hx=>by
   induction hx with
   | refl=>exact ⟨.refl,hrp⟩
   | snoc _ e' ih=>
    obtain ⟨i1,i2⟩:=ih
    exact ⟨i1.snoc ⟨by rw [<-h _ i2];exact e'.1,by rw [<-h _ i2];exact e'.2⟩,.step i2 e'⟩
  exact (key hp).1
mutual
theorem Po.agree {c:Int} {vs ws:List Int}:Po s a c vs ws->RS s a c->Po s b c vs ws
 | .seen hm,_=>.seen hm
 | .new hm h0 hl hn,hc=>by
  have e:=h c hc
  refine .new hm (by rw [<-e];exact h0) ?_ hn
  rw [<-e]
  exact PoL.agree hl fun p hp=>.step hc ⟨h0,hp⟩
theorem PoL.agree {ps vs ws:List Int}:PoL s a ps vs ws->(∀ p∈ps,RS s a p)->PoL s b ps vs ws
 | .nil,_=>.nil
 | .cons h1 h2,hp=>.cons (Po.agree h1 (hp _ (by simp))) (PoL.agree h2 fun p hm=>hp p (List.mem_cons_of_mem _ hm))
end
theorem PoR.agree {vs:List Int} (hv:PoR s a vs):PoR s b vs/\grS s a vs=grS s b vs:=by
 have hroots:∀ p∈[atI (Zai s) s.2.2.2.1,atI (Zai s) s.2.2.2.2.1],RS s a p:=fun p hp=>by
  rcases List.mem_cons.1 hp with rfl | hp
  ·exact .val
  ·rw [List.mem_singleton.1 hp];exact .st
 have hrs:=PoL.rs hv.po hroots (fun q hq=>by cases hq)
 refine ⟨⟨⟨hv.nd,fun q hq=>?_⟩,PoL.agree h hv.po hroots,hv.va,hv.st,hv.len⟩,?_⟩
 ·obtain ⟨h1,h2,h3⟩:=hv.sel q hq
  rw [<-h q (hrs q hq)]
  exact ⟨h1,h2,h3⟩
 ·have e1:∀ q∈vs,Zjp s a vs q=Zjp s b vs q:=fun q hq=>by unfold Zjp;rw [h q (hrs q hq)]
  have e2:Zig s a vs=Zig s b vs:=by
   have key:∀ (l:List Int) (m:Int),(∀ q∈l,RS s a q)->l.foldl (ZkA s a) m=l.foldl (ZkA s b) m:=by
    intro l
    induction l with
    | nil=>intro m _;rfl
    | cons q l ih=>
     intro m hl
     rw [List.foldl_cons,List.foldl_cons,ih _ (fun p hp=>hl p (List.mem_cons_of_mem _ hp))]
     have:ZkA s a m q=ZkA s b m q:=by unfold ZkA;rw [h q (hl q (by simp))]
     rw [this]
   exact key vs 0 hrs
  unfold grS
  rw [e2,List.map_congr_left e1]
end
theorem Zq0.agree {s:Za5} {a b:List Int} (h:∀ q,RS s a q->atI a q=atI b q) {r:GrT×Bool} (hr:Zq0 s a r):Zq0 s b r:=by
 rcases hr with ⟨hb,rfl⟩ | ⟨vs,hv,rfl⟩
 ·exact .inl ⟨Zq4 h hb,rfl⟩
 ·obtain ⟨h1,h2⟩:=hv.agree h
  exact .inr ⟨vs,h1,by rw [h2]⟩
end Go.Dat
namespace Go.Dat
open Go.Eng
set_option linter.unusedSimpArgs false
set_option linter.unusedVariables false
set_option linter.unusedSectionVars false
section
variable {s:Za5} (X:Ctx s) {ch:List Int} (hs:Zdi s ch) {need:List Bool} (hN:Zbv s ch need) (hD:Zsw s ch) (ho:(lbM s ch need).2.1=[])
include X hs hN hD ho
end
section
variable {s:Za5} (X:Ctx s) {ch:List Int} (hs:Zdi s ch) (hD:Zsw s ch) {need:List Bool} (hN:Zbv s ch need) {c:Int} {rest:List Int} (ho:(lbM s ch need).2.1=c::rest) {f:Int} (hf:f∈Zaw (Zaz s) c)
include X hs hD hN ho
include hf
end
section
variable {s:Za5} (X:Ctx s) (most:Nat) (hm:most<=20000)
include X hm
end
section
variable {s:Za5} (X:Ctx s) (most:Nat) (hm:most<=20000)
include X hm
end
section
variable {s:Za5} (X:Ctx s)
include X
end
inductive Dep:Nat->Zbb->Prop
 | mk {n:Nat} {k c:Int} {l:List Zbb}:l.length<=1000->(∀ t∈l,Dep n t)->Dep (n+1) (.mk k c l)
theorem Dep.up {n m:Nat} {t:Zbb} (h:Dep n t) (hm:n<=m):Dep m t:=by
 induction h generalizing m with
 | mk hl _ ih=>
  cases m with
  | zero=>omega
  | succ m=>exact .mk hl fun t ht=>ih t ht (by omega)
section
variable {s:Za5} (X:Ctx s) {most:Nat}
include X
end

section
variable {s:Za5} (X:Ctx s) {ch:List Int} (hs:Zdi s ch) {need:List Bool} (hN:Zbv s ch need) (ho:(lbM s ch need).2.1=[])
include X hs hN ho
end
open Classical in
section
variable {s:Za5} (X:Ctx s) {ch:List Int} (hs:Zdi s ch)
include X hs
end
section
variable {s:Za5} (X:Ctx s)
include X
end
section
variable {s:Za5} (X:Ctx s)
include X
end
section
variable {s:Za5} (h:ZmA s) (hn:s.1.length<=900)
include h hn
theorem Z5s (hv:ZcO s) (ch:List Int) {r:GrT×Bool} (er:F11 s ch=some r):F39 (some (Zbz s)) ch=some r:=by
 obtain ⟨r',er',hr⟩:=Z4P h hn ch
 rw [er] at er'
 obtain rfl:=Option.some.inj er'
 have X:Ctx s:=⟨h,hv,hn⟩
 refine Ret.eq ?_
 by_cases hs:Zdi s ch
 ·rcases hr with ⟨h1,_⟩ | ⟨_,_,hq⟩
  ·exact absurd ⟨X.v,hs⟩ h1
  ·exact (Zz7 X hs).mono fun r' _ h'=>h'.uniq hq
 ·have hsb:ZqB s ch=false:=(Zep hs).symm
  simp only [F39,F45,Zzw X,hsb,wq,reduceCtorEq]
  rcases hr with ⟨_,rfl⟩ | ⟨_,h2,_⟩
  ·rfl
  ·exact absurd h2 hs
theorem Z5t {ch:List Int} {r:GrT×Bool} (er:F11 s ch=some r):r.1.2.2.1.length<=900:=by
 obtain ⟨r',er',hr⟩:=Z4P h hn ch
 rw [er] at er'
 obtain rfl:=Option.some.inj er'
 exact Z4T hn hr
theorem Z5D {ch:List Int} {r:GrT×Bool} (er:F11 s ch=some r):F13 s ch=some (Z4R r.1.2.2.1,r.2):=by
 obtain ⟨q,eq,r',er',_,rfl⟩:=Z5k h hn ch
 rw [er] at er'
 obtain rfl:=Option.some.inj er'
 exact eq
end
def ZGr (N:List Zae) (y:Zae):Int:=((N.idxOf y:Nat):Int)
theorem ZGA {N es:List Zae} {y:Zae} (h:y∈N):ZGr (N++es) y=ZGr N y:=by unfold ZGr;rw [List.idxOf_append,if_pos h]
theorem ZG7 {N:List Zae} {y:Zae} (h:y∉N):ZGr (N++[y]) y=N.length:=by
 unfold ZGr;rw [List.idxOf_append,if_neg h];simp
theorem ZGP {N:List Zae} {y:Zae} (h:y∈N):ZGr N y < N.length:=by unfold ZGr;have:=List.idxOf_lt_length_iff.2 h;omega
theorem ZGy (N:List Zae) (y:Zae):0<=ZGr N y:=by unfold ZGr;omega
noncomputable def exN (s:Za5) (ch:List Int) (g:Int->Int) (c:Int):Zae:=((Zar s.1 (atI ch c)).1,(Zar s.1 (atI ch c)).2.1,(Zbh s (atI ch c)).map g)
abbrev ZGz:=List Zae×List Zew×(Int->Int)
noncomputable def ZGo (s:Za5) (ch:List Int) (σ:ZGz) (c:Int):ZGz:=
 if exN s ch σ.2.2 c∈σ.1 then (σ.1,σ.2.1,fun q=>if q=c then ZGr σ.1 (exN s ch σ.2.2 c) else σ.2.2 q)
 else (σ.1++[exN s ch σ.2.2 c],σ.2.1++[(atI ch c,(σ.1.length:Int),0,[],[])],fun q=>if q=c then (σ.1.length:Int) else σ.2.2 q)
noncomputable def ZGn (s:Za5) (ch vs:List Int):ZGz:=vs.foldl (ZGo s ch) (s.1,s.2.1,fun _=>-1)
theorem ZGv (s:Za5) (ch vs:List Int) (c:Int):ZGn s ch (vs++[c])=ZGo s ch (ZGn s ch vs) c:=by unfold ZGn;rw [List.foldl_append];rfl
structure ZHf (s:Za5) (vs:List Int) (σ:ZGz):Prop where
 n:σ.1.length<=s.1.length+vs.length
 s:σ.2.1.length<=s.2.1.length+vs.length
 g:∀ q∈vs,0<=σ.2.2 q/\σ.2.2 q < σ.1.length
 out:∀ q,q∉vs->σ.2.2 q=-1
theorem ZHg {s:Za5} {ch vs:List Int} {σ:ZGz} (h:ZHf s vs σ) (c:Int):ZHf s (vs++[c]) (ZGo s ch σ c):=by
 unfold ZGo
 split
 ·rename_i hm
  refine ⟨by have:=h.n;simp;omega,by have:=h.s;simp;omega,fun q hq=>?_,fun q hq=>?_⟩
  ·show 0<=(if q=c then _ else _)/\(if q=c then _ else _) < _
   split
   ·exact ⟨ZGy _ _,ZGP hm⟩
   ·rename_i hne
    rcases List.mem_append.1 hq with hq | hq
    ·exact h.g q hq
    ·exact absurd (List.mem_singleton.1 hq) hne
  ·show (if q=c then _ else _)=_
   rw [if_neg (fun e=>hq (by simp [e]))]
   exact h.out q fun e=>hq (List.mem_append_left _ e)
 ·rename_i hm
  refine ⟨by have:=h.n;simp;omega,by have:=h.s;simp;omega,fun q hq=>?_,fun q hq=>?_⟩
  ·show 0<=(if q=c then _ else _)/\(if q=c then _ else _) < _
   simp only [List.length_append,List.length_singleton]
   split
   ·constructor<;>omega
   ·rename_i hne
    rcases List.mem_append.1 hq with hq | hq
    ·have:=h.g q hq;constructor<;>omega
    ·exact absurd (List.mem_singleton.1 hq) hne
  ·show (if q=c then _ else _)=_
   rw [if_neg (fun e=>hq (by simp [e]))]
   exact h.out q fun e=>hq (List.mem_append_left _ e)
theorem ZGs {s:Za5} {ch:List Int}:∀ (l vs:List Int) (σ:ZGz),ZHf s vs σ->ZHf s (vs++l) (l.foldl (ZGo s ch) σ)
 | [],vs,σ,h=>by rw [List.append_nil];exact h
 | c::l,vs,σ,h=>by
  have:=ZGs (ch:=ch) l (vs++[c]) _ (ZHg (ch:=ch) h c)
  rw [List.append_assoc] at this
  exact this
theorem ZGw (s:Za5) (ch vs:List Int):ZHf s vs (ZGn s ch vs):=
 ZGs vs [] _ ⟨by simp,by simp,(fun q hq=>(by cases hq)),fun _ _=>rfl⟩
theorem ZG0 (s:Za5) (ch vs l:List Int):ZGn s ch (vs++l)=l.foldl (ZGo s ch) (ZGn s ch vs):=by unfold ZGn;rw [List.foldl_append]
theorem ZG1 {s:Za5} {ch:List Int} {σ:ZGz} {c q:Int} (h:q≠c):(ZGo s ch σ c).2.2 q=σ.2.2 q:=by
 unfold ZGo;split
 ·exact if_neg h
 ·exact if_neg h
theorem ZGt {s:Za5} {ch:List Int} {q:Int}:∀ (l:List Int) (σ:ZGz),q∉l->(l.foldl (ZGo s ch) σ).2.2 q=σ.2.2 q
 | [],_,_=>rfl
 | c::l,σ,h=>by
  rw [List.foldl_cons,ZGt l _ fun e=>h (List.mem_cons_of_mem _ e),ZG1 fun e=>h (by simp [e])]
noncomputable def ZHh (s:Za5) (ch vs:List Int):Za5:=((ZGn s ch vs).1,(ZGn s ch vs).2.1,s.2.2.1,(ZGn s ch vs).2.2 (atI (Zai s) s.2.2.2.1),(ZGn s ch vs).2.2 (atI (Zai s) s.2.2.2.2.1),s.2.2.2.2.2.1,s.2.2.2.2.2.2)
def ZG9 (idx:List (ByteArray×Int)) (N:List Zae):Prop:=∀ y:Zae,Zc3 (ZaS .str) idx (Zvy y.1 y.2.1 y.2.2)=if y∈N then some (ZGr N y) else none
theorem ZG9.nil:ZG9 [] []:=fun y=>by simp [Zc3]
theorem ZG9.snoc {idx:List (ByteArray×Int)} {N:List Zae} (h:ZG9 idx N) {y:Zae} (hy:y∉N):ZG9 (ZfQ (ZaS .str) idx (Zvy y.1 y.2.1 y.2.2) (N.length:Int)) (N++[y]):=fun z=>by
 rw [ZeW]
 by_cases e:z=y
 ·subst e;rw [if_pos rfl,if_pos (by simp),ZG7 hy]
 ·have hk:Zvy z.1 z.2.1 z.2.2≠Zvy y.1 y.2.1 y.2.2:=fun hk=>by
   obtain ⟨k1,k2,k3⟩:=Zm7 hk
   exact e (Prod.ext k1 (Prod.ext k2 k3))
  rw [if_neg hk,h z]
  by_cases m:z∈N
  ·rw [if_pos m,if_pos (List.mem_append_left _ m),ZGA m]
  ·rw [if_neg m,if_neg (fun q=>by rcases List.mem_append.1 q with q | q;exact m q;exact e (List.mem_singleton.1 q))]
theorem ZGB {l:List Zae} (h:Zex l l.length) {m:Nat} {x:Zae} (hx:l[m]?=some x):x∉l.take m:=fun hm=>by
 obtain ⟨j,hj⟩:=List.getElem?_of_mem hm
 have hjm:j < m:=by have:=ZaA hj;simp at this;omega
 rw [List.getElem?_take,if_pos hjm] at hj
 exact (h m (ZaA hx)).2 j hjm (by rw [hj,hx])
structure ZHi (s:Za5):Prop where
 inv:s.2.2.1.length<=1000
 steps:∀ x∈s.2.1,x.2.2.2.1.length<=1000/\x.2.2.2.2.length<=1000
section
variable {s:Za5} (X:Ctx s) (hb:ZHi s) {ch:List Int} (hs:Zdi s ch) {vs:List Int} (hv:PoR s ch vs)
include X hb hs hv
theorem ZGx:F45 (some (Zbz s)) ch=some (vs,true):=by
 refine Ret.eq ?_
 refine (Zz6 X hs).mono fun r _ hr=>?_
 rcases hr with ⟨h1,_⟩ | ⟨vs',h1,rfl⟩
 ·exact (Zq2 hv h1).elim
 ·rw [h1.uniq hv]
theorem ZHj {c:Int} {σ:ZGz} (hc:c∈vs) (hg:∀ p∈Zbh s (atI ch c),0<=σ.2.2 p/\σ.2.2 p < 100000):ZiV (exN s ch σ.2.2 c):=by
 have hr:inR s.1.length (atI ch c):=Zf4 X hs (hv.sel c hc).1.1 (hv.sel c hc).2.1
 have hw:=X.h.g.w _ (Zav hr)
 refine ⟨hw.op,hw.imm,?_,fun x hx=>?_⟩
 ·show ((Zbh s (atI ch c)).map σ.2.2).length<=1000
  rw [List.length_map,Zbw X];exact hw.k
 ·obtain ⟨p,hp,rfl⟩:=List.mem_map.1 hx
  have:=hg p hp
  constructor<;>omega
theorem ZGC {idx:List (ByteArray×Int)} (hix:ZG9 idx s.1) (r3:(Option Zwb)×Bool) (e3:r3.1=some (Zbz s)):Ret (Zao (ZGK s ch r3 (vs,true)) (0,0,0,0,0,0,0,s.2.2.2.2.2.1,s.2.2.2.2.2.2,idx,List.replicate ch.length 0,s.1,s.2.1,s.2.2.1)) fun r=>r=(ZHh s ch vs,true):=by
 have hn:=X.n
 have hsl:=X.h.sl
 have hcl:=hs.1
 have hvl:=hv.len
 refine Zac (fun q:Int×Int×Int×Int×Int×Int×Int×Int×Int×List (ByteArray×Int)×List Int×List Zae×List Zew×List (Int×Int×Int)=>∃ k:Nat,k<=vs.length/\∃ idx placed,ZG9 idx (ZGn s ch (vs.take k)).1/\placed.length=ch.length/\(∀ q∈vs.take k,atI placed q=(ZGn s ch (vs.take k)).2.2 q)/\q=((k:Int),0,0,0,0,0,0,s.2.2.2.2.2.1,s.2.2.2.2.2.2,idx,placed,(ZGn s ch (vs.take k)).1,(ZGn s ch (vs.take k)).2.1,s.2.2.1)) (fun q=>vs.length - q.1.toNat) ?_ _ ⟨0,by omega,idx,_,hix,by simp,fun q hq=>by simp at hq,rfl⟩
 rintro _ ⟨k,hk,idx,placed,hI,hpl,hpg,rfl⟩
 have hw:=Zab k (by omega)
 have hM:=ZGw s ch (vs.take k)
 have hMn:=hM.n
 have hMs:=hM.s
 rw [List.length_take] at hMn hMs
 simp only [ZGK,wq,reduceCtorEq,e3]
 refine ⟨fun hlt=>?_,fun hge=>?_⟩
 ·have hkv:k < vs.length:=by omega
  obtain ⟨c,hc⟩:=ZeS hkv
  have hcm:=List.mem_of_getElem? hc
  have hsel:=hv.sel c hcm
  have hcr:=hsel.1.1
  have hnr:inR s.1.length (atI ch c):=Zf4 X hs hcr hsel.2.1
  have hgc:gI ch c=some (atI ch c):=ZaB (by rw [hcl];exact hcr)
  have hts:vs.take (k+1)=vs.take k++[c]:=by rw [List.take_add_one,hc];rfl
  simp only [ZGh hc,hgc,Za2 hnr,wq,reduceCtorEq]
  have hpc:ZdD vs c=k:=by
   unfold ZdD
   rw [<-(List.getElem?_eq_some_iff.1 hc).2,hv.nd.idxOf_getElem k hkv]
  have hkid:∀ p∈Zbh s (atI ch c),p∈vs.take k:=fun p hp=>by
   obtain ⟨a,b⟩:=hsel.2.2 p hp
   rw [hpc] at b
   have hlt:vs.idxOf p < k:=by unfold ZdD at b;omega
   have e:=List.getElem_idxOf (List.idxOf_lt_length_iff.2 a)
   exact List.mem_take_iff_getElem.2 ⟨vs.idxOf p,by have:=List.idxOf_lt_length_iff.2 a;omega,e⟩
  obtain ⟨σ,hσ⟩:∃ σ,σ=ZGn s ch (vs.take k):=⟨_,rfl⟩
  rw [<-hσ] at hM hMn hMs hI hpg |-
  have hg:∀ p∈Zbh s (atI ch c),0<=σ.2.2 p/\σ.2.2 p < 100000:=fun p hp=>by have:=hM.g p (hkid p hp);omega
  have hW:=ZHj X hb hs hv hcm hg
  have hwn:=X.h.g.w _ (Zav hnr)
  have hkl:=Zbw (s:=s) X (atI ch c)
  refine Zac (fun q:Int×Int×Int×Int×Int×Int×Int×Int×Int×List (ByteArray×Int)×List Int×Int×Int×List Zae×List Zew×List (Int×Int×Int)×List Int=>∃ j:Nat,j<=(Zar s.1 (atI ch c)).2.2.length/\q=((j:Int),0,0,0,0,0,0,s.2.2.2.2.2.1,s.2.2.2.2.2.2,idx,placed,(Zar s.1 (atI ch c)).1,(Zar s.1 (atI ch c)).2.1,σ.1,σ.2.1,s.2.2.1,((Zbh s (atI ch c)).take j).map σ.2.2)) (fun q=>(Zar s.1 (atI ch c)).2.2.length - q.1.toNat) ?_ _ ⟨0,by omega,by simp⟩
  rintro _ ⟨j,hj,rfl⟩
  have hk1:=hwn.k
  have hw2:=Zab j (by omega)
  simp only [ZGV,wq,reduceCtorEq,hw2,e3]
  refine ⟨fun hlt2=>Zaj (by omega) hlt2 fun y hy hym=>?_,fun hge2=>?_⟩
  ·rw [Zax] at hy
   have hkc:=ZbV X hy
   have hpm:=List.mem_of_getElem? hkc
   have hyr:=X.kids.r _ (Zav hnr) y hym
   have hcy:gI (Zbz s).2.1 y=some (atI (Zai s) y):=X.cget hyr
   have hpr:=(hv.sel _ (List.mem_of_mem_take (hkid _ hpm))).1.1
   have hgp:gI placed (atI (Zai s) y)=some (σ.2.2 (atI (Zai s) y)):=by
    rw [ZaB (by rw [hpl,hcl];exact hpr),hpg _ (hkid _ hpm)]
   simp only [hcy,hgp,wq,reduceCtorEq]
   refine ⟨fun _=>⟨⟨j+1,by omega,?_⟩,by omega⟩,fun h=>absurd h ?_⟩
   ·rw [List.take_add_one,hkc];simp
   ·simp only [List.length_map,List.length_take,List.length_cons,List.length_nil];omega
  ·have hjl:j=(Zar s.1 (atI ch c)).2.2.length:=by omega
   rw [hjl,<-hkl,List.take_length]
   rw [show ((Zar s.1 (atI ch c)).1,(Zar s.1 (atI ch c)).2.1,(Zbh s (atI ch c)).map σ.2.2)=exN s ch σ.2.2 c from rfl,Zqe _ hW]
   have hpc':gI placed c=some (atI placed c):=ZaB (by rw [hpl,hcl];exact hcr)
   have hix:=hI (exN s ch σ.2.2 c)
   have hMM:ZGn s ch (vs.take (k+1))=ZGo s ch σ c:=by rw [hts,ZGv,<-hσ]
   have hset:∀ (x:Int),(ZGo s ch σ c).2.2 c=x->∀ q∈vs.take (k+1),atI (Zaq placed c x) q=(ZGo s ch σ c).2.2 q:=fun x hx q hq=>by
    have hqr:=(hv.sel q (List.mem_of_mem_take hq)).1.1
    rw [Za3 (by rw [hpl,hcl];exact hcr) hqr.1]
    split
    ·subst ‹q=c›;exact hx.symm
    ·rename_i hne
     rw [hts] at hq
     rcases List.mem_append.1 hq with hq | hq
     ·rw [ZG1 hne];exact hpg q hq
     ·exact absurd (List.mem_singleton.1 hq) hne
   by_cases hm:exN s ch σ.2.2 c∈σ.1
   ·rw [if_pos hm] at hix
    have e:ZGo s ch σ c=(σ.1,σ.2.1,fun q=>if q=c then ZGr σ.1 (exN s ch σ.2.2 c) else σ.2.2 q):=by unfold ZGo;rw [if_pos hm]
    simp only [hix,hgc,hpc',ZGJ,wq,reduceCtorEq,Option.isSome_some,Option.getD_some,hw]
    refine ⟨⟨k+1,by omega,idx,Zaq placed c (ZGr σ.1 (exN s ch σ.2.2 c)),?_⟩,by omega⟩
    rw [hMM]
    refine ⟨by rw [e];exact hI,by rw [Zay];exact hpl,hset _ (by rw [e];exact if_pos rfl),by rw [e]⟩
   ·rw [if_neg hm] at hix
    have e:ZGo s ch σ c=(σ.1++[exN s ch σ.2.2 c],σ.2.1++[(atI ch c,(σ.1.length:Int),0,[],[])],fun q=>if q=c then (σ.1.length:Int) else σ.2.2 q):=by unfold ZGo;rw [if_neg hm]
    simp only [hix,hgc,hpc',ZGJ,wq,reduceCtorEq,Option.isSome_none,hw]
    refine ⟨fun _=>⟨fun _=>⟨⟨k+1,by omega,ZfQ (ZaS .str) idx (Zvy (exN s ch σ.2.2 c).1 (exN s ch σ.2.2 c).2.1 (exN s ch σ.2.2 c).2.2) (σ.1.length:Int),Zaq placed c (σ.1.length:Int),?_⟩,by omega⟩,fun h=>absurd h ?_⟩,fun h=>absurd h ?_⟩
    ·rw [hMM]
     refine ⟨by rw [e];exact hI.snoc hm,by rw [Zay];exact hpl,hset _ (by rw [e];exact if_pos rfl),by rw [e]⟩
    ·simp only [List.length_cons,List.length_nil];omega
    ·simp only [List.length_cons,List.length_nil];omega
 ·have hkn:k=vs.length:=by omega
  subst hkn
  rw [List.take_length] at hpg |-
  have hcv:gI (Zbz s).2.1 s.2.2.2.1=some (atI (Zai s) s.2.2.2.1):=X.cget X.v.va
  have hcs:gI (Zbz s).2.1 s.2.2.2.2.1=some (atI (Zai s) s.2.2.2.2.1):=X.cget X.v.st
  have h1:gI placed (atI (Zai s) s.2.2.2.1)=some ((ZGn s ch vs).2.2 (atI (Zai s) s.2.2.2.1)):=by rw [ZaB (by rw [hpl,hcl];exact X.ci.rng X.v.va),hpg _ hv.va]
  have h2:gI placed (atI (Zai s) s.2.2.2.2.1)=some ((ZGn s ch vs).2.2 (atI (Zai s) s.2.2.2.2.1)):=by rw [ZaB (by rw [hpl,hcl];exact X.ci.rng X.v.st),hpg _ hv.st]
  simp only [hcv,hcs,h1,h2,wq,reduceCtorEq]
  rfl
theorem ZGQ {r:GrT×Bool} (er:F11 s ch=some r) (h2:r.2=true):F14 s ch=some (ZHh s ch vs,true):=by
 refine Ret.eq ?_
 have hn:=X.n
 have hsl:=X.h.sl
 have hcl:=hs.1
 have hinv:=hb.inv
 have hvb:=ZcH X.v
 simp only [F14,Zzi s X.h,hvb,cond_true,Z5s X.h hn X.v ch er,h2,ZGx X hb hs hv,wq,reduceCtorEq]
 refine ⟨fun _=>?_,fun h=>absurd h (by simp only [List.length_nil];omega)⟩
 refine Zac (fun q:Int×Int×Int×Int×Int×Int×Int×Int×Int×List (ByteArray×Int)×List Zae×List (Int×Int×Int)=>∃ k:Nat,k<=s.1.length/\∃ idx,ZG9 idx (s.1.take k)/\q=((k:Int),0,0,0,0,0,0,s.2.2.2.2.2.1,s.2.2.2.2.2.2,idx,s.1.take k,s.2.2.1)) (fun q=>s.1.length - q.1.toNat) ?_ _ ⟨0,by omega,[],ZG9.nil,by simp⟩
 rintro _ ⟨k,hk,idx,hI,rfl⟩
 have hw:=Zab k (by omega)
 simp only [ZGX,wq,reduceCtorEq,hw]
 refine ⟨fun hlt=>Zaj (by omega) hlt fun x hx hxm=>?_,fun hge=>?_⟩
 ·rw [Zax] at hx
  have hW:=X.h.g.w x hxm
  have hxk:=hW.k
  simp only [Zqe x hW,List.nil_append,wq,reduceCtorEq]
  have htk:s.1.take k++[x]=s.1.take (k+1):=by rw [List.take_add_one,hx];rfl
  have hnew:ZG9 (ZfQ (ZaS .str) idx (Zvy x.1 x.2.1 x.2.2) (k:Int)) (s.1.take (k+1)):=by
   have hlt':((s.1.take k).length:Int)=(k:Int):=by rw [List.length_take];omega
   have:=hI.snoc (ZGB X.v.good hx)
   rw [hlt',htk] at this
   exact this
  refine ⟨fun _=>⟨fun _=>⟨⟨k+1,by omega,ZfQ (ZaS .str) idx (Zvy x.1 x.2.1 x.2.2) (k:Int),hnew,?_⟩,by omega⟩,fun h=>absurd h ?_⟩,fun h=>absurd h ?_⟩
  ·rw [<-htk]
  ·simp only [List.length_take,List.length_cons,List.length_nil];omega
  ·simp only [List.length_nil];omega
 ·have hkn:k=s.1.length:=by omega
  subst hkn
  rw [List.take_length] at hI |-
  refine Zac (fun q:Int×Int×Int×Int×Int×Int×Int×Int×Int×List (ByteArray×Int)×List Zae×List Zew×List (Int×Int×Int)=>∃ k:Nat,k<=s.2.1.length/\q=((k:Int),0,0,0,0,0,0,s.2.2.2.2.2.1,s.2.2.2.2.2.2,idx,s.1,s.2.1.take k,s.2.2.1)) (fun q=>s.2.1.length - q.1.toNat) ?_ _ ⟨0,by omega,by simp⟩
  rintro _ ⟨k,hk,rfl⟩
  have hw:=Zab k (by omega)
  simp only [ZGW,wq,reduceCtorEq,hw]
  refine ⟨fun hlt=>Zaj (by omega) hlt fun x hx hxm=>?_,fun hge=>?_⟩
  ·rw [Zax] at hx
   obtain ⟨b1,b2⟩:=hb.steps x hxm
   have htk:s.2.1.take k++[x]=s.2.1.take (k+1):=by rw [List.take_add_one,hx];rfl
   simp only [List.nil_append,wq,reduceCtorEq]
   refine ⟨fun _=>⟨fun _=>⟨fun _=>⟨⟨k+1,by omega,?_⟩,by omega⟩,fun h=>absurd h ?_⟩,fun h=>absurd h ?_⟩,fun h=>absurd h ?_⟩
   ·rw [<-htk]
   ·simp only [List.length_take,List.length_cons,List.length_nil];omega
   ·simp only [List.length_nil];omega
   ·simp only [List.length_nil];omega
  ·have hkn:k=s.2.1.length:=by omega
   subst hkn
   rw [List.take_length]
   refine ⟨fun _=>?_,fun h=>absurd h (by omega)⟩
   exact ZGC X hb hs hv hI _ rfl
end
end Go.Dat
namespace Go.Dat
open Go.Eng
set_option linter.unusedSimpArgs false
set_option linter.unusedVariables false
set_option linter.unusedSectionVars false
mutual
theorem Po.ext {s:Za5} {ch:List Int} {c:Int} {us ws:List Int}:Po s ch c us ws->∃ es,ws=us++es/\c∈ws/\∀ x∈es,x∉us
 | .seen h=>⟨[],(List.append_nil _).symm,h,fun x hx=>by cases hx⟩
 | .new h _ h1 h2=>by
  have E1:=PoL.ext h1
  obtain ⟨es,rfl,_,he⟩:=E1
  refine ⟨es++[c],by rw [List.append_assoc],by simp,fun x hx=>?_⟩
  rcases List.mem_append.1 hx with hx | hx
  ·exact he x hx
  ·rw [List.mem_singleton.1 hx];exact h
theorem PoL.ext {s:Za5} {ch ps us ws:List Int}:PoL s ch ps us ws->∃ es,ws=us++es/\(∀ p∈ps,p∈ws)/\∀ x∈es,x∉us
 | .nil=>⟨[],(List.append_nil _).symm,(fun p hp=>by cases hp),fun x hx=>by cases hx⟩
 | .cons h1 h2=>by
  have E1:=Po.ext h1
  have E2:=PoL.ext h2
  obtain ⟨a,rfl,ha,ha'⟩:=E1
  obtain ⟨b,rfl,hb,hb'⟩:=E2
  refine ⟨a++b,by rw [List.append_assoc],fun p hp=>?_,fun x hx=>?_⟩
  ·rcases List.mem_cons.1 hp with rfl | hp
   ·exact List.mem_append_left _ ha
   ·exact hb p hp
  ·rcases List.mem_append.1 hx with hx | hx
   ·exact ha' x hx
   ·exact fun h=>hb' x hx (List.mem_append_left _ h)
end
theorem PoL.step {s:Za5} {ch ps us ws:List Int} {k:Nat} {p:Int} (h:PoL s ch (ps.drop k) us ws) (hk:ps[k]?=some p):∃ vs,Po s ch p us vs/\PoL s ch (ps.drop (k+1)) vs ws:=by
 obtain ⟨hl,rfl⟩:=List.getElem?_eq_some_iff.1 hk
 rw [List.drop_eq_getElem_cons hl] at h
 cases h with
 | cons h1 h2=>exact ⟨_,h1,h2⟩
theorem ZG4 {N:List Zae} {y:Zae} {i:Nat} (h:N[i]?=some y) (hn:y∉N.take i):ZGr N y=(i:Int):=by
 obtain ⟨hl,rfl⟩:=List.getElem?_eq_some_iff.1 h
 have e:N=N.take i++N[i]::N.drop (i+1):=by rw [<-List.drop_eq_getElem_cons hl,List.take_append_drop]
 unfold ZGr
 have h2:N.idxOf N[i]=(N.take i++N[i]::N.drop (i+1)).idxOf N[i]:=by rw [<-e]
 rw [h2,List.idxOf_append,if_neg hn,List.idxOf_cons_self,List.length_take]
 omega
def AtQ (s:Za5) (ch:List Int) (A us:List Int):Prop:=A.length=s.1.length/\∀ q,inR s.1.length q->atI A q=(ZGn s ch us).2.2 q
def AtX (s:Za5) (σ:ZGz) (c:Int) (A:List Int) (x:Int):Prop:=A.length=s.1.length/\atI A c=x/\∀ q,inR s.1.length q->q≠c->atI A q=σ.2.2 q
theorem AtX.set {s:Za5} {σ:ZGz} {c:Int} {A:List Int} {x:Int} (h:AtX s σ c A x) (hc:inR s.1.length c) (y:Int):AtX s σ c (Zaq A c y) y:=by
 have hl:inR A.length c:=by rw [h.1];exact hc
 refine ⟨by rw [Zay];exact h.1,by rw [Za3 hl hc.1,if_pos rfl],fun q hq hne=>?_⟩
 rw [Za3 hl hq.1,if_neg hne];exact h.2.2 q hq hne
section
variable {s:Za5} (X:Ctx s) {ch:List Int} (hs:Zdi s ch)
include X
theorem ZG2 (i:Int):(Zar s.1 i).2.2.length<=1000:=by
 unfold Zar
 cases h:s.1[i.toNat]? with
 | none=>simp
 | some x=>have:=(X.h.g.w x (List.mem_of_getElem? h)).k;simp;omega
theorem ZGI:∀ vs:List Int,∀ x∈(ZGn s ch vs).1,x.2.2.length<=1000:=fun vs=>by
 suffices ∀ (vs:List Int) (σ:ZGz),(∀ x∈σ.1,x.2.2.length<=1000)->∀ x∈(vs.foldl (ZGo s ch) σ).1,x.2.2.length<=1000 from
  this vs _ fun x hx=>(X.h.g.w x hx).k
 intro vs
 induction vs with
 | nil=>exact fun _ h=>h
 | cons c vs ih=>
  refine fun σ h=>ih _ ?_
  unfold ZGo
  split
  ·exact h
  ·intro x hx
   rcases List.mem_append.1 hx with hx | hx
   ·exact h x hx
   ·rw [List.mem_singleton.1 hx]
    show ((Zbh s (atI ch c)).map σ.2.2).length<=1000
    rw [List.length_map,Zbw X];exact ZG2 X _
abbrev ExV:=Int×List Int×Int×Int×Int×Int×List Zae×List Zew×List (Int×Int×Int)
noncomputable abbrev exV (s:Za5) (ch:List Int) (n:Nat) (c:Int) (A:List Int) (o1 o2 o3 o4:Int) (σ:ZGz):Option ExV:=
 N48 n s.1 s.2.1 s.2.2.1 s.2.2.2.1 s.2.2.2.2.1 s.2.2.2.2.2.1 s.2.2.2.2.2.2 (Zai s) (Zaz s) ch c A o1 o2 o3 o4 σ.1 σ.2.1 s.2.2.1
include hs
variable (o1 o2 o3 o4:Int) (hst:s.2.1.length<=10000)
include hst
theorem ZG8 {c:Int} (hc:inR s.1.length c) {ws:List Int} (hw:c∉ws) (hl:ws.length<=900) {A:List Int} (hA:AtQ s ch A ws):Ret (Zao (ZGM ch c) (0,Zaq A c (-1),o1,o2,o3,o4,(Zar s.1 (atI ch c)).1,(Zar s.1 (atI ch c)).2.1,(ZGn s ch ws).1,(ZGn s ch ws).2.1,s.2.2.1,(Zbh s (atI ch c)).map (ZGn s ch ws).2.2)) fun r=>∃ B,AtQ s ch B (ws++[c])/\r=((ZGn s ch (ws++[c])).2.2 c,B,o1,o2,o3,o4,(ZGn s ch (ws++[c])).1,(ZGn s ch (ws++[c])).2.1,s.2.2.1):=by
 have hn:=X.n
 have hM:=ZGw s ch ws
 have hMn:=hM.n
 have hMs:=hM.s
 have hk:=ZGI X (ch:=ch) ws
 have hcl:=hs.1
 have e1:=ZGv s ch ws c
 have hcc:gI ch c=some (atI ch c):=ZaB (by rw [hcl];exact hc)
 unfold AtQ at hA |-
 rw [e1]
 obtain ⟨σ,hσ⟩:∃ σ,σ=ZGn s ch ws:=⟨_,rfl⟩
 rw [<-hσ] at hM hMn hMs hk hA |-
 obtain ⟨y,hy⟩:∃ y,y=exN s ch σ.2.2 c:=⟨_,rfl⟩
 have hy1:(Zar s.1 (atI ch c)).1=y.1:=by rw [hy];rfl
 have hy2:(Zar s.1 (atI ch c)).2.1=y.2.1:=by rw [hy];rfl
 have hy3:(Zbh s (atI ch c)).map σ.2.2=y.2.2:=by rw [hy];rfl
 rw [hy1,hy2,hy3]
 have hX0:AtX s σ c A (atI A c):=⟨hA.1,rfl,fun q hq _=>hA.2 q hq⟩
 have old:y∈σ.1->∀ B,AtX s σ c B (ZGr σ.1 y)->∃ B',(B'.length=s.1.length/\∀ q,inR s.1.length q->atI B' q=(ZGo s ch σ c).2.2 q)/\((ZGr σ.1 y,B,o1,o2,o3,o4,σ.1,σ.2.1,s.2.2.1):ExV)=((ZGo s ch σ c).2.2 c,B',o1,o2,o3,o4,(ZGo s ch σ c).1,(ZGo s ch σ c).2.1,s.2.2.1):=fun hm B hB=>by
  have e:ZGo s ch σ c=(σ.1,σ.2.1,fun q=>if q=c then ZGr σ.1 y else σ.2.2 q):=by unfold ZGo;rw [<-hy,if_pos hm]
  refine ⟨B,⟨hB.1,fun q hq=>?_⟩,by rw [e];simp⟩
  rw [e]
  show _=if q=c then _ else _
  split
  ·subst ‹q=c›;exact hB.2.1
  ·exact hB.2.2 q hq ‹_›
 have new:y∉σ.1->∀ B,AtX s σ c B (σ.1.length:Int)->∃ B',(B'.length=s.1.length/\∀ q,inR s.1.length q->atI B' q=(ZGo s ch σ c).2.2 q)/\(((σ.1.length:Int),B,o1,o2,o3,o4,σ.1++[y],σ.2.1++[(atI ch c,(σ.1.length:Int),0,[],[])],s.2.2.1):ExV)=((ZGo s ch σ c).2.2 c,B',o1,o2,o3,o4,(ZGo s ch σ c).1,(ZGo s ch σ c).2.1,s.2.2.1):=fun hm B hB=>by
  have e:ZGo s ch σ c=(σ.1++[y],σ.2.1++[(atI ch c,(σ.1.length:Int),0,[],[])],fun q=>if q=c then (σ.1.length:Int) else σ.2.2 q):=by unfold ZGo;rw [<-hy,if_neg hm]
  refine ⟨B,⟨hB.1,fun q hq=>?_⟩,by rw [e];simp⟩
  rw [e]
  show _=if q=c then _ else _
  split
  ·subst ‹q=c›;exact hB.2.1
  ·exact hB.2.2 q hq ‹_›
 refine Zac (fun q:Int×List Int×Int×Int×Int×Int×Int×Int×List Zae×List Zew×List (Int×Int×Int)×List Int=>∃ (i:Nat) (B:List Int),i<=σ.1.length/\q=((i:Int),B,o1,o2,o3,o4,y.1,y.2.1,σ.1,σ.2.1,s.2.2.1,y.2.2)/\((AtX s σ c B (-1)/\y∉σ.1.take i)\/(AtX s σ c B (ZGr σ.1 y)/\y∈σ.1))) (fun q=>σ.1.length - q.1.toNat) ?_ _ ⟨0,_,by omega,rfl,.inl ⟨hX0.set hc (-1),by simp⟩⟩
 rintro _ ⟨i,B,hi,rfl,hB⟩
 have hwi:=Zab i (by omega)
 have hBl:inR B.length c:=by rcases hB with ⟨h,_⟩ | ⟨h,_⟩<;>(rw [h.1];exact hc)
 have hBc:gI B c=some (atI B c):=ZaB hBl
 have hset:∀ x,gI (Zaq B c x) c=some x:=fun x=>by
  rw [ZaB (by rw [Zay];exact hBl),Za3 hBl hc.1,if_pos rfl]
 have stop:(¬ i < σ.1.length\/¬ atI B c < 0)->Ret (ZG6 ch c (i:Int) (false,B,o1,o2,o3,o4,y.1,y.2.1,σ.1,σ.2.1,s.2.2.1,y.2.2)) (Zev (fun q:Int×List Int×Int×Int×Int×Int×Int×Int×List Zae×List Zew×List (Int×Int×Int)×List Int=>∃ (i:Nat) (B:List Int),i<=σ.1.length/\q=((i:Int),B,o1,o2,o3,o4,y.1,y.2.1,σ.1,σ.2.1,s.2.2.1,y.2.2)/\((AtX s σ c B (-1)/\y∉σ.1.take i)\/(AtX s σ c B (ZGr σ.1 y)/\y∈σ.1))) (fun q=>σ.1.length - q.1.toNat) (fun r=>∃ B,(B.length=s.1.length/\∀ q,inR s.1.length q->atI B q=(ZGo s ch σ c).2.2 q)/\r=((ZGo s ch σ c).2.2 c,B,o1,o2,o3,o4,(ZGo s ch σ c).1,(ZGo s ch σ c).2.1,s.2.2.1)) ((i:Int),B,o1,o2,o3,o4,y.1,y.2.1,σ.1,σ.2.1,s.2.2.1,y.2.2)):=fun hh=>by
  rcases hB with ⟨hB,hno⟩ | ⟨hB,hm⟩
  ·have hc1:=hB.2.1
   have hlt:atI B c < 0:=by omega
   have hil:i=σ.1.length:=by rcases hh with h | h<;>omega
   rw [hil,List.take_length] at hno
   simp only [ZG6,ZGL,hBc,hcc,hset,wq,reduceCtorEq]
   refine ⟨fun _=>⟨fun _=>⟨fun _=>?_,fun h=>absurd h ?_⟩,fun h=>absurd h ?_⟩,fun h=>absurd hlt (by omega)⟩
   ·exact new hno _ (hB.set hc _)
   all_goals simp only [List.length_cons,List.length_nil];omega
  ·have hc1:=hB.2.1
   have h0:=ZGy σ.1 y
   have hlt:¬ atI B c < 0:=by omega
   simp only [ZG6,ZGL,hBc,hcc,hset,wq,reduceCtorEq]
   refine ⟨fun h=>absurd h hlt,fun _=>?_⟩
   rw [hc1];exact old hm _ hB
 simp only [ZGM,hBc,wq,reduceCtorEq]
 refine ⟨fun hlt=>?_,fun hge=>stop (.inl (by omega))⟩
 have hil:i < σ.1.length:=by omega
 obtain ⟨z,hz⟩:=ZeS hil
 have hzk:=hk z (List.mem_of_getElem? hz)
 by_cases hneg:atI B c < 0
 ·rcases hB with ⟨hB,hno⟩ | ⟨hB,hm⟩
  ·rw [decide_eq_true hneg]
   simp only [ZG6,ZGY,hBc,ZGh hz,Zzb z _ (show z.2.2.length<=100000 by omega),wq,reduceCtorEq,hwi]
   refine ⟨fun e=>?_,fun e=>?_⟩
   ·have e':z=y:=e
    subst e'
    refine ⟨⟨i+1,_,by omega,rfl,.inr ⟨?_,List.mem_of_getElem? hz⟩⟩,by omega⟩
    rw [ZG4 hz hno];exact hB.set hc _
   ·refine ⟨⟨i+1,B,by omega,rfl,.inl ⟨hB,fun h=>?_⟩⟩,by omega⟩
    rw [List.take_add_one,hz] at h
    rcases List.mem_append.1 h with h | h
    ·exact hno h
    ·have h1:y=z:=by simpa using h
     exact e h1.symm
  ·have h0:=ZGy σ.1 y
   have:=hB.2.1
   omega
 ·rw [decide_eq_false hneg]
  exact stop (.inr hneg)
theorem ZGu {vs:List Int} (hv:PoR s ch vs):∀ (n:Nat) (c:Int),c∈vs->ZdD vs c < n->∀ (A us ws:List Int),Po s ch c us ws->ws.length<=900->AtQ s ch A us->Ret (exV s ch n c A o1 o2 o3 o4 (ZGn s ch us)) fun r=>∃ B,AtQ s ch B ws/\r=((ZGn s ch ws).2.2 c,B,o1,o2,o3,o4,(ZGn s ch ws).1,(ZGn s ch ws).2.1,s.2.2.1)
 | 0,c,hc,hz,A,us,ws,hp,hl,hA=>by have:=Zqz vs c;omega
 | n+1,c,hc,hz,A,us,ws,hp,hl,hA=>by
  have hsel:=hv.sel c hc
  have hcr:=hsel.1.1
  have hnr:inR s.1.length (atI ch c):=Zf4 X hs hcr hsel.2.1
  have hcc:gI ch c=some (atI ch c):=ZaB (by rw [hs.1];exact hcr)
  have hAc:gI A c=some (atI A c):=ZaB (by rw [hA.1];exact hcr)
  have hM:=ZGw s ch us
  have hAg:=hA.2 c hcr
  have hk1:=ZG2 X (atI ch c)
  have hkl:=Zbw (s:=s) X (atI ch c)
  show Ret (G48 (N48 n) s.1 s.2.1 s.2.2.1 s.2.2.2.1 s.2.2.2.2.1 s.2.2.2.2.2.1 s.2.2.2.2.2.2 (Zai s) (Zaz s) ch c A o1 o2 o3 o4 (ZGn s ch us).1 (ZGn s ch us).2.1 s.2.2.1) _
  simp only [G48,hAc,hcc,Za2 hnr,wq,reduceCtorEq]
  cases hp with
  | seen hm=>
   have:=(hM.g c hm).1
   refine ⟨fun _=>⟨A,hA,by rw [hAg]⟩,fun h=>absurd h (by omega)⟩
  | @new _ _ ws hno h0 hp hno2=>
   have:=hM.out c hno
   refine ⟨fun h=>absurd h (by omega),fun _=>?_⟩
   have hl':ws.length+1<=900:=by simpa using hl
   refine Zac (fun q:Int×List Int×Int×Int×Int×Int×List Int×List Zae×List Zew×List (Int×Int×Int)=>∃ (k:Nat) (B ys:List Int),k<=(Zbh s (atI ch c)).length/\AtQ s ch B ys/\PoL s ch ((Zbh s (atI ch c)).drop k) ys ws/\(∀ p∈(Zbh s (atI ch c)).take k,p∈ys)/\q=((k:Int),B,o1,o2,o3,o4,((Zbh s (atI ch c)).take k).map (ZGn s ch ys).2.2,(ZGn s ch ys).1,(ZGn s ch ys).2.1,s.2.2.1)) (fun q=>(Zbh s (atI ch c)).length - q.1.toNat) ?_ _ ⟨0,A,us,by omega,hA,hp,fun p hp=>by simp at hp,by simp⟩
   rintro _ ⟨k,B,ys,hk,hB,hP,hin,rfl⟩
   have hwk:=Zab k (by omega)
   have hBc:gI B c=some (atI B c):=ZaB (by rw [hB.1];exact hcr)
   simp only [ZGZ,hBc,wq,reduceCtorEq,hwk]
   refine ⟨fun hlt=>Zaj (by omega) hlt fun y hy hym=>?_,fun hge=>?_⟩
   ·rw [Zax] at hy
    have hkc:=ZbV X hy
    have hpm:=List.mem_of_getElem? hkc
    have hyr:=X.kids.r _ (Zav hnr) y hym
    obtain ⟨p1,p2⟩:=hsel.2.2 _ hpm
    obtain ⟨us',h1,h2⟩:=hP.step hkc
    obtain ⟨es,e1,e2,e3⟩:=h1.ext
    obtain ⟨es',f1,_,_⟩:=h2.ext
    have hl2:us'.length<=900:=by rw [f1,List.length_append] at hl';omega
    have hcy:gI (Zai s) y=some (atI (Zai s) y):=X.cget hyr
    simp only [hcy,wq,reduceCtorEq]
    refine (ZGu hv n _ p1 (by omega) B ys us' h1 hl2 hB).mono fun r _ hr=>?_
    obtain ⟨B',hB',rfl⟩:=hr
    dsimp only
    have hkeep:((Zbh s (atI ch c)).take k).map (ZGn s ch us').2.2=((Zbh s (atI ch c)).take k).map (ZGn s ch ys).2.2:=List.map_congr_left fun q hq=>by
     rw [e1,ZG0,ZGt]
     exact fun h=>e3 q h (hin q hq)
    refine ⟨fun _=>⟨⟨k+1,B',us',?_,hB',h2,fun q hq=>?_,?_⟩,?_⟩,fun h=>absurd h ?_⟩
    ·have:=ZaA hkc;omega
    ·rw [List.take_add_one,hkc] at hq
     rcases List.mem_append.1 hq with hq | hq
     ·rw [e1];exact List.mem_append_left _ (hin q hq)
     ·have:q=atI (Zai s) y:=by simpa using hq
      rw [this];exact e2
    ·rw [List.take_add_one,hkc,<-hkeep];simp
    ·have:=ZaA hkc;omega
    ·simp only [List.length_map,List.length_take,List.length_cons,List.length_nil];omega
   ·have hkn:k=(Zbh s (atI ch c)).length:=by omega
    rw [hkn,List.drop_length] at hP
    cases hP
    rw [hkn,List.take_length]
    exact (ZG8 X hs o1 o2 o3 o4 hst hcr hno2 (by omega) hB).mono fun r _ hr=>hr
end
end Go.Dat
namespace Go.Dat
open Go.Eng
set_option linter.unusedSimpArgs false
set_option linter.unusedVariables false
set_option linter.unusedSectionVars false
section
variable {s:Za5} (X:Ctx s) (hb:ZHi s) {ch:List Int} (hs:Zdi s ch) {vs:List Int} (hv:PoR s ch vs) (hst:s.2.1.length<=10000)
include X hb hs hv hst
theorem ZGD:Ret (Zao (ZGN s ch (Zcg s)) (0,0,0,0,0,0,0,s.2.2.2.2.2.1,s.2.2.2.2.2.2,List.replicate ch.length 0,s.1,s.2.1,s.2.2.1)) fun r=>r=(ZHh s ch vs,true):=by
 have hn:=X.n
 have hcl:=hs.1
 refine Zac (fun q:Int×Int×Int×Int×Int×Int×Int×Int×Int×List Int×List Zae×List Zew×List (Int×Int×Int)=>∃ (k:Nat) (A:List Int),k<=s.1.length/\A.length=s.1.length/\(∀ j:Int,0<=j->j < k->atI A j=-1)/\q=((k:Int),0,0,0,0,0,0,s.2.2.2.2.2.1,s.2.2.2.2.2.2,A,s.1,s.2.1,s.2.2.1)) (fun q=>s.1.length - q.1.toNat) ?_ _ ⟨0,_,by omega,by rw [List.length_replicate];exact hcl,fun j h1 h2=>by omega,rfl⟩
 rintro _ ⟨k,A,hk,hAl,hA,rfl⟩
 have hw:=Zab k (by omega)
 simp only [ZGN,wq,reduceCtorEq,hw,hAl]
 refine ⟨fun hlt=>?_,fun hge=>?_⟩
 ·have hkr:inR A.length (k:Int):=⟨by omega,by omega⟩
  simp only [ZaB hkr,wq,reduceCtorEq]
  refine ⟨⟨k+1,Zaq A (k:Int) (-1),by omega,by rw [Zay];exact hAl,fun j h1 h2=>?_,rfl⟩,by omega⟩
  rw [Za3 hkr h1]
  split
  ·rfl
  ·exact hA j h1 (by omega)
 ·have hAQ:AtQ s ch A []:=⟨hAl,fun q hq=>by
   rw [hA q hq.1 (by have:=hq.2;omega)]
   exact ((ZGw s ch []).out q (by simp)).symm⟩
  have hcv:gI (Zcg s).2.1 s.2.2.2.1=some (atI (Zai s) s.2.2.2.1):=X.cget X.v.va
  have hcs:gI (Zcg s).2.1 s.2.2.2.2.1=some (atI (Zai s) s.2.2.2.2.1):=X.cget X.v.st
  have hvl:=hv.len
  have hpo:=hv.po
  have p1:=Zqy hv.va
  have p2:=Zqy hv.st
  cases hpo with
  | cons h1 h2=>
   rename_i us
   cases h2 with
   | cons h2 h3=>
    cases h3
    obtain ⟨es,e1,e2,e3⟩:=h2.ext
    obtain ⟨_,_,f2,_⟩:=h1.ext
    have hul:us.length<=900:=by rw [e1,List.length_append] at hvl;omega
    simp only [hcv,hcs,F48,wq,reduceCtorEq]
    refine (ZGu X hs 0 0 s.2.2.2.2.2.1 s.2.2.2.2.2.2 hst hv 1000 _ hv.va (by omega) A [] us h1 hul hAQ).mono fun r _ hr=>?_
    obtain ⟨B,hB,rfl⟩:=hr
    dsimp only
    refine (ZGu X hs ((ZGn s ch us).2.2 (atI (Zai s) s.2.2.2.1)) 0 s.2.2.2.2.2.1 s.2.2.2.2.2.2 hst hv 1000 _ hv.st (by omega) B us vs h2 (by omega) hB).mono fun r _ hr=>?_
    obtain ⟨C,hC,rfl⟩:=hr
    have:(ZGn s ch vs).2.2 (atI (Zai s) s.2.2.2.1)=(ZGn s ch us).2.2 (atI (Zai s) s.2.2.2.1):=by
     rw [e1,ZG0,ZGt]
     exact fun h=>e3 _ h f2
    unfold ZHh
    rw [this]
theorem ZGR {r:GrT×Bool} (er:F11 s ch=some r) (h2:r.2=true):F15 s ch=some (ZHh s ch vs,true):=by
 refine Ret.eq ?_
 have hn:=X.n
 have hsl:=X.h.sl
 have hcl:=hs.1
 have hinv:=hb.inv
 simp only [F15,er,h2,Zzl X.h X.v,wq,reduceCtorEq]
 refine ⟨fun _=>?_,fun h=>absurd h (by omega)⟩
 refine Zac (fun q:Int×Int×Int×Int×Int×Int×Int×Int×Int×List Zae×List (Int×Int×Int)=>∃ k:Nat,k<=s.1.length/\q=((k:Int),0,0,0,0,0,0,s.2.2.2.2.2.1,s.2.2.2.2.2.2,s.1.take k,s.2.2.1)) (fun q=>s.1.length - q.1.toNat) ?_ _ ⟨0,by omega,by simp⟩
 rintro _ ⟨k,hk,rfl⟩
 have hw:=Zab k (by omega)
 simp only [ZHb,wq,reduceCtorEq,hw]
 refine ⟨fun hlt=>Zaj (by omega) hlt fun x hx hxm=>?_,fun hge=>?_⟩
 ·rw [Zax] at hx
  have hxk:=(X.h.g.w x hxm).k
  refine ⟨fun _=>⟨fun _=>⟨⟨k+1,by omega,?_⟩,by omega⟩,fun h=>absurd h ?_⟩,fun h=>absurd h (by omega)⟩
  ·rw [List.take_add_one,hx];rfl
  ·simp only [List.length_take,List.length_cons,List.length_nil];omega
 ·have hkn:k=s.1.length:=by omega
  subst hkn
  rw [List.take_length]
  refine Zac (fun q:Int×Int×Int×Int×Int×Int×Int×Int×Int×List Zae×List Zew×List (Int×Int×Int)=>∃ k:Nat,k<=s.2.1.length/\q=((k:Int),0,0,0,0,0,0,s.2.2.2.2.2.1,s.2.2.2.2.2.2,s.1,s.2.1.take k,s.2.2.1)) (fun q=>s.2.1.length - q.1.toNat) ?_ _ ⟨0,by omega,by simp⟩
  rintro _ ⟨k,hk,rfl⟩
  have hw:=Zab k (by omega)
  simp only [ZHa,wq,reduceCtorEq,hw]
  refine ⟨fun hlt=>Zaj (by omega) hlt fun x hx hxm=>?_,fun hge=>?_⟩
  ·rw [Zax] at hx
   obtain ⟨b1,b2⟩:=hb.steps x hxm
   refine ⟨fun _=>⟨fun _=>⟨fun _=>⟨⟨k+1,by omega,?_⟩,by omega⟩,fun h=>absurd h ?_⟩,fun h=>absurd h (by omega)⟩,fun h=>absurd h (by omega)⟩
   ·rw [List.take_add_one,hx];rfl
   ·simp only [List.length_take,List.length_cons,List.length_nil];omega
  ·have hkn:k=s.2.1.length:=by omega
   subst hkn
   rw [List.take_length]
   refine ⟨fun _=>?_,fun h=>absurd h (by omega)⟩
   exact ZGD X hb hs hv hst
end
theorem ZG3 (a:List Zae) (hl:a.length<=1000000) (hk:∀ x∈a,x.2.2.length<=100000):F49 a a=some true:=by
 refine Ret.eq ?_
 simp only [F49,wq,reduceCtorEq]
 refine Zac (fun i:Int=>∃ k:Nat,i=k/\k<=a.length) (fun i=>a.length - i.toNat) ?_ _ ⟨0,rfl,by omega⟩
 rintro _ ⟨k,rfl,hk1⟩
 have hw:=Zab k (by omega)
 simp only [Z94,wq,reduceCtorEq,hw]
 refine fun hlt=>Zaj (by omega) hlt fun x hx hxm=>?_
 have e:decide (x=x)=true:=decide_eq_true rfl
 simp only [Za4 hx,Zzb x x (hk x hxm),e,wq,reduceCtorEq]
 exact ⟨⟨k+1,rfl,by omega⟩,by omega⟩
theorem ZGE (a:List Zew) (hl:a.length<=1000000) (hk:∀ x∈a,x.2.2.2.1.length<=100000/\x.2.2.2.2.length<=100000):F50 a a=some true:=by
 refine Ret.eq ?_
 simp only [F50,wq,reduceCtorEq]
 refine Zac (fun i:Int=>∃ k:Nat,i=k/\k<=a.length) (fun i=>a.length - i.toNat) ?_ _ ⟨0,rfl,by omega⟩
 rintro _ ⟨k,rfl,hk1⟩
 have hw:=Zab k (by omega)
 simp only [Z91,wq,reduceCtorEq]
 refine fun hlt=>Zaj (by omega) hlt fun x hx hxm=>?_
 obtain ⟨h1,h2⟩:=hk x hxm
 have e:decide (x.2.2.2.1=x.2.2.2.1)=true:=decide_eq_true rfl
 simp only [Za4 hx,Zzv x.2.2.2.1 x.2.2.2.1 (by omega),e,ZHd,wq,reduceCtorEq,hw]
 refine Zac (fun i:Int=>∃ n:Nat,i=n/\n<=x.2.2.2.2.length) (fun i=>x.2.2.2.2.length - i.toNat) ?_ _ ⟨0,rfl,by omega⟩
 rintro _ ⟨m,rfl,hm'⟩
 have hwm:=Zab m (by omega)
 simp only [ZHc,wq,reduceCtorEq,hw]
 refine ⟨fun hlt2=>Zaj (by omega) hlt2 fun z hz _=>?_,fun _=>⟨⟨k+1,rfl,by omega⟩,by show a.length - (((k+1:Nat):Int)).toNat < a.length - ((k:Int)).toNat;omega⟩⟩
 simp only [Za4 hz,wq,reduceCtorEq,hwm]
 exact ⟨⟨m+1,rfl,by omega⟩,by omega⟩
theorem ZGF (g:GrT) (hl:g.2.2.1.length<=1000000) (hk:∀ x∈g.2.2.1,x.2.2.length<=100000):F16 g g=some true:=by
 refine Ret.eq ?_
 simp only [F16,ZG3 _ hl hk,Z9B,wq,reduceCtorEq]
theorem ZGS {s:Za5} (hb:ZHi s) (ch:List Int):∀ vs:List Int,∀ x∈(ZGn s ch vs).2.1,x.2.2.2.1.length<=1000/\x.2.2.2.2.length<=1000:=fun vs=>by
 suffices ∀ (vs:List Int) (σ:ZGz),(∀ x∈σ.2.1,x.2.2.2.1.length<=1000/\x.2.2.2.2.length<=1000)->∀ x∈(vs.foldl (ZGo s ch) σ).2.1,x.2.2.2.1.length<=1000/\x.2.2.2.2.length<=1000 from
  this vs _ fun x hx=>hb.steps x hx
 intro vs
 induction vs with
 | nil=>exact fun _ h=>h
 | cons c vs ih=>
  refine fun σ h=>ih _ ?_
  unfold ZGo
  split
  ·exact h
  ·intro x hx
   rcases List.mem_append.1 hx with hx | hx
   ·exact h x hx
   ·rw [List.mem_singleton.1 hx];simp
structure ZHk (r:Za5×Bool):Prop where
 n:r.1.1.length<=1000000
 k:∀ x∈r.1.1,x.2.2.length<=100000
 s:r.1.2.1.length<=1000000
 v:∀ x∈r.1.2.1,x.2.2.2.1.length<=100000/\x.2.2.2.2.length<=100000
theorem ZHk.zero:ZHk (([],[],[],0,0,0,0),false):=⟨by simp,(fun x hx=>by cases hx),by simp,fun x hx=>by cases hx⟩
theorem ZGG {s:Za5} (h:ZmA s) (hn:s.1.length<=900) (hb:ZHi s) (hst:s.2.1.length<=10000) (ch:List Int):∃ r,ZHk r/\F14 s ch=some r/\F15 s ch=some r:=by
 obtain ⟨r,er,hr⟩:=Z4P h hn ch
 cases h2:r.2
 ·refine ⟨_,.zero,?_,?_⟩
  ·refine Ret.eq ?_
   simp only [F14,Zzi s h,wq,reduceCtorEq]
   cases hv:ZdT s
   ·simp only [cond_false,wq,reduceCtorEq]
   ·simp only [cond_true,Z5s h hn (Zel.1 hv) ch er,h2,wq,reduceCtorEq]
  ·refine Ret.eq ?_
   simp only [F15,er,h2,wq,reduceCtorEq]
 ·rcases hr with ⟨_,rfl⟩ | ⟨hv,hs,hq⟩
  ·cases h2
  ·have X:Ctx s:=⟨h,hv,hn⟩
   rcases hq with ⟨_,rfl⟩ | ⟨vs,hvs,_⟩
   ·cases h2
   ·have hI:=ZGw s ch vs
    have hvl:=hvs.len
    have hIn:=hI.n
    have hIs:=hI.s
    refine ⟨_,⟨?_,?_,?_,?_⟩,ZGQ X hb hs hvs er h2,ZGR X hb hs hvs hst er h2⟩
    ·show (ZGn s ch vs).1.length<=_;omega
    ·exact fun x hx=>by have:=ZGI X (ch:=ch) vs x hx;omega
    ·show (ZGn s ch vs).2.1.length<=_;omega
    ·exact fun x hx=>by have:=ZGS hb ch vs x hx;omega
theorem ZGH {s:Za5} (h:ZmA s) (hn:s.1.length<=900) {ch:List Int} {r:GrT×Bool} (er:F11 s ch=some r):r.1.1=ByteArray.empty/\∀ x∈r.1.2.2.1,x.2.2.length<=100000:=by
 obtain ⟨r',er',hr⟩:=Z4P h hn ch
 rw [er] at er'
 obtain rfl:=Option.some.inj er'
 have no:(noG:GrT).1=ByteArray.empty/\∀ x∈(noG:GrT).2.2.1,x.2.2.length<=100000:=⟨rfl,fun x hx=>by cases hx⟩
 rcases hr with ⟨_,rfl⟩ | ⟨hv,hs,hq⟩
 ·exact no
 ·have X:Ctx s:=⟨h,hv,hn⟩
  rcases hq with ⟨_,rfl⟩ | ⟨vs,hvs,rfl⟩
  ·exact no
  ·cases wfB (grS s ch vs)
   ·exact no
   ·exact ⟨rfl,fun x hx=>by have:=(Zz0 X hs hvs).k x hx;omega⟩
theorem ZGT {l:List Int} {s:Za5} (h:Zjo s.1 14/\Zzu l s):ZHi s:=by
 refine ⟨by rw [h.2.rest.1];simp,fun x hx=>?_⟩
 have:=(h.2.steps x hx).2.2.2
 rw [this];simp
theorem ZGp (l pairs which raw:List Int) (at' by':Int) (hl:∀ x∈l,I64 x):F3 l pairs which raw at' by'=some true:=by
 refine Ret.eq ?_
 simp only [F3,wq,reduceCtorEq]
 refine (Z1D l pairs hl).mono fun s _ hq=>?_
 have h:=Zzu.satH hq
 have hn:s.1.length<=900:=by have:=hq.1.len;omega
 have hb:=ZGT hq
 have hst:s.2.1.length<=10000:=by have:=hq.2.sl;omega
 refine (Z5L h hn which).mono fun ch _ hch=>?_
 have hcl:=hch.len
 have key:∀ bent:List Int,Ret (ZB4 raw s ch bent) fun b=>b=true:=fun bent=>by
  simp only [ZB4]
  refine Zac (fun q:Int×List (List Int)=>∃ k:Nat,k<=3/\q=((k:Int),[ch,bent,raw])) (fun q=>3 - q.1.toNat) ?_ _ ⟨0,by omega,rfl⟩
  rintro _ ⟨k,hk,rfl⟩
  have hw:=Zab k (by omega)
  simp only [ZB7,wq,reduceCtorEq]
  refine ⟨fun hlt=>Zaj (by omega) hlt fun c hc hm=>?_,fun hge=>⟨true,rfl,rfl⟩⟩
  have hk3:k < 3:=by simp at hlt;omega
  obtain ⟨r,er,hr⟩:=Z4P h hn c
  have e1:=ZAY h hn c
  have e2:=ZHe h hn c
  have e3:=Z5D h hn er
  obtain ⟨z,hz,m1,m2⟩:=ZGG h hn hb hst c
  obtain ⟨nm,hk2⟩:=ZGH h hn er
  have g:=ZGF r.1 (by have:=Z5t h hn er;omega) hk2
  have n1:=ZG3 z.1.1 hz.n hz.k
  have n2:=ZGE z.1.2.1 hz.s hz.v
  have hs:F17 z.1 z.1=some true:=by
   refine Ret.eq ?_
   simp only [F17,Z8T,n1,n2,wq,reduceCtorEq]
  have hbe:ByteArray.empty.toList=(ByteArray.mk #[]).toList:=rfl
  simp only [Za4 hc,e1,er,e2,e3,m1,m2,g,hs,nm,ZB8,hbe,wq,reduceCtorEq,hw]
  exact ⟨⟨k+1,by omega,rfl⟩,by omega⟩
 refine ⟨fun _=>⟨fun hpos=>?_,fun _=>key ch⟩,fun hh=>absurd hh (by omega)⟩
 refine Zdc (by omega) (by omega) fun r r0 r1=>?_
 refine Zdc (by rw [Zau (by omega) (by omega)];omega) (by rw [Zau (by omega) (by omega)];omega) fun b _ _=>?_
 refine Zaj r0 (by omega) fun y hy _=>?_
 simp only [Za4 hy]
 exact key _
theorem ZGq (x0 x1 x2 x3:List Int) (x4 x5:Int) (_:x0.length<=9223372036854775807) (hw0:∀ x∈x0,I64 x) (_:x1.length<=9223372036854775807) (_:∀ x∈x1,I64 x) (_:x2.length<=9223372036854775807) (_:∀ x∈x2,I64 x) (_:x3.length<=9223372036854775807) (_:∀ x∈x3,I64 x) (_:I64 x4) (_:I64 x5):F3 x0 x1 x2 x3 x4 x5=some true:=
 ZGp x0 x1 x2 x3 x4 x5 hw0
end Go.Dat
