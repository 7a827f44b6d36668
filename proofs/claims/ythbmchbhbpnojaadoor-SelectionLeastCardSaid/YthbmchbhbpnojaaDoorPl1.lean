/-
 Whether a graph is well formed: the program's answer.
-/
import Derived.Test.YthbmchbhbpnojaaDoorPl0
namespace Go.Dat
open Go.Eng
set_option linter.unusedSimpArgs false
set_option linter.unusedVariables false
set_option linter.unusedSectionVars false

theorem atI_rep0 (n:Nat) (q:Int):atI (List.replicate n 0) q=0:=by
 unfold atI
 cases h:(List.replicate n (0:Int))[q.toNat]? with
 | none=>rfl
 | some r=>exact (List.mem_replicate.1 (List.mem_of_getElem? h)).2
theorem bv32 {a:Nat} (ha:a < 65536):(BitVec.ofInt 32 (a:Int)).toNat=a:=by
 rw [BitVec.toNat_ofInt];omega
theorem bitsI_u32 (b:BitVec 32):bitsI .u32 b=(b.toNat:Int):=by
 have:b.toNat < 4294967296:=b.isLt
 exact wrap_u32 (n:=((b.toNat:Nat):Int)) (by omega) (by omega)
theorem or32 {a b:Nat} (ha:a < 65536) (hb:b < 65536):∃ c:Nat,bitsI .u32 (BitVec.ofInt (IntKind.bits .u32) (a:Int) ||| BitVec.ofInt (IntKind.bits .u32) (b:Int))=(c:Int)/\c < 65536/\∀ j,c.testBit j=(a.testBit j||b.testBit j):=by
 refine ⟨a ||| b,?_,Nat.or_lt_two_pow (n:=16) ha hb,fun j=>Nat.testBit_or a b j⟩
 rw [show bitsI .u32 (BitVec.ofInt (IntKind.bits .u32) (a:Int) ||| BitVec.ofInt (IntKind.bits .u32) (b:Int))=((BitVec.ofInt 32 (a:Int) ||| BitVec.ofInt 32 (b:Int)).toNat:Int) from bitsI_u32 _,BitVec.toNat_or,bv32 ha,bv32 hb]
theorem bit32 {i:Nat} (hi:i < 16):IntKind.wrap .u32 (1 * 2 ^ (min (Int.toNat (IntKind.wrap .u64 (i:Int))) (IntKind.bits .u32)))=((2 ^ i:Nat):Int)/\2 ^ i < 65536:=by
 have h1:(2:Nat) ^ i < 2 ^ 16:=Nat.pow_lt_pow_right (by omega) hi
 have h2:min (Int.toNat (IntKind.wrap .u64 (i:Int))) (IntKind.bits .u32)=i:=by
  rw [wrap_u64 (n:=(i:Int)) (by omega) (by omega)]
  show min (Int.toNat (i:Int)) 32=i
  omega
 have h3:(1 * 2 ^ i:Int)=((2 ^ i:Nat):Int):=by rw [Int.one_mul];exact (Int.natCast_pow 2 i).symm
 refine ⟨?_,h1⟩
 rw [h2,h3]
 generalize 2 ^ i=p at h1
 exact wrap_u32 (by omega) (by omega)
theorem andnot32 {a i:Nat} (ha:a < 65536) (hi:i < 16):∃ c:Nat,bitsI .u32 (BitVec.ofInt (IntKind.bits .u32) (a:Int) &&& ~~~ (BitVec.ofInt (IntKind.bits .u32) (IntKind.wrap .u32 (1 * 2 ^ (min (Int.toNat (IntKind.wrap .u64 (i:Int))) (IntKind.bits .u32))))))=(c:Int)/\c < 65536/\∀ j,c.testBit j=(a.testBit j&&decide (j≠i)):=by
 obtain ⟨h1,h2⟩:=bit32 hi
 rw [h1]
 refine ⟨(BitVec.ofInt 32 (a:Int) &&& ~~~ (BitVec.ofInt 32 ((2 ^ i:Nat):Int))).toNat,bitsI_u32 _,?_,fun j=>?_⟩
 ·rw [BitVec.toNat_and,bv32 ha]
  exact Nat.lt_of_le_of_lt Nat.and_le_left ha
 ·rw [BitVec.testBit_toNat,BitVec.getLsbD_and,BitVec.getLsbD_not,<-BitVec.testBit_toNat,<-BitVec.testBit_toNat,bv32 ha,bv32 h2,Nat.testBit_two_pow]
  by_cases hj:j < 32
  ·by_cases e:i=j
   ·subst e;simp
   ·have:j≠i:=fun h=>e h.symm
    simp [hj,e,this]
  ·have:a.testBit j=false:=Nat.testBit_lt_two_pow (Nat.lt_of_lt_of_le ha (Nat.pow_le_pow_right (show 0 < 2 by omega) (show 16<=j by omega)))
   rw [this];simp
theorem bits_zero {a:Nat} (ha:a < 65536):a=0↔∀ j:Nat,j < 16->a.testBit j=false:=by
 constructor
 ·rintro rfl j _;exact Nat.zero_testBit j
 ·intro h
  refine Nat.eq_of_testBit_eq fun j=>?_
  rw [Nat.zero_testBit]
  by_cases hj:j < 16
  ·exact h j hj
  ·exact Nat.testBit_lt_two_pow (Nat.lt_of_lt_of_le ha (Nat.pow_le_pow_right (show 0 < 2 by omega) (show 16<=j by omega)))
def BitP (v:Int) (P:Int->Prop):Prop:=∃ a:Nat,v=a/\a < 65536/\∀ j:Nat,j < 16->(a.testBit j=true↔P j)
theorem BitP.congr {v:Int} {P R:Int->Prop} (h:BitP v P) (e:∀ j:Nat,j < 16->(P j↔R j)):BitP v R:=by
 obtain ⟨a,h1,h2,h3⟩:=h
 exact ⟨a,h1,h2,fun j hj=>(h3 j hj).trans (e j hj)⟩
theorem F95_ok {l:List NodeT} (hG:GraphH l) (hg:goodN l l.length):Ret (F95 l) fun out=>out.length=l.length/\∀ i:Nat,i < l.length->BitP (atI out (i:Int)) (Dp l i):=by
 have hn:=hG.n
 simp only [F95,wq,reduceCtorEq]
 refine ⟨fun _=>?_,fun h=>absurd h (by omega)⟩
 refine ret_loop (fun q:Int×List Int=>∃ m:Nat,q.1=m/\m<=l.length/\q.2.length=l.length/\(∀ i:Nat,i < m->BitP (atI q.2 (i:Int)) (Dp l i))/\∀ i:Nat,m<=i->i < l.length->atI q.2 (i:Int)=0) (fun q=>l.length - q.1.toNat) ?_ _ ⟨0,rfl,by omega,by simp,(fun i hi=>by omega),fun i _ hi=>atI_rep0 _ _⟩
 rintro ⟨_,out⟩ ⟨m,rfl,hm,hol,hP,hZ⟩
 dsimp only at hol hP hZ
 have hw:=wrap_succ m (by omega)
 simp only [L95_1,wq,reduceCtorEq]
 refine ⟨fun hlt=>ret_gI (by omega) hlt fun x hx hxm=>?_,fun hge=>?_⟩
 ·rw [gI_nat] at hx
  have hml:m < l.length:=by omega
  have hkb:=kids_before hg hx
  have hkl:=hG.k x hxm
  obtain ⟨hi3,hi31⟩:=good_imm hG hg hx
  have hmo:inR out.length (m:Int):=⟨by omega,by omega⟩
  have hz:=hZ m (Nat.le_refl _) hml
  have hwd:IntKind.wrap .i64 ((x.2.2.length:Int) - 1)=(x.2.2.length:Int) - 1:=wrap_id (by omega) (by omega)
  -- through the kids
  have inner:∀ o0:List Int,o0.length=l.length->(∀ i:Nat,i≠m->atI o0 (i:Int)=atI out (i:Int))->BitP (atI o0 (m:Int)) (fun j=>x.1=3/\j=Int.tdiv x.2.1 16)->Ret (J95_1 (m:Int) x o0) (StepQ (fun q:Int×List Int=>∃ m:Nat,q.1=m/\m<=l.length/\q.2.length=l.length/\(∀ i:Nat,i < m->BitP (atI q.2 (i:Int)) (Dp l i))/\∀ i:Nat,m<=i->i < l.length->atI q.2 (i:Int)=0) (fun q=>l.length - q.1.toNat) (fun out=>out.length=l.length/\∀ i:Nat,i < l.length->BitP (atI out (i:Int)) (Dp l i)) ((m:Int),out)):=by
   intro o0 ho0 hsame h0
   unfold J95_1
   refine ret_loop (fun q:Int×List Int=>∃ k:Nat,q.1=k/\k<=x.2.2.length/\q.2.length=l.length/\(∀ i:Nat,i≠m->atI q.2 (i:Int)=atI out (i:Int))/\BitP (atI q.2 (m:Int)) (fun j=>(x.1=3/\j=Int.tdiv x.2.1 16)\/∃ t q:Nat,t < k/\x.2.2[t]?=some (q:Int)/\Dp l q j/\(x.1≠31\/j≠x.2.1\/t < x.2.2.length / 2))) (fun q=>x.2.2.length - q.1.toNat) ?_ _ ⟨0,rfl,by omega,ho0,hsame,h0.congr fun j _=>⟨.inl,fun h=>h.elim id fun ⟨t,q,h,_⟩=>by omega⟩⟩
   rintro ⟨_,o⟩ ⟨k,rfl,hk,hol2,hs2,hB⟩
   dsimp only at hol2 hs2 hB
   have hw2:=wrap_succ k (by omega)
   have hmo2:inR o.length (m:Int):=⟨by omega,by omega⟩
   simp only [L95_2,wq,reduceCtorEq,hw]
   refine ⟨fun hlt2=>ret_gI (by omega) hlt2 fun y hy hym=>?_,fun hge2=>?_⟩
   ·obtain ⟨q,rfl⟩:∃ q:Nat,y=q:=⟨y.toNat,by have:=(hkb y hym).1;omega⟩
    have hqm:q < m:=by have:=(hkb _ hym).2;omega
    rw [gI_nat] at hy
    have hqo:inR o.length (q:Int):=⟨by omega,by omega⟩
    obtain ⟨b,hb1,hb2,hb3⟩:BitP (atI o (q:Int)) (Dp l q):=by rw [hs2 q (by omega)];exact hP q hqm
    obtain ⟨a,ha1,ha2,ha3⟩:=hB
    simp only [gI_inR hqo,gI_inR hmo2,J95_2,J95_3,wq,reduceCtorEq,hw2,hb1]
    have push:∀ c:Nat,c < 65536->(∀ j:Nat,j < 16->(c.testBit j=true↔Dp l q j/\(x.1≠31\/(j:Int)≠x.2.1\/k < x.2.2.length / 2)))->(∃ k':Nat,((k+1:Nat):Int)=k'/\k'<=x.2.2.length/\(setI o (m:Int) (bitsI .u32 (BitVec.ofInt (IntKind.bits .u32) (atI o (m:Int)) ||| BitVec.ofInt (IntKind.bits .u32) (c:Int)))).length=l.length/\(∀ i:Nat,i≠m->atI (setI o (m:Int) (bitsI .u32 (BitVec.ofInt (IntKind.bits .u32) (atI o (m:Int)) ||| BitVec.ofInt (IntKind.bits .u32) (c:Int)))) (i:Int)=atI out (i:Int))/\BitP (atI (setI o (m:Int) (bitsI .u32 (BitVec.ofInt (IntKind.bits .u32) (atI o (m:Int)) ||| BitVec.ofInt (IntKind.bits .u32) (c:Int)))) (m:Int)) (fun j=>(x.1=3/\j=Int.tdiv x.2.1 16)\/∃ t q:Nat,t < k'/\x.2.2[t]?=some (q:Int)/\Dp l q j/\(x.1≠31\/j≠x.2.1\/t < x.2.2.length / 2)))/\x.2.2.length - ((k+1:Nat):Int).toNat < x.2.2.length - ((k:Int)).toNat:=by
     intro c hc hcj
     obtain ⟨d,hd1,hd2,hd3⟩:=or32 ha2 hc
     rw [ha1,hd1]
     refine ⟨⟨k+1,rfl,by omega,by rw [setI_len];exact hol2,fun i hi=>?_,d,?_,hd2,fun j hj=>?_⟩,by omega⟩
     ·rw [atI_set hmo2 (by omega),if_neg (by omega)];exact hs2 i hi
     ·rw [atI_set hmo2 (by omega),if_pos rfl]
     ·rw [hd3,Bool.or_eq_true,ha3 j hj,hcj j hj]
      constructor
      ·rintro ((h | ⟨t,q',h1,h2,h3,h4⟩) | ⟨h1,h2⟩)
       ·exact .inl h
       ·exact .inr ⟨t,q',by omega,h2,h3,h4⟩
       ·exact .inr ⟨k,q,by omega,hy,h1,h2⟩
      ·rintro (h | ⟨t,q',h1,h2,h3,h4⟩)
       ·exact .inl (.inl h)
       ·by_cases e:t < k
        ·exact .inl (.inr ⟨t,q',e,h2,h3,h4⟩)
        ·obtain rfl:t=k:=by omega
         rw [hy] at h2
         have:q=q':=by have:=Option.some.inj h2;omega
         subst this
         exact .inr ⟨h3,h4⟩
    have plain:(x.1≠31\/k < x.2.2.length / 2)->∀ j:Nat,j < 16->(b.testBit j=true↔Dp l q j/\(x.1≠31\/(j:Int)≠x.2.1\/k < x.2.2.length / 2)):=fun h j hj=>(hb3 j hj).trans ⟨fun d=>⟨d,by omega⟩,fun d=>d.1⟩
    refine ⟨fun e31=>?_,fun e31=>push b hb2 (plain (.inl e31))⟩
    obtain ⟨i0,i1,mm,hmm,m1,m2⟩:=hi31 e31
    have hd3:Int.tdiv ((x.2.2.length:Int) - 1) 2=(mm:Int):=by
     rw [hmm,Int.tdiv_eq_ediv_of_nonneg (by omega)];omega
    have hd4:IntKind.wrap .i64 (mm:Int)=mm:=wrap_id (by omega) (by omega)
    obtain ⟨im,him⟩:∃ im:Nat,x.2.1=im:=⟨x.2.1.toNat,by omega⟩
    have him16:im < 16:=by omega
    have hwu:IntKind.wrap .u64 (im:Int)=im:=wrap_u64 (by omega) (by omega)
    rw [hwd,hd3,hd4]
    refine ⟨fun hge3=>⟨fun h=>?_,fun _=>?_⟩,fun hlt3=>push b hb2 (plain (.inr (by omega)))⟩
    ·rw [him,hwu] at h;omega
    ·obtain ⟨c,hc1,hc2,hc3⟩:=andnot32 hb2 him16
     rw [him,hc1]
     have hp:=push c hc2 (fun j hj=>by
      rw [hc3,Bool.and_eq_true,hb3 j hj,decide_eq_true_eq]
      constructor
      ·rintro ⟨h1,h2⟩;exact ⟨h1,.inr (.inl (by omega))⟩
      ·rintro ⟨h1,h2⟩;exact ⟨h1,by rintro rfl;rcases h2 with h | h | h;exact absurd e31 h;omega;omega⟩)
     rw [him] at hp
     exact hp
   ·have hkk:k=x.2.2.length:=by omega
    refine ⟨⟨m+1,rfl,by omega,hol2,fun i hi=>?_,fun i hi1 hi2=>by rw [hs2 i (by omega)];exact hZ i (by omega) hi2⟩,by omega⟩
    by_cases e:i=m
    ·subst e
     refine hB.congr fun j hj=>⟨?_,fun h=>?_⟩
     ·rintro (⟨h1,h2⟩ | ⟨t,q,_,h2,h3,h4⟩)
      ·rw [h2];exact .var hx h1
      ·exact .kid hx h2 h3 h4
     ·rcases h.inv hx with ⟨h1,h2⟩ | ⟨t,q,h2,h3,h4⟩
      ·exact .inl ⟨h1,h2⟩
      ·exact .inr ⟨t,q,by have:=lt_of_get h2;omega,h2,h3,h4⟩
    ·rw [hs2 i e];exact hP i (by omega)
  refine ⟨fun e3=>?_,fun e3=>?_⟩
  ·obtain ⟨i0,i1⟩:=hi3 e3
   obtain ⟨im,him⟩:∃ im:Nat,x.2.1=im:=⟨x.2.1.toNat,by omega⟩
   have hq:Int.tdiv x.2.1 16=((im / 16:Nat):Int):=by rw [him];exact tdivN im 16
   have h16:im / 16 < 16:=by omega
   have hwq:IntKind.wrap .i64 ((im / 16:Nat):Int)=((im / 16:Nat):Int):=wrap_id (by omega) (by omega)
   have hwu:IntKind.wrap .u64 ((im / 16:Nat):Int)=((im / 16:Nat):Int):=wrap_u64 (by omega) (by omega)
   obtain ⟨b1,b2⟩:=bit32 h16
   rw [hq,hwq,b1,hwu]
   refine ⟨fun h=>by omega,fun _=>?_⟩
   rw [gI_inR hmo]
   simp only [wq,reduceCtorEq]
   refine inner _ (by rw [setI_len];exact hol) (fun i hi=>?_) ⟨2 ^ (im / 16),?_,b2,fun j hj=>?_⟩
   ·rw [atI_set hmo (by omega),if_neg (by omega)]
   ·rw [atI_set hmo (by omega),if_pos rfl]
   ·rw [Nat.testBit_two_pow,decide_eq_true_eq,hq]
    exact ⟨fun h=>⟨e3,by omega⟩,fun h=>by omega⟩
  ·refine inner out hol (fun _ _=>rfl) ⟨0,hz,by omega,fun j hj=>?_⟩
   rw [Nat.zero_testBit]
   exact ⟨fun h=>(by cases h),fun h=>absurd h.1 e3⟩
 ·have:m=l.length:=by omega
  subst this
  exact ⟨hol,hP⟩
def VarsI (l:List NodeT) (m:Nat) (vars:List Int):Prop:=vars.length=16/\∀ j:Int,0<=j->j < 16->(atI vars j=0/\∀ y∈l.take m,y.1=31->y.2.1≠j)\/∃ y∈l.take m,y.1=31/\y.2.1=j/\atI vars j=((y.2.2.length / 2:Nat):Int)/\0 < atI vars j
theorem F75_eq (g:GrT) (hW:GraphW g.2.2.1):F75 g=some (wfB g):=by
 refine Ret.eq ?_
 have hG:=hW.toGraphH
 have hn:=hG.n
 have hsl:=sortsN_len g.2.2.1 g.2.2.1.length
 simp only [F75,F34_eq _ hW,J75_1,wq,reduceCtorEq]
 cases hgb:goodB g.2.2.1
 ·simp only [cond_false,wq,reduceCtorEq]
  exact wfB_false fun w=>by (rw [goodB_true w.good] at hgb;cases hgb)
 have hg:goodN g.2.2.1 g.2.2.1.length:=by unfold goodB at hgb;simpa using hgb
 simp only [cond_true,F35_eq,wq,reduceCtorEq]
 refine ⟨fun e1=>wfB_false fun w=>e1 w.va,fun e1=>⟨fun e2=>wfB_false fun w=>e2 w.st,fun e2=>?_⟩⟩
 have rv:inR g.2.2.1.length g.2.2.2.1:=by have:=sortI_rng (l:=sortsN g.2.2.1 g.2.2.1.length) (i:=g.2.2.2.1) (by omega);rwa [hsl] at this
 have rs:inR g.2.2.1.length g.2.2.2.2:=by have:=sortI_rng (l:=sortsN g.2.2.1 g.2.2.1.length) (i:=g.2.2.2.2) (by omega);rwa [hsl] at this
 refine ret_loop (fun q:Int×List Int=>∃ m:Nat,q.1=m/\m<=g.2.2.1.length/\VarsI g.2.2.1 m q.2/\∀ i k:Nat,i < m->k < i->∀ x y,g.2.2.1[i]?=some x->g.2.2.1[k]?=some y->x.1=31->y.1=31->y.2.1≠x.2.1) (fun q=>g.2.2.1.length - q.1.toNat) ?_ _ ⟨0,rfl,by omega,⟨by simp,fun j h0 h1=>.inl ⟨atI_rep0 _ _,fun y hy=>by simp at hy⟩⟩,fun i k h=>by omega⟩
 rintro ⟨_,vars⟩ ⟨m,rfl,hm,hV,hlp⟩
 dsimp only at hV
 obtain ⟨v16,hV⟩:=hV
 have hw:=wrap_succ m (by omega)
 simp only [L75_1,J75_2,wq,reduceCtorEq,hw]
 refine ⟨fun hlt=>ret_gI (by omega) hlt fun x hx hxm=>?_,fun hge=>?_⟩
 ·rw [gI_nat] at hx
  have htake:∀ y,y∈g.2.2.1.take (m+1)↔y∈g.2.2.1.take m\/y=x:=fun y=>by
   rw [List.take_add_one,hx,List.mem_append];simp
  refine ⟨fun e31=>?_,fun e31=>⟨⟨m+1,rfl,by omega,⟨v16,fun j h0 h1=>?_⟩,fun i k hi hk x' y' hx' hy'=>?_⟩,by omega⟩⟩
  ·obtain ⟨i0,i1,mm,hmm,m1,m2⟩:=(good_imm hG hg hx).2 e31
   have hiv:inR vars.length x.2.1:=⟨i0,by omega⟩
   have hwd:IntKind.wrap .i64 ((x.2.2.length:Int) - 1)=(x.2.2.length:Int) - 1:=wrap_id (by omega) (by omega)
   have hd3:Int.tdiv ((x.2.2.length:Int) - 1) 2=(mm:Int):=by
    rw [hmm,Int.tdiv_eq_ediv_of_nonneg (by omega)];omega
   have hd4:IntKind.wrap .i64 (mm:Int)=mm:=wrap_id (by omega) (by omega)
   rw [gI_inR hiv,hwd,hd3,hd4]
   simp only [wq,reduceCtorEq]
   refine ⟨fun _=>⟨fun hpos=>wfB_false fun w=>?_,fun hz=>⟨fun _=>?_,fun h=>by omega⟩⟩,fun h=>by omega⟩
   ·rcases hV x.2.1 i0 i1 with ⟨h,_⟩ | ⟨y,hy,y1,y2,_⟩
    ·omega
    ·obtain ⟨k,hk⟩:=List.getElem?_of_mem hy
     have hkm:k < m:=by have:=lt_of_get hk;rw [List.length_take] at this;omega
     rw [List.getElem?_take_of_lt hkm] at hk
     exact w.lp m k hkm x y hx hk e31 y1 y2
   ·have hno:∀ y∈g.2.2.1.take m,y.1=31->y.2.1≠x.2.1:=by
     rcases hV x.2.1 i0 i1 with ⟨_,h⟩ | ⟨y,hy,y1,y2,_,h⟩
     ·exact h
     ·omega
    refine ⟨⟨m+1,rfl,by omega,⟨by rw [setI_len];exact v16,fun j h0 h1=>?_⟩,fun i k hi hk x' y' hx' hy'=>?_⟩,by omega⟩
    ·rw [atI_set hiv h0]
     split
     ·subst ‹j=_›
      exact .inr ⟨x,(htake x).2 (.inr rfl),e31,rfl,by rw [hmm];omega,by omega⟩
     ·rename_i hne
      rcases hV j h0 h1 with ⟨h,h2⟩ | ⟨y,hy,h⟩
      ·refine .inl ⟨h,fun y hy y1=>?_⟩
       rcases (htake y).1 hy with hy | rfl
       ·exact h2 y hy y1
       ·exact fun e=>hne e.symm
      ·exact .inr ⟨y,(htake y).2 (.inl hy),h⟩
    ·by_cases e:i < m
     ·exact hlp i k e hk x' y' hx' hy'
     ·have:i=m:=by omega
      subst this
      rw [hx] at hx';obtain rfl:=Option.some.inj hx'
      exact fun _ e2=>hno y' (List.mem_of_getElem? (by rw [List.getElem?_take_of_lt hk];exact hy')) e2
  ·rcases hV j h0 h1 with ⟨h,h2⟩ | ⟨y,hy,h⟩
   ·refine .inl ⟨h,fun y hy y1=>?_⟩
    rcases (htake y).1 hy with hy | rfl
    ·exact h2 y hy y1
    ·exact absurd y1 e31
   ·exact .inr ⟨y,(htake y).2 (.inl hy),h⟩
  ·by_cases e:i < m
   ·exact hlp i k e hk x' y' hx' hy'
   ·have:i=m:=by omega
    subst this
    rw [hx] at hx';obtain rfl:=Option.some.inj hx'
    exact fun e1=>absurd e1 e31
 ·have hmn:m=g.2.2.1.length:=by omega
  rw [List.take_of_length_le (by omega)] at hV
  have hlp':∀ i k:Nat,k < i->∀ x y,g.2.2.1[i]?=some x->g.2.2.1[k]?=some y->x.1=31->y.1=31->y.2.1≠x.2.1:=fun i k hk x y hx hy=>hlp i k (by have:=lt_of_get hx;omega) hk x y hx hy
  refine ret_loop (fun q:Int×List Int=>∃ m:Nat,q=((m:Int),vars)/\m<=g.2.2.1.length/\∀ x∈g.2.2.1.take m,x.1=3->∀ y∈g.2.2.1,y.1=31->y.2.1=Int.tdiv x.2.1 16->Int.tmod x.2.1 16 < ((y.2.2.length / 2:Nat):Int)) (fun q=>g.2.2.1.length - q.1.toNat) ?_ _ ⟨0,rfl,by omega,fun x hx=>by simp at hx⟩
  rintro _ ⟨m,rfl,hm,hlv⟩
  have hw:=wrap_succ m (by omega)
  simp only [L75_2,J75_3,J75_4,J75_5,wq,reduceCtorEq,hw]
  refine ⟨fun hlt=>ret_gI (by omega) hlt fun x hx hxm=>?_,fun hge=>?_⟩
  ·rw [gI_nat] at hx
   have nx:(x.1=3->∀ y∈g.2.2.1,y.1=31->y.2.1=Int.tdiv x.2.1 16->Int.tmod x.2.1 16 < ((y.2.2.length / 2:Nat):Int))->∃ m':Nat,(((m+1:Nat):Int),vars)=((m':Int),vars)/\m'<=g.2.2.1.length/\∀ x∈g.2.2.1.take m',x.1=3->∀ y∈g.2.2.1,y.1=31->y.2.1=Int.tdiv x.2.1 16->Int.tmod x.2.1 16 < ((y.2.2.length / 2:Nat):Int):=fun h=>by
    refine ⟨m+1,rfl,by omega,fun z hz=>?_⟩
    rw [List.take_add_one,hx] at hz
    rcases List.mem_append.1 hz with hz | hz
    ·exact hlv z hz
    ·rw [show z=x by simpa using hz];exact h
   refine ⟨fun e3=>?_,fun e3=>⟨nx fun h=>absurd h e3,by omega⟩⟩
   obtain ⟨i0,i1⟩:=(good_imm hG hg hx).1 e3
   obtain ⟨im,him⟩:∃ im:Nat,x.2.1=im:=⟨x.2.1.toNat,by omega⟩
   have hq:Int.tdiv x.2.1 16=((im / 16:Nat):Int):=by rw [him];exact tdivN im 16
   have h16:im / 16 < 16:=by omega
   have hwq:IntKind.wrap .i64 ((im / 16:Nat):Int)=((im / 16:Nat):Int):=wrap_id (by omega) (by omega)
   have hiv:inR vars.length ((im / 16:Nat):Int):=⟨by omega,by omega⟩
   rw [hq,hwq,gI_inR hiv]
   simp only [wq,reduceCtorEq]
   refine ⟨fun _=>⟨fun hpos=>⟨fun hge2=>?_,fun hlt2=>⟨nx fun _ y hy y1 y2=>?_,by omega⟩⟩,fun hz=>⟨nx fun _ y hy y1 y2=>?_,by omega⟩⟩,fun h=>by omega⟩
   ·rcases hV _ (show (0:Int)<=((im / 16:Nat):Int) by omega) (by omega) with ⟨h,_⟩ | ⟨y,hy,y1,y2,y3,_⟩
    ·omega
    ·exact wfB_false fun w=>by have:=w.lv x hxm e3 y hy y1 (by rw [y2,hq]);omega
   ·rcases hV _ (show (0:Int)<=((im / 16:Nat):Int) by omega) (by omega) with ⟨h,_⟩ | ⟨z,hz,z1,z2,z3,_⟩
    ·omega
    ·have:y=z:=by
      obtain ⟨a,ha⟩:=List.getElem?_of_mem hy
      obtain ⟨b,hb⟩:=List.getElem?_of_mem hz
      have hab:a=b:=by
       rcases Nat.lt_trichotomy a b with h | h | h
       ·exact absurd (by rw [y2,z2,hq]) (hlp' b a h z y hb ha z1 y1)
       ·exact h
       ·exact absurd (by rw [y2,z2,hq]) (hlp' a b h y z ha hb y1 z1)
      subst hab
      rw [ha] at hb
      exact Option.some.inj hb
     subst this
     omega
   ·rcases hV _ (show (0:Int)<=((im / 16:Nat):Int) by omega) (by omega) with ⟨_,h⟩ | ⟨z,hz,z1,z2,z3,z4⟩
    ·exact absurd (by rw [y2,hq]) (h y hy y1)
    ·omega
  ·have hlv':∀ x∈g.2.2.1,x.1=3->∀ y∈g.2.2.1,y.1=31->y.2.1=Int.tdiv x.2.1 16->Int.tmod x.2.1 16 < ((y.2.2.length / 2:Nat):Int):=by
    rw [List.take_of_length_le (by omega)] at hlv;exact hlv
   refine (F95_ok hG hg).mono fun out _ ⟨hol,hB⟩=>?_
   have nv:((g.2.2.2.1.toNat:Nat):Int)=g.2.2.2.1:=by have:=rv.1;omega
   have ns:((g.2.2.2.2.toNat:Nat):Int)=g.2.2.2.2:=by have:=rs.1;omega
   obtain ⟨a,a1,a2,a3⟩:=hB g.2.2.2.1.toNat (by have:=rv.2;have:=rv.1;omega)
   obtain ⟨b,b1,b2,b3⟩:=hB g.2.2.2.2.toNat (by have:=rs.2;have:=rs.1;omega)
   rw [nv] at a1
   rw [ns] at b1
   rw [gI_inR (l:=out) (i:=g.2.2.2.1) (by rw [hol];exact rv),gI_inR (l:=out) (i:=g.2.2.2.2) (by rw [hol];exact rs),a1,b1]
   simp only [wq,reduceCtorEq]
   refine ⟨fun e=>?_,fun e=>wfB_false fun w=>?_⟩
   ·have ha0:a=0:=by omega
    rw [Bool.eq_iff_iff,wfB_iff,beq_iff_eq]
    constructor
    ·intro e5
     have hb0:b=0:=by omega
     refine ⟨hg,e1,e2,hlp',hlv',fun j h0 h1=>?_⟩
     obtain ⟨jn,rfl⟩:∃ jn:Nat,j=jn:=⟨j.toNat,by omega⟩
     have hj:jn < 16:=by omega
     refine ⟨fun d=>?_,fun d=>?_⟩
     ·have:=(a3 jn hj).2 d;rw [(bits_zero a2).1 ha0 jn hj] at this;cases this
     ·have:=(b3 jn hj).2 d;rw [(bits_zero b2).1 hb0 jn hj] at this;cases this
    ·intro w
     have:b=0:=(bits_zero b2).2 fun j hj=>by
      cases h:b.testBit j
      ·rfl
      ·exact absurd ((b3 j hj).1 h) (w.dp j (by omega) (by omega)).2
     omega
   ·have:a=0:=(bits_zero a2).2 fun j hj=>by
     cases h:a.testBit j
     ·rfl
     ·exact absurd ((a3 j hj).1 h) (w.dp j (by omega) (by omega)).1
    omega
end Go.Dat
/-
 The graph of a selection: the program's answer, which is the reference's.
-/
namespace Go.Dat
open Go.Eng
set_option linter.unusedSimpArgs false
set_option linter.unusedVariables false
set_option linter.unusedSectionVars false

mutual
theorem Po.det {s:SatT} {ch:List Int} {c:Int} {vs a b:List Int}:Po s ch c vs a->Po s ch c vs b->a=b
 | .seen _,.seen _=>rfl
 | .seen h,.new h2 _ _ _=>absurd h h2
 | .new h2 _ _ _,.seen h=>absurd h h2
 | .new _ _ h1 _,.new _ _ h2 _=>by rw [PoL.det h1 h2]
theorem PoL.det {s:SatT} {ch ps:List Int} {vs a b:List Int}:PoL s ch ps vs a->PoL s ch ps vs b->a=b
 | .nil,.nil=>rfl
 | .cons h1 h2,.cons h3 h4=>by
  have e:=Po.det h1 h3
  subst e
  exact PoL.det h2 h4
end
theorem PoR.uniq {s:SatT} {ch a b:List Int} (ha:PoR s ch a) (hb:PoR s ch b):a=b:=ha.po.det hb.po
section
variable {s:SatT} {ch vs:List Int} (h:PoR s ch vs)
include h
theorem rs_vs {q:Int} (hq:RS s ch q):q∈vs:=by
 induction hq with
 | val=>exact h.va
 | st=>exact h.st
 | step _ e ih=>exact ((h.sel _ ih).2.2 _ e.2).1
theorem pth_vs {p q:Int} (hp:PthS s ch p q) (hm:p∈vs):q∈vs/\posI vs q<=posI vs p:=by
 induction hp with
 | refl=>exact ⟨hm,Int.le_refl _⟩
 | snoc _ e ih=>
  obtain ⟨a,b⟩:=ih
  obtain ⟨c,d⟩:=(h.sel _ a).2.2 _ e.2
  exact ⟨c,by omega⟩
theorem not_bad (hb:BadS s ch):False:=by
 obtain ⟨q,hq,hb⟩:=hb
 have hm:=rs_vs h hq
 rcases hb with hb | ⟨p,e,hp⟩
 ·have:=(h.sel q hm).2.1;omega
 ·obtain ⟨c,d⟩:=(h.sel q hm).2.2 p e.2
  have:=(pth_vs h hp c).2
  omega
end
theorem BldQ.uniq {s:SatT} {ch:List Int} {r r':GrT×Bool} (h:BldQ s ch r) (h':BldQ s ch r'):r=r':=by
 rcases h with ⟨b,rfl⟩ | ⟨vs,hv,rfl⟩<;>rcases h' with ⟨b',rfl⟩ | ⟨vs',hv',rfl⟩
 ·rfl
 ·exact (not_bad hv' b).elim
 ·exact (not_bad hv b').elim
 ·rw [hv.uniq hv']
structure BP (s:SatT) (ch:List Int) (st:List Int) (vs:List Int):Prop extends VsI s ch vs where
 len:st.length=s.1.length
 v:∀ q,inR s.1.length q->q∉vs->atI st q=0\/atI st q=1
 idx:∀ q∈vs,atI st q=2
abbrev OutP:=Bool×List Int×Option TabT×List Int×List Int
def VisP (s:SatT) (ch:List Int) (c:Int) (st vs:List Int) (r:OutP):Prop:=
 ∃ ok st' out,r=(ok,ch,some (tabM s),st',out)/\st'.length=s.1.length/\out.length+cntZ st'<=vs.length+cntZ st/\(ok=false->BadS s ch) /\
  (ok=true->∃ es,out=vs++es/\Po s ch c vs (vs++es)/\c∈vs++es/\BP s ch st' (vs++es)/\(∀ q,inR s.1.length q->(atI st' q=1↔atI st q=1))/\cntZ st'<=cntZ st)
section
variable {s:SatT} (X:Ctx s) {ch:List Int} (hs:SelP s ch)
theorem visitP_bad (n:Nat) (c:Int) (hc:inR s.1.length c) (st out:List Int) (hl:st.length=s.1.length):N94 (n+1) c false ch (some (tabM s)) st out=some (false,ch,some (tabM s),st,out):=by
 refine Ret.eq ?_
 have hg:gI st c=some (atI st c):=gI_inR (by rw [hl];exact hc)
 show Ret (G94 _ c false ch (some (tabM s)) st out) _
 simp only [G94,J94_1,hg,wq,reduceCtorEq]
include X hs
theorem visitP_ok:∀ (n:Nat) (c:Int),RS s ch c->∀ (st vs:List Int),BP s ch st vs->(∀ q,inR s.1.length q->atI st q=1->∃ b,PthS s ch q b/\EdS s ch b c)->cntZ st < n->vs.length+cntZ st<=900 ->
 Ret (N94 n c true ch (some (tabM s)) st vs) (VisP s ch c st vs)
 | 0,c,hc,st,vs,hB,h1,hz,hg=>by omega
 | n+1,c,hc,st,vs,hB,h1,hz,hg=>by
  have hrep:=RS.rep X hs hc
  have hal:inR st.length c:=by rw [hB.len];exact hrep.1
  have hga:gI st c=some (atI st c):=gI_inR hal
  have hgc:gI ch c=some (atI ch c):=gI_inR (by rw [hs.1];exact hrep.1)
  show Ret (G94 (N94 n) c true ch (some (tabM s)) st vs) _
  simp only [G94,J94_1,J94_2,hga,hgc,wq,reduceCtorEq,Option.bind_some]
  have bad:BadS s ch->VisP s ch c st vs (false,ch,some (tabM s),st,vs):=fun h=>⟨false,st,vs,rfl,hB.len,Nat.le_refl _,fun _=>h,fun h=>by cases h⟩
  refine ⟨fun e2=>?_,fun e2=>⟨fun e1=>?_,fun e1=>⟨fun e3=>bad ⟨c,hc,.inl e3⟩,fun e3=>?_⟩⟩⟩
  ·have hin:c∈vs:=by
    by_cases h:c∈vs
    ·exact h
    ·rcases hB.v c hrep.1 h with h | h<;>omega
   refine ⟨true,st,vs,rfl,hB.len,Nat.le_refl _,(fun h=>by cases h),fun _=>⟨[],?_⟩⟩
   rw [List.append_nil]
   exact ⟨rfl,.seen hin,hin,hB,fun _ _=>Iff.rfl,Nat.le_refl _⟩
  ·obtain ⟨b,p1,p2⟩:=h1 c hrep.1 e1
   refine bad ⟨c,hc,.inr ?_⟩
   rcases p1.head with rfl | ⟨d,h3,h4⟩
   ·exact ⟨_,p2,.refl⟩
   ·exact ⟨d,h3,h4.snoc p2⟩
  have hin:c∉vs:=fun h=>e2 (hB.idx c h)
  have em1:atI st c=0:=by rcases hB.v c hrep.1 hin with h | h;exact h;exact absurd h e1
  have hdr:=sel_rng X hs hrep.1 e3
  have hkl:=X.kids.k _ (nodeAt_mem hdr)
  have hkr:=X.kids.r _ (nodeAt_mem hdr)
  have hnd:gI (tabM s).1.1 (atI ch c)=some (nodeAt s.1 (atI ch c)):=nodeAt_get hdr
  simp only [hnd,wq,reduceCtorEq]
  have hz1:=cntZ_set hal em1 (x:=1) (by omega)
  have B1:BP s ch (setI st c 1) vs:=by
   refine ⟨hB.toVsI,by rw [setI_len];exact hB.len,fun q hq hnq=>?_,fun q hq=>?_⟩
   ·rw [atI_set hal hq.1];split
    ·exact .inr rfl
    ·exact hB.v q hq hnq
   ·rw [atI_set hal ((hB.sel q hq).1.1).1,if_neg (fun e:q=c=>hin (e▸hq))];exact hB.idx q hq
  refine ret_loop (fun o=>∃ (j:Nat) (ok:Bool) (st' out:List Int),o=((j:Int),ok,ch,some (tabM s),st',out)/\j<=(nodeAt s.1 (atI ch c)).2.2.length/\st'.length=s.1.length/\out.length+cntZ st'<=vs.length+cntZ (setI st c 1)/\(ok=false->BadS s ch) /\
   (ok=true->∃ es,out=vs++es/\PoL s ch (kidsK s (atI ch c) j) vs (vs++es)/\(∀ p∈kidsK s (atI ch c) j,p∈vs++es)/\BP s ch st' (vs++es)/\(∀ q,inR s.1.length q->(atI st' q=1↔atI (setI st c 1) q=1))/\cntZ st'<=cntZ (setI st c 1))) (fun o=>(nodeAt s.1 (atI ch c)).2.2.length - o.1.toNat) ?_ _ ⟨0,true,_,vs,rfl,by omega,by rw [setI_len];exact hB.len,Nat.le_refl _,(fun h=>by cases h),fun _=>⟨[],?_⟩⟩
  ·rintro _ ⟨j,ok,st',out,rfl,hj,hl',hc',hbad,hok⟩
   have hw:=wrap_succ j (by omega)
   simp only [L94_1,wq,reduceCtorEq,hw,Option.bind_some]
   refine ⟨fun hlt=>ret_gI (by omega) hlt fun y hy hym=>?_,fun hge=>?_⟩
   ·have hyr:=hkr y hym
    have hcg:gI (tabM s).2.1 y=some (atI (clsS s) y):=X.cget hyr
    simp only [hcg,wq,reduceCtorEq]
    rw [gI_nat] at hy
    have hgk:=kidsC_get X hy
    have hpm:atI (clsS s) y∈kidsC s (atI ch c):=List.mem_of_getElem? hgk
    have hsn:kidsK s (atI ch c) (j+1)=kidsK s (atI ch c) j++[atI (clsS s) y]:=by unfold kidsK;rw [List.take_add_one,hgk];rfl
    cases ok with
    | false=>
     obtain ⟨n',rfl⟩:∃ n',n=n'+1:=⟨n - 1,by omega⟩
     rw [visitP_bad n' _ (X.ci.rng hyr) st' out hl']
     simp only [wq,reduceCtorEq]
     exact ⟨⟨j+1,false,st',out,rfl,by omega,hl',hc',hbad,fun h=>by cases h⟩,by omega⟩
    | true=>
     obtain ⟨es,rfl,q1,q2,q3,q6,q7⟩:=hok rfl
     refine (visitP_ok n _ (.step hc ⟨e3,hpm⟩) st' (vs++es) q3 (fun q hqr h=>?_) (by omega) (by omega)).mono fun o _ ⟨ok2,st2,out2,eo,w1,w2,w3,w4⟩=>?_
     ·have hh:=(q6 q hqr).1 h
      rw [atI_set hal hqr.1] at hh
      split at hh
      ·subst ‹q=c›;exact ⟨q,.refl,e3,hpm⟩
      ·obtain ⟨b,p1,p2⟩:=h1 q hqr hh
       exact ⟨c,p1.snoc p2,e3,hpm⟩
     ·subst eo
      refine ⟨⟨j+1,ok2,st2,out2,rfl,by omega,w1,by omega,w3,fun h=>?_⟩,by omega⟩
      obtain ⟨es2,z0,z1,z2,z3,z6,z7⟩:=w4 h
      refine ⟨es++es2,?_,?_,fun p hp=>?_,?_,fun q hqr=>(z6 q hqr).trans (q6 q hqr),by omega⟩
      ·rw [<-List.append_assoc];exact z0
      ·rw [hsn,<-List.append_assoc];exact q1.snoc z1
      ·rw [<-List.append_assoc]
       rw [hsn] at hp
       rcases List.mem_append.1 hp with hp | hp
       ·exact List.mem_append_left _ (q2 p hp)
       ·rw [List.mem_singleton.1 hp];exact z2
      ·rw [<-List.append_assoc];exact z3
   ·have hal':inR st'.length c:=by rw [hl'];exact hrep.1
    have hall:kidsK s (atI ch c) j=kidsC s (atI ch c):=by unfold kidsK;rw [List.take_of_length_le (by rw [kidsC_len X];omega)]
    have hzl:=cntZ_set_le hal' (x:=2) (by omega)
    simp only [gI_inR hal',wq,reduceCtorEq]
    refine ⟨fun _=>⟨ok,_,_,rfl,by rw [setI_len];exact hl',by simp;omega,hbad,fun h=>?_⟩,fun h=>absurd h (by simp only [List.length_cons,List.length_nil];omega)⟩
    obtain ⟨es,rfl,q1,q2,q3,q6,q7⟩:=hok h
    rw [hall] at q1 q2
    have hcn:c∉vs++es:=fun hm=>by
     have h5:=q3.idx c hm
     have h6:=(q6 c hrep.1).2 (by rw [atI_set hal hrep.1.1,if_pos rfl])
     omega
    have hV:=q3.toVsI.snoc hrep hcn e3 q2
    refine ⟨es++[c],by rw [List.append_assoc],?_,by simp,⟨by rw [<-List.append_assoc];exact hV,by rw [setI_len];exact hl',fun q hq hnq=>?_,fun q hq=>?_⟩,fun q hq=>?_,by omega⟩
    ·rw [<-List.append_assoc];exact .new hin e3 q1 hcn
    ·rw [<-List.append_assoc,List.mem_append,List.mem_singleton] at hnq
     rw [atI_set hal' hq.1,if_neg (fun e=>hnq (.inr e))]
     exact q3.v q hq fun hm=>hnq (.inl hm)
    ·rw [<-List.append_assoc,List.mem_append,List.mem_singleton] at hq
     rcases hq with hq | rfl
     ·rw [atI_set hal' ((q3.sel q hq).1.1).1,if_neg (fun e:q=c=>hcn (e▸hq))];exact q3.idx q hq
     ·rw [atI_set hal' hrep.1.1,if_pos rfl]
    ·rw [atI_set hal' hq.1]
     split
     ·subst ‹q=c›;constructor<;>intro h<;>omega
     ·rename_i hne
      rw [q6 q hq,atI_set hal hq.1,if_neg hne]
  ·rw [List.append_nil]
   exact ⟨rfl,.nil,fun p hp=>by simp [kidsK] at hp,B1,fun _ _=>Iff.rfl,Nat.le_refl _⟩
theorem F74_ok:Ret (F74 (some (tabM s)) ch) fun r=>(BadS s ch/\r.2=false)\/∃ vs,PoR s ch vs/\r=(vs,true):=by
 have hn:=X.n
 have hcl:=hs.1
 simp only [F74,F52_eq X,selB_iff.2 hs,wq,reduceCtorEq,Option.bind_some,hcl,Int.toNat_natCast]
 refine ⟨fun _=>?_,fun h=>absurd h (by omega)⟩
 have hcv:gI (tabM s).2.1 (tabM s).1.2.2.2.1=some (atI (clsS s) s.2.2.2.1):=X.cget X.v.va
 have hcs:gI (tabM s).2.1 (tabM s).1.2.2.2.2.1=some (atI (clsS s) s.2.2.2.2.1):=X.cget X.v.st
 simp only [hcv,wq,reduceCtorEq]
 have B0:BP s ch (List.replicate s.1.length 0) []:=⟨⟨List.nodup_nil,fun q hq=>by cases hq⟩,by simp,fun q hq _=>.inl (atI_rep0 _ _),fun q hq=>(by cases hq)⟩
 have hc0:cntZ (List.replicate s.1.length 0)=s.1.length:=by unfold cntZ;simp
 refine Ret.mono (show Ret (F94 (atI (clsS s) s.2.2.2.1) true ch (some (tabM s)) (List.replicate s.1.length 0) []) _ from visitP_ok X hs 1000 (atI (clsS s) s.2.2.2.1) .val _ [] B0 (fun q hq h=>by rw [atI_rep0] at h;omega) (by omega) (by simp only [List.length_nil];omega)) fun o _ ⟨ok,st,out,eo,a1,a2,a3,a4⟩=>?_
 subst eo
 simp only [Option.bind_some,hcs,wq,reduceCtorEq,List.length_nil] at a2 |-
 cases ok with
 | false=>
  rw [show F94 (atI (clsS s) s.2.2.2.2.1) false ch (some (tabM s)) st out=_ from visitP_bad 999 (atI (clsS s) s.2.2.2.2.1) (X.ci.rng X.v.st) st out a1]
  simp only [wq,reduceCtorEq]
  exact .inl (a3 rfl)
 | true=>
  obtain ⟨es,b0,b1,b2,b3,b6,b7⟩:=a4 rfl
  rw [List.nil_append] at b0 b1 b2 b3
  subst b0
  refine Ret.mono (show Ret (F94 (atI (clsS s) s.2.2.2.2.1) true ch (some (tabM s)) st out) _ from visitP_ok X hs 1000 (atI (clsS s) s.2.2.2.2.1) .st st out b3 (fun q hq h=>by rw [b6 q hq,atI_rep0] at h;omega) (by omega) (by omega)) fun o _ ⟨ok2,st2,out2,eo,c1,c2,c3,c4⟩=>?_
  subst eo
  cases ok2 with
  | false=>exact .inl ⟨c3 rfl,rfl⟩
  | true=>
   obtain ⟨es2,d0,d1,d2,d3,d6,d7⟩:=c4 rfl
   exact .inr ⟨out++es2,⟨d3.toVsI,.cons b1 (.cons d1 .nil),List.mem_append_left _ b2,d2,by rw [d0] at c2;omega⟩,by rw [d0]⟩
theorem parS_max {q:Int} (hq:inR s.1.length (atI ch q)) {m:Int} (hm:0<=m) (h2:(nodeAt s.1 (atI ch q)).1=2):(if IntKind.wrap .i64 ((nodeAt s.1 (atI ch q)).2.1+1) > m then IntKind.wrap .i64 ((nodeAt s.1 (atI ch q)).2.1+1) else m)=parS s ch m q:=by
 have hx:s.1[(atI ch q).toNat]?=some (nodeAt s.1 (atI ch q)):=(gI_some (nodeAt_get hq)).2.2
 obtain ⟨i0,i1⟩:=(good_imm' X.h.g.toGraphH X.v.good hx).1 h2
 unfold parS
 rw [wrap_id (by omega) (by omega)]
 split<;>split<;>omega
theorem parM_nn (vs:List Int) (hv:∀ q∈vs,inR s.1.length (atI ch q)):0<=parM s ch vs:=by
 unfold parM
 suffices h:∀ (l:List Int) (m:Int),(∀ q∈l,inR s.1.length (atI ch q))->0<=m->0<=l.foldl (parS s ch) m from h vs 0 hv (by omega)
 intro l
 induction l with
 | nil=>intro m _ h;exact h
 | cons q l ih=>
  intro m hl h
  refine ih _ (fun p hp=>hl p (List.mem_cons_of_mem _ hp)) ?_
  have hq:=hl q (by simp)
  have hx:s.1[(atI ch q).toNat]?=some (nodeAt s.1 (atI ch q)):=(gI_some (nodeAt_get hq)).2.2
  unfold parS
  split
  ·rename_i h2
   obtain ⟨i0,i1⟩:=(good_imm' X.h.g.toGraphH X.v.good hx).1 h2.1
   rw [wrap_id (by omega) (by omega)];omega
  ·exact h
theorem F45_ok:Ret (F45 (some (tabM s)) ch) (BldQ s ch):=by
 have hn:=X.n
 have hcl:=hs.1
 simp only [F45,wq,reduceCtorEq,hcl,Int.toNat_natCast]
 refine (F74_ok X hs).mono fun r _ hr=>?_
 rcases hr with ⟨hb,e⟩ | ⟨vs,hv,rfl⟩
 ·rw [e]
  exact ⟨fun _=>.inl ⟨hb,rfl⟩,fun h=>by cases h⟩
 refine ⟨fun h=>by (cases h),fun _=>⟨fun _=>?_,fun h=>absurd h (by omega)⟩⟩
 have hvl:=hv.len
 have hsr:∀ q∈vs,inR s.1.length (atI ch q):=fun q hq=>sel_rng X hs (hv.sel q hq).1.1 (hv.sel q hq).2.1
 refine ret_loop (fun o=>∃ (k:Nat) (num:List Int),k<=vs.length/\num.length=s.1.length/\(∀ q∈vs.take k,atI num q=posI vs q)/\o=((k:Int),ByteArray.empty,0,0,0,ByteArray.empty,parM s ch (vs.take k),0,0,num,(vs.take k).map (newN s ch vs))) (fun o=>vs.length - o.1.toNat) ?_ _ ⟨0,_,by omega,by simp,(fun q hq=>by simp at hq),rfl⟩
 rintro _ ⟨k,num,hk,hnl,hnum,rfl⟩
 have hw:=wrap_succ k (by omega)
 simp only [L45_1,J45_1,wq,reduceCtorEq,Option.bind_some]
 refine ⟨fun hlt=>ret_gI (by omega) hlt fun c hc hcm=>?_,fun hge=>?_⟩
 ·have hdr:=hsr c hcm
  obtain ⟨hrep,hse,hkids⟩:=hv.sel c hcm
  have hgc:gI ch c=some (atI ch c):=gI_inR (by rw [hcl];exact hrep.1)
  have hnd:gI (tabM s).1.1 (atI ch c)=some (nodeAt s.1 (atI ch c)):=nodeAt_get hdr
  have hkl:=X.kids.k _ (nodeAt_mem hdr)
  have hkr:=X.kids.r _ (nodeAt_mem hdr)
  have hcp:posI vs c=k:=by
   rw [gI_nat] at hc
   obtain ⟨h1,h2⟩:=List.getElem?_eq_some_iff.1 hc
   unfold posI
   rw [<-h2,List.Nodup.idxOf_getElem hv.nd]
  simp only [hgc,hnd,wq,reduceCtorEq]
  refine ret_loop (fun o=>∃ j:Nat,j<=(nodeAt s.1 (atI ch c)).2.2.length/\o=((j:Int),ByteArray.empty,0,0,0,ByteArray.empty,parM s ch (vs.take k),0,0,num,(kidsK s (atI ch c) j).map (posI vs),(vs.take k).map (newN s ch vs))) (fun o=>(nodeAt s.1 (atI ch c)).2.2.length - o.1.toNat) ?_ _ ⟨0,by omega,by simp [kidsK]⟩
  rintro _ ⟨j,hj,rfl⟩
  have hw2:=wrap_succ j (by omega)
  have hkk:(kidsK s (atI ch c) j).length=j:=by unfold kidsK;rw [List.length_take,kidsC_len X];omega
  simp only [L45_2,J45_1,wq,reduceCtorEq,Option.bind_some,hw,hw2]
  refine ⟨fun hlt2=>ret_gI (by omega) hlt2 fun y hy hym=>?_,fun hge2=>?_⟩
  ·have hyr:=hkr y hym
   have hcg:gI (tabM s).2.1 y=some (atI (clsS s) y):=X.cget hyr
   rw [gI_nat] at hy
   have hgk:=kidsC_get X hy
   have hpm:atI (clsS s) y∈kidsC s (atI ch c):=List.mem_of_getElem? hgk
   have hgn:gI num (atI (clsS s) y)=some (atI num (atI (clsS s) y)):=gI_inR (by rw [hnl];exact X.ci.rng hyr)
   simp only [hcg,hgn,wq,reduceCtorEq]
   refine ⟨fun _=>⟨⟨j+1,by omega,?_⟩,by omega⟩,fun h=>absurd h (by simp only [List.length_cons,List.length_nil,List.length_map];omega)⟩
   obtain ⟨p1,p2⟩:=hkids _ hpm
   have:atI num (atI (clsS s) y)=posI vs (atI (clsS s) y):=hnum _ (by
    rw [hcp] at p2
    have h5:=posI_lt p1
    unfold posI at p2 h5
    have h6:vs.idxOf (atI (clsS s) y) < k:=by omega
    have h7:(vs.take k)[vs.idxOf (atI (clsS s) y)]?=some (atI (clsS s) y):=by
     rw [List.getElem?_take_of_lt h6,List.getElem?_eq_getElem (by omega),List.getElem_idxOf]
    exact List.mem_of_getElem? h7)
   have hsn:kidsK s (atI ch c) (j+1)=kidsK s (atI ch c) j++[atI (clsS s) y]:=by unfold kidsK;rw [List.take_add_one,hgk];rfl
   rw [this,hsn,List.map_append];rfl
  ·have hall:kidsK s (atI ch c) j=kidsC s (atI ch c):=by unfold kidsK;rw [List.take_of_length_le (by rw [kidsC_len X];omega)]
   have hgn:gI num c=some (atI num c):=gI_inR (by rw [hnl];exact hrep.1)
   have hnr:inR num.length c:=by rw [hnl];exact hrep.1
   rw [gI_nat] at hc
   have hts:vs.take (k+1)=vs.take k++[c]:=by rw [List.take_add_one,hc];rfl
   have fin:∀ p,p=parM s ch (vs.take (k+1))->(∃ (k':Nat) (num':List Int),k'<=vs.length/\num'.length=s.1.length/\(∀ q∈vs.take k',atI num' q=posI vs q)/\(((k+1:Nat):Int),ByteArray.empty,(0:Int),(0:Int),(0:Int),ByteArray.empty,p,(0:Int),(0:Int),setI num c (k:Int),(vs.take k).map (newN s ch vs)++[((nodeAt s.1 (atI ch c)).1,(nodeAt s.1 (atI ch c)).2.1,(kidsK s (atI ch c) j).map (posI vs))])=((k':Int),ByteArray.empty,0,0,0,ByteArray.empty,parM s ch (vs.take k'),0,0,num',(vs.take k').map (newN s ch vs))):=fun p hp=>by
    refine ⟨k+1,setI num c (k:Int),by omega,by rw [setI_len];exact hnl,fun q hq=>?_,?_⟩
    ·rw [hts] at hq
     have hqv:q∈vs:=by rcases List.mem_append.1 hq with hq | hq;exact List.mem_of_mem_take hq;rw [List.mem_singleton.1 hq];exact hcm
     rw [atI_set hnr ((hv.sel q hqv).1.1).1]
     split
     ·subst ‹q=c›;exact hcp.symm
     ·rcases List.mem_append.1 hq with hq | hq
      ·exact hnum q hq
      ·exact absurd (List.mem_singleton.1 hq) ‹_›
    ·rw [hp,hts,List.map_append,hall];rfl
   have hpn:=parM_nn X hs (vs.take k) (fun q hq=>hsr q (List.mem_of_mem_take hq))
   simp only [hgn,wq,reduceCtorEq]
   refine ⟨fun _=>⟨fun e2=>⟨fin _ ?_,by omega⟩,fun e2=>⟨fin _ ?_,by omega⟩⟩,fun h=>absurd h (by simp only [List.length_cons,List.length_nil,List.length_map,List.length_take];omega)⟩
   ·rw [hts,parM_snoc];exact parS_max X hs hdr hpn e2
   ·rw [hts,parM_snoc];unfold parS;rw [if_neg (fun h=>e2 h.1)]
 ·have hkn:vs.length<=k:=by omega
  rw [List.take_of_length_le hkn] at hnum
  rw [List.take_of_length_le hkn]
  have hcv:gI (tabM s).2.1 (tabM s).1.2.2.2.1=some (atI (clsS s) s.2.2.2.1):=X.cget X.v.va
  have hcs:gI (tabM s).2.1 (tabM s).1.2.2.2.2.1=some (atI (clsS s) s.2.2.2.2.1):=X.cget X.v.st
  have h1:gI num (atI (clsS s) s.2.2.2.1)=some (posI vs (atI (clsS s) s.2.2.2.1)):=by rw [gI_inR (by rw [hnl];exact X.ci.rng X.v.va),hnum _ hv.va]
  have h2:gI num (atI (clsS s) s.2.2.2.2.1)=some (posI vs (atI (clsS s) s.2.2.2.2.1)):=by rw [gI_inR (by rw [hnl];exact X.ci.rng X.v.st),hnum _ hv.st]
  simp only [hcv,hcs,h1,h2,wq,reduceCtorEq]
  rw [show ((ByteArray.empty,parM s ch vs,vs.map (newN s ch vs),posI vs (atI (clsS s) s.2.2.2.1),posI vs (atI (clsS s) s.2.2.2.2.1)):GrT)=grS s ch vs from rfl,F75_eq _ (grS_G X hs hv)]
  simp only [wq,reduceCtorEq]
  exact ⟨fun e=>.inr ⟨vs,hv,by rw [e];rfl⟩,fun e=>.inr ⟨vs,hv,by rw [e];rfl⟩⟩
end
theorem F18_eq {s:SatT} (h:SatH s) (hn:s.1.length<=900) (ch:List Int):F18 s ch=F57 s ch:=by
 obtain ⟨r,er,hr⟩:=F57_ok h hn ch
 rw [er]
 refine Ret.eq ?_
 simp only [F18,F40_eq s h,wq,reduceCtorEq]
 cases hb:validB s
 ·simp only [cond_false,wq,reduceCtorEq]
  rcases hr with ⟨_,rfl⟩ | ⟨hv,_⟩
  ·rfl
  ·rw [validB_true hv] at hb;cases hb
 ·have X:Ctx s:=⟨h,validB_iff.1 hb,hn⟩
  simp only [cond_true,wq,reduceCtorEq]
  by_cases hs:SelP s ch
  ·rcases hr with ⟨h1,_⟩ | ⟨_,_,hq⟩
   ·exact absurd ⟨X.v,hs⟩ h1
   ·exact (F45_ok X hs).mono fun r' _ h'=>h'.uniq hq
  ·have hsb:selB s ch=false:=(selB_false hs).symm
   simp only [F45,F74,F52_eq X,hsb,wq,reduceCtorEq]
   rcases hr with ⟨_,rfl⟩ | ⟨_,h2,_⟩
   ·rfl
   ·exact absurd h2 hs
theorem F46_eq (g:GrT) (hl:g.2.2.1.length<=900):F46 g=some (sumN g.2.2.1):=by
 refine Ret.eq ?_
 unfold F46
 refine ret_loop (fun q:Int×Int=>∃ k:Nat,k<=g.2.2.1.length/\q=(sumN (g.2.2.1.take k),(k:Int))) (fun q=>g.2.2.1.length - q.2.toNat) ?_ _ ⟨0,by omega,by simp [sumN]⟩
 rintro _ ⟨k,hk,rfl⟩
 have hw:=wrap_succ k (by omega)
 simp only [L46_1,wq,reduceCtorEq,hw]
 refine ⟨fun hlt=>ret_gI (by omega) hlt fun x hx _=>?_,fun hge=>?_⟩
 ·rw [gI_nat] at hx
  have hb:=sumN_bd (g.2.2.1.take k)
  rw [List.length_take] at hb
  have hc:=(F76_eq x).2.2
  simp only [(F76_eq x).1,wq,reduceCtorEq]
  refine ⟨⟨k+1,by omega,?_⟩,by omega⟩
  rw [List.take_add_one,hx,Option.toList_some,sumN_snoc,wrap_id (by omega) (by omega)]
 ·rw [List.take_of_length_le (by omega)]
theorem F19_eq {s:SatT} (h:SatH s) (hn:s.1.length<=900) (ch:List Int):F19 s ch=F27 s ch:=by
 obtain ⟨q,eq,r,er,hr,rfl⟩:=F27_ok h hn ch
 rw [eq]
 refine Ret.eq ?_
 have hl:=bldQ_len hn hr
 simp only [F19,F18_eq h hn,er,wq,reduceCtorEq,F46_eq _ hl]
 refine ⟨fun e=>?_,fun e=>by rw [e]⟩
 have:r.1=noG:=by
  rcases hr with ⟨_,rfl⟩ | ⟨_,_,⟨_,rfl⟩ | ⟨vs,_,rfl⟩⟩
  ·rfl
  ·rfl
  ·cases hw:wfB (grS s ch vs)
   ·rfl
   ·rw [hw] at e;cases e
 rw [this,e]
 simp [noG,sumN]
end Go.Dat
/-
 The nodes that the laws are tried on are well typed and distinct.
-/
namespace Go.Dat
open Go.Eng
set_option linter.unusedSimpArgs false
set_option linter.unusedVariables false
set_option linter.unusedSectionVars false

def opS (op : Int) : Int := if op ≤ 24 then 1 else 2
def kopS (l : List NodeT) (k : Int) : Int := opS (nodeAt l k).1
def ksG (op : Int) : List Int :=
 if op = 1 ∨ op = 2 ∨ op = 26 then [] else if op = 20 ∨ op = 21 then [1] else if op = 24 then [2] else if 4 ≤ op ∧ op ≤ 19 then [1, 1] else if op = 23 ∨ op = 27 ∨ op = 29 then [2, 1] else if op = 22 then [1, 1, 1] else if op = 28 then [2, 1, 1] else []
def opG (op : Int) : Prop := 1 ≤ op ∧ op ≤ 29 ∧ op ≠ 3 ∧ op ≠ 25
theorem opG_cases {op : Int} {P : Int → Prop} (h : opG op) (h1 : P 1) (h2 : P 2) (h4 : P 4) (h5 : P 5) (h6 : P 6) (h7 : P 7) (h8 : P 8) (h9 : P 9) (h10 : P 10) (h11 : P 11) (h12 : P 12) (h13 : P 13) (h14 : P 14) (h15 : P 15) (h16 : P 16) (h17 : P 17) (h18 : P 18) (h19 : P 19) (h20 : P 20) (h21 : P 21) (h22 : P 22) (h23 : P 23) (h24 : P 24) (h26 : P 26) (h27 : P 27) (h28 : P 28) (h29 : P 29) : P op := by
 obtain ⟨a, b, c, d⟩ := h
 have : op = 1 ∨ op = 2 ∨ op = 4 ∨ op = 5 ∨ op = 6 ∨ op = 7 ∨ op = 8 ∨ op = 9 ∨ op = 10 ∨ op = 11 ∨ op = 12 ∨ op = 13 ∨ op = 14 ∨ op = 15 ∨ op = 16 ∨ op = 17 ∨ op = 18 ∨ op = 19 ∨ op = 20 ∨ op = 21 ∨ op = 22 ∨ op = 23 ∨ op = 24 ∨ op = 26 ∨ op = 27 ∨ op = 28 ∨ op = 29 := by omega
 rcases this with rfl | rfl | rfl | rfl | rfl | rfl | rfl | rfl | rfl | rfl | rfl | rfl | rfl | rfl | rfl | rfl | rfl | rfl | rfl | rfl | rfl | rfl | rfl | rfl | rfl | rfl | rfl <;> assumption
structure WtN (l : List NodeT) (i : Nat) (x : NodeT) : Prop where
 op : opG x.1
 im : immM x.1 x.2.1 = true
 ks : x.2.2.map (kopS l) = ksG x.1
 lt : ∀ k ∈ x.2.2, 0 ≤ k ∧ k < i
def Wt (l : List NodeT) : Prop := ∀ (i : Nat) x, l[i]? = some x → WtN l i x
theorem opS_12 (op : Int) : opS op = 1 ∨ opS op = 2 := by unfold opS; split <;> simp
theorem ns_wt (l : List NodeT) (op imm : Int) (ks : List Int) (h : opG op) (hi : immM op imm = true) (hk : ks.length = (ksG op).length) : F67 l (op, imm, ks) (ksG op) = some (opS op) := by
 revert hi hk
 refine opG_cases (P := fun op => immM op imm = true → ks.length = (ksG op).length → F67 l (op, imm, ks) (ksG op) = some (opS op)) h ?_ ?_ ?_ ?_ ?_ ?_ ?_ ?_ ?_ ?_ ?_ ?_ ?_ ?_ ?_ ?_ ?_ ?_ ?_ ?_ ?_ ?_ ?_ ?_ ?_ ?_ ?_ <;> intro hi hk <;>
  ·simp [ksG] at hk
   simp [F67, F59_eq, F88_eq, hi, arity, ksG, opS, hk, J67_1, J67_2, J67_3, J67_4, J67_5, J67_6, J67_7, J67_8, J67_9, F89_eq, F90_eq, allV, gI]
theorem wt_sorts {l : List NodeT} (h : Wt l) : ∀ m ≤ l.length, sortsN l m = (l.take m).map fun x => opS x.1
 | 0, _ => by simp [sortsN]
 | m + 1, hm => by
  obtain ⟨x, hx⟩ := get_of_lt (l := l) (i := m) (by omega)
  have ih := wt_sorts h m (by omega)
  have hW := h m x hx
  unfold sortsN
  rw [List.take_add_one, hx, List.map_append, ← ih]
  congr 1
  have hat : ∀ k ∈ x.2.2, atI (sortsN l m) k = kopS l k := fun k hk => by
   obtain ⟨a, b⟩ := hW.lt k hk
   obtain ⟨y, hy⟩ := get_of_lt (l := l) (i := k.toNat) (by omega)
   rw [ih]
   unfold atI kopS nodeAt
   rw [List.getElem?_map, List.getElem?_take_of_lt (by omega), hy]; rfl
  have hok : okK (sortsN l m) m x = true := by
   unfold okK
   rw [List.all_eq_true]
   intro k hk
   obtain ⟨a, b⟩ := hW.lt k hk
   unfold okQ
   rw [hat k hk]
   have := opS_12 (nodeAt l k).1
   simp only [kopS, Bool.and_eq_true, decide_eq_true_eq, Bool.not_eq_true', beq_eq_false_iff_ne]
   omega
  have hks : kS (sortsN l m) x = ksG x.1 := by
   unfold kS
   rw [← hW.ks]
   exact List.map_congr_left hat
  show [sortAt l (sortsN l m) m x] = [opS x.1]
  unfold sortAt
  rw [hok, hks, cond_true]
  unfold nsM
  obtain ⟨op, imm, ks⟩ := x
  rw [ns_wt l op imm ks hW.op hW.im (by have := congrArg List.length hW.ks; simpa using this)]; rfl
theorem wt_sort {l : List NodeT} (h : Wt l) {i : Int} (hi : inR l.length i) : atI (sortsN l l.length) i = kopS l i := by
 have h1 := hi.1; have h2 := hi.2
 rw [wt_sorts h _ (Nat.le_refl _), List.take_length]
 obtain ⟨y, hy⟩ := get_of_lt (l := l) (i := i.toNat) (by omega)
 unfold atI kopS nodeAt
 rw [List.getElem?_map, hy]; rfl
theorem kopS_app {l : List NodeT} {n : NodeT} {k : Int} (h : inR l.length k) : kopS (l ++ [n]) k = kopS l k := by
 have := h.1; have := h.2
 unfold kopS nodeAt
 rw [List.getElem?_append_left (by omega)]
theorem Wt.push {l : List NodeT} (h : Wt l) {n : NodeT} (ho : opG n.1) (hi : immM n.1 n.2.1 = true) (hk : n.2.2.map (kopS l) = ksG n.1) (hr : ∀ k ∈ n.2.2, inR l.length k) : Wt (l ++ [n]) := by
 intro i x hx
 by_cases e : i < l.length
 ·rw [List.getElem?_append_left e] at hx
  obtain ⟨a, b, c, d⟩ := h i x hx
  exact ⟨a, b, by rw [← c]; exact List.map_congr_left fun k hk => kopS_app ⟨(d k hk).1, by have := (d k hk).2; omega⟩, d⟩
 ·have : i = l.length := by have := lt_of_get hx; simp at this; omega
  subst this
  rw [List.getElem?_append_right (Nat.le_refl _)] at hx
  simp at hx
  subst hx
  exact ⟨ho, hi, by rw [← hk]; exact List.map_congr_left fun k hk => kopS_app (hr k hk), fun k hk => hr k hk⟩
theorem wt_good {l : List NodeT} (h : Wt l) (hd : l.Nodup) : goodN l l.length := by
 intro i hi
 refine ⟨?_, fun j hj e => ?_⟩
 ·rw [wt_sort h ⟨by omega, by omega⟩]
  have := opS_12 (nodeAt l (i : Int)).1
  unfold kopS; omega
 ·have := (List.getElem?_inj (by omega) hd).1 e
  omega
theorem F60_ok2 {l : List NodeT} (hG : GraphH l) (hW : Wt l) (sort n : Int) (hs : ∃ i, inR l.length i ∧ kopS l i = sort) : Ret (F60 l sort n) fun r => inR l.length r ∧ kopS l r = sort := by
 have hn := hG.n
 have hsl := sortsN_len l l.length
 simp only [F60, F36_eq l hG, wq, reduceCtorEq]
 refine ret_loop (fun q : Int × List Int => ∃ m : Nat, q.1 = m ∧ m ≤ l.length ∧ q.2.length ≤ m ∧ (∀ x ∈ q.2, inR l.length x ∧ kopS l x = sort) ∧ (∀ i : Nat, i < m → kopS l (i : Int) = sort → q.2 ≠ [])) (fun q => l.length - q.1.toNat) ?_ _ ⟨0, rfl, by omega, by simp, (fun x hx => by cases hx), fun i hi => by omega⟩
 rintro ⟨i', all⟩ ⟨m, e, hm, ha, hx, hne⟩
 dsimp only at e ha hx hne
 subst e
 simp only [L60_1, J60_1, wq, reduceCtorEq]
 refine ⟨fun hlt => ?_, fun hge => ?_⟩
 ·have hw := wrap_succ m (by omega)
  have hmr : inR l.length (m : Int) := ⟨by omega, hlt⟩
  rw [gI_inR (l := sortsN l l.length) (by rw [hsl]; exact hmr), wt_sort hW hmr, hw]
  simp only [wq, reduceCtorEq]
  refine ⟨fun h => ⟨fun _ => ?_, fun h => absurd h (by simp only [List.length_cons, List.length_nil]; omega)⟩, fun h => ?_⟩
  ·refine ⟨⟨m + 1, rfl, by omega, by simp; omega, fun x h' => ?_, fun i _ _ => by simp⟩, by omega⟩
   rcases List.mem_append.1 h' with h' | h'
   ·exact hx x h'
   ·rw [List.mem_singleton.1 h']; exact ⟨hmr, h⟩
  ·refine ⟨⟨m + 1, rfl, by omega, by omega, hx, fun i hi hso => ?_⟩, by omega⟩
   by_cases e : i < m
   ·exact hne i e hso
   ·have : i = m := by omega
    subst this
    exact absurd hso h
 ·obtain ⟨i, hi, hik⟩ := hs
  have hnn : all ≠ [] := hne i.toNat (by have := hi.1; have := hi.2; omega) (by rw [show ((i.toNat : Nat) : Int) = i by have := hi.1; omega]; exact hik)
  have hpos : 0 < all.length := List.length_pos_iff.2 hnn
  refine F29_ok (by omega) (by omega) fun r r0 r1 => ?_
  rw [wrap_id (n := (all.length : Int) - 1) (by omega) (by omega), wrap_id (by omega) (by omega)]
  refine ret_gI (by omega) (by omega) fun y hy hm => ?_
  simp only [ret_eq hy]
  exact hx y hm
theorem F61_eq {op : Int} (h : opG op) {j : Nat} {x : Int} (hx : (ksG op)[j]? = some x) : F61 op (j : Int) = some x := by
 have hj : j < 3 := by
  have := lt_of_get hx
  have h2 : (ksG op).length ≤ 3 := by unfold ksG; (repeat' split) <;> simp
  omega
 revert hx
 have : j = 0 ∨ j = 1 ∨ j = 2 := by omega
 refine opG_cases (P := fun op => (ksG op)[j]? = some x → F61 op (j : Int) = some x) h ?_ ?_ ?_ ?_ ?_ ?_ ?_ ?_ ?_ ?_ ?_ ?_ ?_ ?_ ?_ ?_ ?_ ?_ ?_ ?_ ?_ ?_ ?_ ?_ ?_ ?_ ?_ <;> (intro hx; rcases this with rfl | rfl | rfl) <;> first | (simp [ksG] at hx; done) | (simp [ksG] at hx; subst hx; rfl)
theorem arity_ksG {op : Int} (h : opG op) : (arity op).1 = (ksG op).length := by
 refine opG_cases (P := fun op => (arity op).1 = (ksG op).length) h ?_ ?_ ?_ ?_ ?_ ?_ ?_ ?_ ?_ ?_ ?_ ?_ ?_ ?_ ?_ ?_ ?_ ?_ ?_ ?_ ?_ ?_ ?_ ?_ ?_ ?_ ?_ <;> rfl
theorem F63_eq (l : List NodeT) (n : NodeT) (hl : l.length ≤ 100000) (hk : ∀ x ∈ l, x.2.2.length ≤ 100000) : F63 l n = some (decide (n ∈ l)) := by
 refine Ret.eq ?_
 unfold F63
 refine ret_loop (fun i : Int => ∃ m : Nat, i = m ∧ m ≤ l.length ∧ n ∉ l.take m) (fun i => l.length - i.toNat) ?_ _ ⟨0, rfl, by omega, by simp⟩
 rintro _ ⟨m, rfl, hm, hno⟩
 have hw := wrap_succ m (by omega)
 simp only [L63_1, wq, reduceCtorEq, hw]
 refine ⟨fun hlt => ret_gI (by omega) hlt fun y hy hym => ?_, fun hge => ?_⟩
 ·rw [F68_eq y n (by have := hk y hym; omega)]
  simp only [wq, reduceCtorEq]
  rw [gI_nat] at hy
  refine ⟨fun e => ?_, fun e => ⟨⟨m + 1, rfl, by omega, ?_⟩, by omega⟩⟩
  ·symm; rw [decide_eq_true_eq]; exact e ▸ hym
  ·rw [List.take_add_one, hy, List.mem_append]
   rintro (h | h)
   ·exact hno h
   ·have h : n = y := by simpa using h
    exact e h.symm
 ·rw [List.take_of_length_le (by omega)] at hno
  symm; rw [decide_eq_false_iff_not]; exact hno
structure Good2 (l : List NodeT) (m : Nat) : Prop extends Good l m where
 wt : Wt l
 nd : l.Nodup
theorem Good2.G {l : List NodeT} {m : Nat} (h : Good2 l m) (hm : m ≤ 100) : GraphH l := ⟨by have := h.len; omega, fun x hx => by have := h.k x hx; omega⟩
theorem Good2.up {l : List NodeT} {m : Nat} (h : Good2 l m) : Good2 l (m + 1) := ⟨h.toGood.up, h.wt, h.nd⟩
theorem Good2.one {l : List NodeT} {m : Nat} (h : Good2 l m) : ∃ i, inR l.length i ∧ kopS l i = 1 := ⟨0, ⟨by omega, by have := lt_of_get h.h2; omega⟩, by unfold kopS nodeAt; rw [show (0 : Int).toNat = 0 from rfl, h.h0]; rfl⟩
theorem Good2.two {l : List NodeT} {m : Nat} (h : Good2 l m) : ∃ i, inR l.length i ∧ kopS l i = 2 := ⟨2, ⟨by omega, by have := lt_of_get h.h2; omega⟩, by unfold kopS nodeAt; rw [show (2 : Int).toNat = 2 from rfl, h.h2]; rfl⟩
def PreI (op imm : Int) : Prop := (op = 27 → 1 ≤ imm ∧ imm ≤ 2) ∧ (op ≠ 27 → op = 1 ∨ imm = 0)
theorem preI_imm {op imm : Int} (h : opG op) (hp : PreI op imm) : immM op imm = true := by
 unfold immM
 rw [decide_eq_true_eq]
 obtain ⟨h1, h2⟩ := hp
 by_cases e : op = 27
 ·have := h1 e; subst e; right; refine ⟨by omega, fun _ => by omega, ?_⟩; simp; omega
 ·rcases h2 e with h | rfl
  ·exact .inl h
  ·right; refine ⟨by omega, fun h => absurd h e, ?_⟩; (repeat' split) <;> omega
section
variable (l1 : List Int) (i : Nat) (hi : i < l1.length) (hi2 : i < 14)
 {Q : ((List NodeT) ⊕ ((Int × List NodeT) ⊕ (List NodeT))) → Prop} {out : List NodeT} (hg : Good2 out i) (hQ : ∀ o, Good2 o (i + 1) → Q (.inl o))
include hg hQ hi hi2
theorem J28_7_ok2 (n m : Int) (k : List Int) (hk : k.length ≤ 3) (hw : NodeW (n, m, k)) (ho : opG n) (him : immM n m = true) (hks : k.map (kopS out) = ksG n) (hr : ∀ x ∈ k, inR out.length x) : Ret (J28_7 (out, n, m, k)) Q := by
 have := hg.len
 simp only [J28_7, F63_eq out (n, m, k) (by omega) (fun x hx => by have := hg.k x hx; omega), wq, reduceCtorEq]
 refine ⟨fun e => ⟨fun _ => hQ _ ⟨hg.toGood.push _ hk hw, hg.wt.push ho him hks hr, ?_⟩, fun h => absurd h (by simp only [List.length_cons, List.length_nil]; omega)⟩, fun _ => hQ _ hg.up⟩
 rw [List.nodup_append]
 exact ⟨hg.nd, by simp, fun a ha b hb => by rw [List.mem_singleton.1 hb]; exact fun h => e (h ▸ ha)⟩
theorem J28_6_ok2 (n m : Int) (k : List Int) (hk : k.length ≤ 3) (hn : I64 n) (hm : I64 m) (hkw : ∀ x ∈ k, I64 x) (ho : opG n) (him : PreI n m) (hks : k.map (kopS out) = ksG n) (hr : ∀ x ∈ k, inR out.length x) : Ret (J28_6 l1 (i : Int) (out, n, m, k)) Q := by
 have t : ∀ b, (b = true → n = 23 ∨ n = 28) → Ret (J28_8 l1 (i : Int) (b, out, n, m, k)) fun a => Ret (Sum.elim J28_7 some a) Q := fun b hb => by
  cases b
  ·simp only [J28_8, wq, reduceCtorEq]
   exact J28_7_ok2 l1 i hi hi2 hg hQ n m k hk ⟨hn, hm, by show k.length ≤ 1000; omega, hkw⟩ ho (preI_imm ho him) hks hr
  ·simp only [J28_8, wq, reduceCtorEq]
   refine ret_gI (by omega) (by omega) fun y hy _ => F29_ok (by omega) (by omega) fun r r0 r1 => J28_7_ok2 l1 i hi hi2 hg hQ n r k hk ⟨hn, by constructor <;> (dsimp only; omega), by show k.length ≤ 1000; omega, hkw⟩ ho ?_ hks hr
   rcases hb rfl with rfl | rfl <;> (unfold immM; rw [decide_eq_true_eq]; right; refine ⟨r0, fun h => by omega, ?_⟩; simp; omega)
 simp only [J28_6, wq, reduceCtorEq]
 refine ⟨fun e => t _ fun _ => .inl e, fun _ => t _ fun e => .inr (by simpa using e)⟩
theorem J28_5_ok2 (x n m : Int) (rd : List Int) (hn : I64 n) (hm : I64 m) (ho : opG n) (him : n = 1 ∨ m = 0) : Ret (J28_5 l1 (i : Int) (out, x, n, m, rd)) Q := by
 simp only [J28_5, F59_eq, wq, reduceCtorEq]
 have har := arity_ksG ho
 have hgl := hg.len
 have h3 : (ksG n).length ≤ 3 := by have := arity_le n; omega
 refine ret_loop (fun q : Int × List NodeT × Int × Int × Int × List Int × List Int => ∃ j : Nat, q.1 = j ∧ q.2.2.2.2.2.2.length = j ∧ j ≤ (ksG n).length ∧ q.2.1 = out ∧ q.2.2.2.1 = n ∧ q.2.2.2.2.1 = m ∧ q.2.2.2.2.2.2.map (kopS out) = (ksG n).take j ∧ ∀ y ∈ q.2.2.2.2.2.2, inR out.length y) (fun q => 3 - q.1.toNat) ?_ _ ⟨0, rfl, rfl, by omega, rfl, rfl, rfl, rfl, fun y hy => by cases hy⟩
 rintro ⟨j', out', x', n', m', rd', k⟩ ⟨j, e1, e2, e3, e4, e5, e6, e8, e7⟩
 dsimp only at e1 e2 e4 e5 e6 e7 e8
 subst out' n' m' j'
 have kI : ∀ y ∈ k, I64 y := fun y hy => by obtain ⟨a, b⟩ := e7 y hy; constructor <;> omega
 simp only [L28_2, wq, reduceCtorEq]
 refine ⟨fun hlt => ?_, fun hge => ?_⟩
 ·obtain ⟨so, hso⟩ := get_of_lt (l := ksG n) (i := j) (by omega)
  have h12 : so = 1 ∨ so = 2 := by
   have : ∀ y ∈ ksG n, y = 1 ∨ y = 2 := by unfold ksG; (repeat' split) <;> simp
   exact this so (List.mem_of_getElem? hso)
  rw [F61_eq ho hso]
  simp only [wq, reduceCtorEq]
  refine Ret.mono (F62_ok _ _) fun rr _ _ => Ret.mono (F60_ok2 (hg.G (by omega)) hg.wt so rr.1 (by rcases h12 with rfl | rfl; exact hg.one; exact hg.two)) fun q _ ⟨hq, hqs⟩ => ?_
  have hw := wrap_succ j (by omega)
  rw [hw]
  refine ⟨fun _ => ⟨⟨j + 1, rfl, by simp; omega, by omega, ?_, fun y hy => ?_⟩, by omega⟩, fun h => absurd h (by simp only [List.length_cons, List.length_nil]; omega)⟩
  ·rw [List.map_append, e8, List.take_add_one, hso, ← hqs]; rfl
  ·rcases List.mem_append.1 hy with hy | hy
   ·exact e7 y hy
   ·rw [List.mem_singleton.1 hy]; exact hq
 ·rw [List.take_of_length_le (by omega)] at e8
  refine ⟨fun e27 => ?_, fun e27 => ?_⟩
  ·refine ret_gI (by omega) (by omega) fun y hy _ => F29_ok (by omega) (by omega) fun r r0 r1 => ?_
   have hwr : IntKind.wrap .i64 (1 + r) = 1 + r := wrap_id (by omega) (by omega)
   rw [hwr]
   exact J28_6_ok2 l1 i hi hi2 hg hQ _ _ k (by omega) hn (by constructor <;> omega) kI ho ⟨fun _ => by omega, fun h => absurd e27 h⟩ e8 e7
  ·exact J28_6_ok2 l1 i hi hi2 hg hQ _ _ k (by omega) hn hm kI ho ⟨fun h => absurd h e27, fun _ => him⟩ e8 e7
theorem J28_3_ok2 (hl : ∀ x ∈ l1, I64 x) (x n : Int) (rd : List Int) (hn : I64 n) (ho : opG n) : Ret (J28_3 l1 (i : Int) (out, x, n, 0, rd)) Q := by
 simp only [J28_3, wq, reduceCtorEq]
 refine ret_gI (by omega) (by omega) fun y hy hym => F29_ok (by omega) (by omega) fun r r0 r1 => ⟨fun _ => ?_, fun _ => ?_⟩
 ·simp only [ret_eq hy, wq, reduceCtorEq]
  exact Ret.mono (F58_ok _ _ (hl y hym)) fun w _ hw => J28_5_ok2 l1 i hi hi2 hg hQ _ _ _ _ (by constructor <;> omega) hw (by unfold opG; omega) (.inl rfl)
 ·exact J28_5_ok2 l1 i hi hi2 hg hQ _ _ _ _ hn (by decide) ho (.inr rfl)
theorem J28_4_ok2 (hl : ∀ x ∈ l1, I64 x) (b : Bool) (x n : Int) (rd : List Int) (hn : I64 n) (ho : opG n) : Ret (J28_4 l1 (i : Int) (b, out, x, n, 0, rd)) fun a => Ret (Sum.elim (J28_3 l1 (i : Int)) some a) Q := by
 cases b
 ·simp only [J28_4, wq, reduceCtorEq]
  exact J28_3_ok2 l1 i hi hi2 hg hQ hl _ _ _ hn ho
 ·simp only [J28_4, wq, reduceCtorEq]
  refine ret_gI (by omega) (by omega) fun y hy _ => F29_ok (by omega) (by omega) fun r r0 r1 => ret_gI r0 (by simp only [List.length_cons, List.length_nil]; omega) fun z hz _ => ?_
  simp only [ret_eq hz, wq, reduceCtorEq]
  have key : ∀ z ∈ ([23, 27, 28, 29, 24] : List Int), 23 ≤ z ∧ z ≤ 29 ∧ z ≠ 25 := by decide
  have hk := key z (gI_mem hz)
  exact J28_3_ok2 l1 i hi hi2 hg hQ hl _ _ _ (by constructor <;> omega) (by unfold opG; omega)
end
theorem F28_ok2 (l : List Int) (hl : ∀ x ∈ l, I64 x) (b : Bool) : Ret (F28 l b) fun o => Good2 o 14 := by
 unfold F28
 refine ret_loop (fun q : Int × List NodeT => ∃ m : Nat, q.1 = m ∧ m ≤ 14 ∧ Good2 q.2 m) (fun q => 14 - q.1.toNat) ?_ _ ⟨0, rfl, by omega, ⟨?_, ?_, ?_, rfl, rfl⟩, ?_, ?_⟩
 ·rintro ⟨i', out⟩ ⟨m, e, hm, hg⟩
  dsimp only at e hg
  subst e
  have up : ∀ k, Good2 out (m + k) := fun k => by
   induction k with
   | zero => exact hg
   | succ k ih => exact ih.up
  have fin : Ret (J28_1 l b (m : Int) (false, out)) (StepQ (fun q : Int × List NodeT => ∃ m : Nat, q.1 = m ∧ m ≤ 14 ∧ Good2 q.2 m) (fun q => 14 - q.1.toNat) (fun o => Good2 o 14) ((m : Int), out)) := by
   simp only [J28_1, wq, reduceCtorEq]
   have := up (14 - m)
   rwa [show m + (14 - m) = 14 by omega] at this
  simp only [L28_1, wq, reduceCtorEq]
  refine ⟨fun hlt => ?_, fun _ => fin⟩
  by_cases h14 : m < 14
  ·have hw := wrap_succ m (by omega)
   rw [show decide ((m : Int) < 14) = true by simp; omega]
   simp only [J28_1, wq, reduceCtorEq]
   refine ret_gI (by omega) hlt fun y hy _ => ?_
   simp only [ret_eq hy, wq, reduceCtorEq]
   refine F29_ok (by omega) (by omega) fun r r0 r1 => ?_
   have hwr : IntKind.wrap .i64 (4 + r) = 4 + r := wrap_id (by omega) (by omega)
   rw [hwr]
   have J := fun b x n rd hn ho => J28_4_ok2 l m (by omega) h14 (Q := fun a => Ret (Sum.elim (J28_2 (m : Int)) some a) (StepQ (fun q : Int × List NodeT => ∃ m : Nat, q.1 = m ∧ m ≤ 14 ∧ Good2 q.2 m) (fun q => 14 - q.1.toNat) (fun o => Good2 o 14) ((m : Int), out))) hg (fun o ho => by
    simp only [J28_2, wq, reduceCtorEq, hw]
    exact ⟨⟨m + 1, rfl, by omega, ho⟩, by omega⟩) hl b x n rd hn ho
   have hn : I64 (4 + r) := by constructor <;> omega
   have ho : opG (4 + r) := by unfold opG; omega
   exact ⟨fun _ => F29_ok (by omega) (by omega) fun _ _ _ => J _ _ _ _ hn ho, fun _ => J _ _ _ _ hn ho⟩
  ·rw [show decide ((m : Int) < 14) = false by simp; omega]
   exact fin
 ·simp
 ·intro x hx
  simp at hx
  rcases hx with rfl | rfl | rfl <;> simp
 ·intro x hx
  simp at hx
  rcases hx with rfl | rfl | rfl <;> exact ⟨by decide, by decide, by decide, fun x hx => by cases hx⟩
 ·intro i x hx
  have : i = 0 ∨ i = 1 ∨ i = 2 := by have := lt_of_get hx; simp at this; omega
  rcases this with rfl | rfl | rfl <;> (simp at hx; subst hx; exact ⟨by unfold opG; decide, by decide, rfl, fun k hk => by cases hk⟩)
 ·decide
theorem F32_ok2 {l : List NodeT} {m : Nat} (hg : Good2 l m) (hm : m ≤ 100) (sort : Int) (hs : sort = 1 ∨ sort = 2) : Ret (F32 l sort) fun r => inR l.length r ∧ kopS l r = sort := by
 have hl := hg.len
 have hlt := lt_of_get hg.h2
 obtain ⟨i0, hi0, hk0⟩ : ∃ i, inR l.length i ∧ kopS l i = sort := by rcases hs with rfl | rfl; exact hg.one; exact hg.two
 unfold F32
 rw [wrap_id (by omega) (by omega)]
 refine ret_loop (fun i : Int => i0 ≤ i ∧ i < l.length) (fun i => (i + 1).toNat) ?_ _ ⟨by have := hi0.2; omega, by omega⟩
 rintro i ⟨h1, h2⟩
 have hi : inR l.length i := ⟨by have := hi0.1; omega, h2⟩
 have hx : gI l i = some (nodeAt l i) := nodeAt_get hi
 have hW := hg.wt i.toNat (nodeAt l i) (gI_some hx).2.2
 obtain ⟨o1, o2, o3, o4⟩ := hW.op
 have hw : IntKind.wrap .i64 (i - 1) = i - 1 := wrap_id (by have := hi.1; omega) (by omega)
 have hk : kopS l i = opS (nodeAt l i).1 := rfl
 simp only [L32_1, J32_1, hx, wq, reduceCtorEq, hw]
 have nx : kopS l i ≠ sort → i0 ≤ i - 1 := fun h => by
  by_cases e : i = i0
  ·subst e; exact absurd hk0 h
  ·omega
 have go : ∀ b : Bool, (b = true ↔ kopS l i = 1) → ((b = (sort == 1)) → inR l.length i ∧ kopS l i = sort) ∧ (¬ b = (sort == 1) → (i0 ≤ i - 1 ∧ i - 1 < l.length) ∧ (i - 1 + 1).toNat < (i + 1).toNat) := fun b hb => by
  have h12 := opS_12 (nodeAt l i).1
  rw [← hk] at h12
  have key : (b = (sort == 1)) ↔ kopS l i = sort := by
   rcases hs with rfl | rfl
   ·rw [show ((1 : Int) == 1) = true from rfl]; exact hb
   ·rw [show ((2 : Int) == 1) = false from rfl]
    cases b
    ·have : ¬ kopS l i = 1 := fun h => by have := hb.2 h; cases this
     exact ⟨fun _ => by omega, fun _ => rfl⟩
    ·have := hb.1 rfl
     exact ⟨fun h => (by cases h), fun h => by omega⟩
  exact ⟨fun h => ⟨hi, key.1 h⟩, fun h => ⟨⟨nx fun e => h (key.2 e), by omega⟩, by have := hi.1; omega⟩⟩
 refine ⟨fun _ => ⟨fun _ => ⟨fun e => go true ⟨fun _ => (by rw [hk]; unfold opS; rw [if_pos e]), fun _ => rfl⟩, fun e => ⟨fun e2 => absurd e2 o4, fun e2 => go false ⟨fun h => (by cases h), fun h => (by rw [hk] at h; unfold opS at h; rw [if_neg (by omega)] at h; omega)⟩⟩⟩, fun h => by omega⟩, fun h => by have := hi.1; omega⟩
theorem mer_valid {l : List Int} (hl : ∀ x ∈ l, I64 x) {s : SatT} (h : Good s.1 14 ∧ MerQ l s) : Good2 s.1 14 ∧ ValidP s ∧ ∀ x ∈ s.2.1, kopS s.1 x.1 = kopS s.1 x.2.1 := by
 obtain ⟨o, eo, ho⟩ := F28_ok2 l hl false
 have e := h.2.nodes
 rw [eo] at e
 obtain rfl := Option.some.inj e
 obtain ⟨v, ev, hv, hv1⟩ := F32_ok2 ho (by omega) 1 (.inl rfl)
 obtain ⟨w, ew, hw, hw1⟩ := F32_ok2 ho (by omega) 2 (.inr rfl)
 have e1 := h.2.va
 have e2 := h.2.st
 rw [ev] at e1
 rw [ew] at e2
 obtain rfl := Option.some.inj e1
 obtain rfl := Option.some.inj e2
 have hst : ∀ x ∈ s.2.1, inR s.1.length x.1 ∧ inR s.1.length x.2.1 ∧ kopS s.1 x.1 = kopS s.1 x.2.1 := fun x hx => by
  obtain ⟨a, b, c, _⟩ := h.2.steps x hx
  refine ⟨a, b, ?_⟩
  unfold kopS opS
  by_cases h1 : (nodeAt s.1 x.1).1 ≤ 24 <;> by_cases h2 : (nodeAt s.1 x.2.1).1 ≤ 24
  ·rw [if_pos h1, if_pos h2]
  ·simp [h1, h2] at c
  ·simp [h1, h2] at c
  ·rw [if_neg h1, if_neg h2]
 refine ⟨ho, ⟨by have := ho.len; omega, wt_good ho.wt ho.nd, hv, by rw [wt_sort ho.wt hv, hv1], hw, by rw [wt_sort ho.wt hw, hw1], fun x hx => ?_⟩, fun x hx => (hst x hx).2.2⟩
 obtain ⟨a, b, c⟩ := hst x hx
 exact ⟨a, b, by rw [wt_sort ho.wt a, wt_sort ho.wt b, c]⟩
end Go.Dat
/-
 The least nodes of all classes form a graph: SelectionLeast as a plain law.
-/
namespace Go.Dat
open Go.Eng
set_option linter.unusedSimpArgs false
set_option linter.unusedVariables false
set_option linter.unusedSectionVars false

mutual
theorem Po.rs {s:SatT} {ch:List Int} {c:Int} {vs ws:List Int}:Po s ch c vs ws->RS s ch c->(∀ q∈vs,RS s ch q)->∀ q∈ws,RS s ch q
 | .seen _,_,hv=>hv
 | .new _ h0 hl _,hc,hv=>fun q hq=>by
  rcases List.mem_append.1 hq with hq | hq
  ·exact PoL.rs hl (fun p hp=>.step hc ⟨h0,hp⟩) hv q hq
  ·rw [List.mem_singleton.1 hq];exact hc
theorem PoL.rs {s:SatT} {ch ps:List Int} {vs ws:List Int}:PoL s ch ps vs ws->(∀ p∈ps,RS s ch p)->(∀ q∈vs,RS s ch q)->∀ q∈ws,RS s ch q
 | .nil,_,hv=>hv
 | .cons h1 h2,hp,hv=>PoL.rs h2 (fun p hm=>hp p (List.mem_cons_of_mem _ hm)) (Po.rs h1 (hp _ (by simp)) hv)
end
theorem PoR.rs {s:SatT} {ch vs:List Int} (h:PoR s ch vs):∀ q∈vs,RS s ch q:=
 PoL.rs h.po (fun p hp=>by
  rcases List.mem_cons.1 hp with rfl | hp
  ·exact .val
  ·rw [List.mem_singleton.1 hp];exact .st) (fun q hq=>by cases hq)
theorem grS_at {s:SatT} {ch vs:List Int} {q:Int} (h:q∈vs):nodeAt (grS s ch vs).2.2.1 (posI vs q)=newN s ch vs q:=by
 have:=List.idxOf_lt_length_iff.2 h
 unfold nodeAt posI grS
 simp only [Int.toNat_natCast,List.getElem?_map]
 rw [List.getElem?_eq_getElem this,List.getElem_idxOf];rfl
structure PassM (l:List NodeT) (n0:List Bool) (more:Bool) (need:List Bool) (D:Nat->Nat->Prop):Prop where
 len:need.length=l.length
 mono:∀ q,0<=q->getB n0 q=true->getB need q=true
 on:more=true->cntF need < cntF n0
 off:more=false->need=n0/\∀ i k x q,D i k->l[i]?=some x->x.2.2[k]?=some q->inR l.length q->getB n0 (i:Int)=true->getB n0 q=true
theorem PassM.le {l:List NodeT} {n0:List Bool} {more:Bool} {need:List Bool} {D:Nat->Nat->Prop} (h:PassM l n0 more need D):cntF need<=cntF n0:=by
 cases more with
 | true=>exact Nat.le_of_lt (h.on rfl)
 | false=>rw [(h.off rfl).1];exact Nat.le_refl _
theorem F50_ok {l:List NodeT} (hn:l.length<=1000) (hk:∀ x∈l,x.2.2.length<=1000) (in0:List Bool) (h0:in0.length=l.length) :
 Ret (F50 l in0) fun r=>r.length=l.length/\(∀ q,0<=q->getB in0 q=true->getB r q=true)/\∀ (i:Nat) x q,l[i]?=some x->q∈x.2.2->inR l.length q->getB r (i:Int)=true->getB r q=true:=by
 unfold F50
 refine ret_loop (fun s:Bool×List Bool=>s.2.length=l.length/\(∀ q,0<=q->getB in0 q=true->getB s.2 q=true)/\(s.1=false->∀ (i:Nat) x q,l[i]?=some x->q∈x.2.2->inR l.length q->getB s.2 (i:Int)=true->getB s.2 q=true)) (fun s=>bif s.1 then cntF s.2+1 else 0) ?_ _ ⟨h0,fun _ _ h=>h,fun h=>by cases h⟩
 rintro ⟨more,n0⟩ ⟨hl,hm,hc⟩
 dsimp only at hl hm hc
 cases more with
 | false=>
  simp only [L50_1,wq,reduceCtorEq]
  exact ⟨hl,hm,hc rfl⟩
 | true=>
  simp only [L50_1,wq,reduceCtorEq,cond_true]
  refine ret_loop (fun s:Bool×Int×List Bool=>∃ i:Nat,s.2.1=i/\i<=l.length/\PassM l n0 s.1 s.2.2 (fun a _=>a < i)) (fun s=>l.length - s.2.1.toNat) ?_ _ ⟨0,rfl,by omega,hl,(fun _ _ h=>h),(fun h=>by cases h),fun _=>⟨rfl,fun a k x q h=>by omega⟩⟩
  rintro ⟨more,_,need⟩ ⟨i,rfl,hi,hp⟩
  dsimp only at hp
  have hw:=wrap_succ i (by omega)
  simp only [L50_2,wq,reduceCtorEq]
  refine ⟨fun hlt=>?_,fun hge=>?_⟩
  ·obtain ⟨x,hx⟩:=get_of_lt (l:=l) (i:=i) (by omega)
   have hxm:=List.mem_of_getElem? hx
   have hkl:=hk x hxm
   have hgx:gI l (i:Int)=some x:=by rw [gI_nat,hx]
   have hir:inR l.length (i:Int):=⟨by omega,hlt⟩
   refine ret_loop (fun s:Bool×Int×List Bool=>∃ k:Nat,s.2.1=k/\k<=x.2.2.length/\PassM l n0 s.1 s.2.2 (fun a b=>a < i\/a=i/\b < k)) (fun s=>x.2.2.length - s.2.1.toNat) ?_ _ ⟨0,rfl,by omega,hp.len,hp.mono,hp.on,fun h=>⟨(hp.off h).1,fun a k x q hd=>(hp.off h).2 a k x q (by omega)⟩⟩
   rintro ⟨more,_,need⟩ ⟨k,rfl,hkk,hp⟩
   dsimp only at hp
   have hw2:=wrap_succ k (by omega)
   have hgi:gI need (i:Int)=some (getB need i):=gI_getB (by rw [hp.len];exact hir)
   simp only [L50_3,J50_1,J50_2,J50_3,hgx,hgi,wq,reduceCtorEq,hw,hw2,F37_eq]
   have skip:(getB need (i:Int)=true->k < x.2.2.length->False)->∃ i':Nat,((i+1:Nat):Int)=i'/\i'<=l.length/\PassM l n0 more need (fun a _=>a < i'):=fun hno=>
    ⟨i+1,rfl,by omega,hp.len,hp.mono,hp.on,fun h=>⟨(hp.off h).1,fun a b y q hd hy hq hr hg=>by
     by_cases e:a < i
     ·exact (hp.off h).2 a b y q (.inl e) hy hq hr hg
     ·obtain rfl:a=i:=by omega
      rw [hx] at hy;obtain rfl:=Option.some.inj hy
      by_cases e2:k < x.2.2.length
      ·exact (hno (by rw [(hp.off h).1];exact hg) e2).elim
      ·exact (hp.off h).2 a b x q (.inr ⟨rfl,by have:=lt_of_get hq;omega⟩) hx hq hr hg⟩⟩
   refine ⟨fun hlt2=>⟨fun hg=>ret_gI (by omega) hlt2 fun q hq hqm=>?_,fun hg=>⟨skip fun h _=>(by rw [hg] at h;cases h),by omega⟩⟩,fun hge2=>⟨skip fun _ h=>by omega,by omega⟩⟩
   rw [gI_nat] at hq
   have next:(inR l.length q->getB need q=true)->∃ k':Nat,((k+1:Nat):Int)=k'/\k'<=x.2.2.length/\PassM l n0 more need (fun a b=>a < i\/a=i/\b < k'):=fun hh=>
    ⟨k+1,rfl,by omega,hp.len,hp.mono,hp.on,fun h=>⟨(hp.off h).1,fun a b y p hd hy hpp hr hga=>by
     by_cases e:a < i\/a=i/\b < k
     ·exact (hp.off h).2 a b y p e hy hpp hr hga
     ·obtain rfl:a=i:=by omega
      obtain rfl:b=k:=by omega
      rw [hx] at hy;obtain rfl:=Option.some.inj hy
      rw [hq] at hpp;obtain rfl:=Option.some.inj hpp
      rw [<-(hp.off h).1];exact hh hr⟩⟩
   refine ⟨fun hr=>?_,fun hr=>⟨next fun h=>absurd h hr,by omega⟩⟩
   have hql:inR need.length q:=by rw [hp.len];exact hr
   rw [gI_getB hql]
   simp only [wq,reduceCtorEq]
   refine ⟨fun e=>⟨⟨k+1,rfl,by omega,by rw [setI_len];exact hp.len,fun p h1 h2=>?_,fun _=>?_,fun h=>by cases h⟩,by omega⟩,fun e=>⟨next fun _=>e,by omega⟩⟩
   ·rw [getB_set hql h1];split
    ·rfl
    ·exact hp.mono p h1 h2
   ·have:=cntF_set hql e
    have:=hp.le
    omega
  ·refine ⟨⟨hp.len,fun q h1 h2=>hp.mono q h1 (hm q h1 h2),fun h=>?_⟩,?_⟩
   ·obtain ⟨e1,e2⟩:=hp.off h
    rw [e1]
    intro a x q hx hq hr hg
    obtain ⟨k,hkq⟩:=List.getElem?_of_mem hq
    exact e2 a k x q (by have:=lt_of_get hx;omega) hx hkq hr hg
   ·cases more with
    | true=>have:=hp.on rfl;simp only [cond_true];omega
    | false=>simp only [cond_true,cond_false];omega
theorem F21_eq {l:List NodeT} (hn:l.length<=1000) (hk:∀ x∈l,x.2.2.length<=1000) (a b:Int) (ha:inR l.length a) (hb:inR l.length b)
 (hall:∀ m:List Bool,m.length=l.length->getB m a=true->getB m b=true->(∀ (i:Nat) x q,l[i]?=some x->q∈x.2.2->inR l.length q->getB m (i:Int)=true->getB m q=true)->∀ i:Nat,i < l.length->getB m (i:Int)=true) :
 F21 l [a,b]=some (sumN l):=by
 refine Ret.eq ?_
 simp only [F21,wq,reduceCtorEq]
 refine ⟨fun _=>?_,fun h=>absurd h (by omega)⟩
 refine ret_loop (fun q:Int×List Bool=>∃ k:Nat,q.1=k/\k<=2/\q.2.length=l.length/\(0 < k->getB q.2 a=true)/\(1 < k->getB q.2 b=true)) (fun q=>2 - q.1.toNat) ?_ _ ⟨0,rfl,by omega,by simp,(fun h=>by omega),fun h=>by omega⟩
 rintro ⟨_,m⟩ ⟨k,rfl,hk2,hml,h1,h2⟩
 dsimp only at hml h1 h2
 have hw:=wrap_succ k (by omega)
 simp only [L21_1,J21_1,F37_eq,wq,reduceCtorEq,hw]
 refine ⟨fun hlt=>ret_gI (by omega) hlt fun y hy hym=>?_,fun hge=>?_⟩
 ·have hlt':k < 2:=by simp at hlt;omega
  have hyr:inR l.length y/\(k=0->y=a)/\(k=1->y=b):=by
   rw [gI_nat] at hy
   have:k=0\/k=1:=by omega
   rcases this with rfl | rfl
   ·simp at hy;subst hy;exact ⟨ha,fun _=>rfl,fun h=>by omega⟩
   ·simp at hy;subst hy;exact ⟨hb,(fun h=>by omega),fun _=>rfl⟩
  have hyl:inR m.length y:=by rw [hml];exact hyr.1
  simp only [ret_eq hy,gI_getB hyl,wq,reduceCtorEq]
  refine ⟨fun _=>⟨⟨k+1,rfl,by omega,by rw [setI_len];exact hml,fun _=>?_,fun _=>?_⟩,by omega⟩,fun h=>absurd hyr.1 h⟩
  ·rw [getB_set hyl ha.1];split
   ·rfl
   ·rename_i hne
    by_cases e:k=0
    ·exact absurd (hyr.2.1 e).symm hne
    ·exact h1 (by omega)
  ·rw [getB_set hyl hb.1];split
   ·rfl
   ·rename_i hne
    exact absurd (hyr.2.2 (by omega)).symm hne
 ·have hge':2<=k:=by simp at hge;omega
  refine (F50_ok hn hk m hml).mono fun r _ ⟨r1,r2,r3⟩=>?_
  have hr:=hall r r1 (r2 a ha.1 (h1 (by omega))) (r2 b hb.1 (h2 (by omega))) r3
  refine ret_loop (fun q:Int×Int×List Bool=>∃ k:Nat,q=(sumN (l.take k),(k:Int),r)/\k<=l.length) (fun q=>l.length - q.2.1.toNat) ?_ _ ⟨0,by simp [sumN],by omega⟩
  rintro _ ⟨k,rfl,hk⟩
  have hw2:=wrap_succ k (by omega)
  simp only [L21_2,J21_2,wq,reduceCtorEq,hw2]
  refine ⟨fun hlt=>?_,fun hge=>?_⟩
  ·rw [gI_getB (l:=r) (q:=(k:Int)) (by rw [r1];exact ⟨by omega,hlt⟩),hr k (by omega)]
   simp only [wq,reduceCtorEq]
   refine ret_gI (by omega) hlt fun x hx _=>?_
   rw [gI_nat] at hx
   have hb:=sumN_bd (l.take k)
   rw [List.length_take] at hb
   have hc:=(F76_eq x).2.2
   simp only [(F76_eq x).2.1,wq,reduceCtorEq]
   refine ⟨⟨k+1,?_,by omega⟩,by omega⟩
   rw [List.take_add_one,hx,Option.toList_some,sumN_snoc,wrap_id (by omega) (by omega)]
  ·rw [List.take_of_length_le (by omega)]
structure Lst (s:SatT) (ch:List Int):Prop where
 len:ch.length=s.1.length
 at':∀ k,inR s.1.length k->atI ch k=if atI (clsS s) k=k then k else -1
section
variable {s:SatT} (X:Ctx s) (W:Wt s.1) (hst:∀ x∈s.2.1,kopS s.1 x.1=kopS s.1 x.2.1) {ch:List Int} (hL:Lst s ch)
include X W hst
theorem clo_sort {i j:Int} (h:Clo s.1 (pairsOf s) i j):kopS s.1 i=kopS s.1 j:=by
 induction h with
 | pair h1 _ _=>
  obtain ⟨x,hx,e⟩:=List.mem_map.1 h1
  cases e
  exact hst x hx
 | refl=>rfl
 | symm _ ih=>exact ih.symm
 | trans _ _ i1 i2=>exact i1.trans i2
 | cong h1 h2 h3 _ _ _ _ _ _=>
  have e1:=(gI_some h1).2.2
  have e2:=(gI_some h2).2.2
  unfold kopS nodeAt
  rw [e1,e2]
  show opS _=opS _
  rw [Option.getD_some,Option.getD_some,h3]
theorem cls_sort {i:Int} (h:inR s.1.length i):kopS s.1 (atI (clsS s) i)=kopS s.1 i:=
 clo_sort X W hst ((clsS_ok X.h X.v).1.sound _ _ (X.ci.rng h) h (X.ci.r2 i h))
include hL
theorem lst_sel:SelP s ch:=⟨hL.len,fun k hk=>by
 rw [hL.at' k hk]
 split
 ·exact .inr ⟨‹_›,hk,‹_›⟩
 ·exact .inl rfl⟩
theorem lst_at {q:Int} (h:repP s q):atI ch q=q:=by rw [hL.at' q h.1,if_pos h.2]
theorem lst_ed {a b:Int} (h:EdS s ch a b) (ha:repP s a):b < a/\repP s b:=by
 obtain ⟨h1,h2⟩:=h
 rw [lst_at X W hst hL ha] at h2
 have hr:=kidsC_rep X ha.1 h2
 refine ⟨?_,hr⟩
 obtain ⟨k,hk,rfl⟩:=List.mem_map.1 h2
 have hx:s.1[a.toNat]?=some (nodeAt s.1 a):=(gI_some (nodeAt_get ha.1)).2.2
 have:=(W _ _ hx).lt k hk
 have hc:=X.ci.r1 k (X.kids.r _ (nodeAt_mem ha.1) k hk)
 have:=ha.1.1
 omega
theorem lst_pth {a b:Int} (h:PthS s ch a b) (ha:repP s a):b<=a/\repP s b:=by
 induction h with
 | refl=>exact ⟨Int.le_refl _,ha⟩
 | snoc _ e ih=>
  obtain ⟨h1,h2⟩:=ih
  obtain ⟨h3,h4⟩:=lst_ed X W hst hL e h2
  exact ⟨by omega,h4⟩
theorem lst_nobad:¬ BadS s ch:=by
 rintro ⟨q,hq,h⟩
 have hr:=RS.rep X (lst_sel X W hst hL) hq
 rcases h with h | ⟨p,e,hp⟩
 ·rw [lst_at X W hst hL hr] at h;have:=hr.1.1;omega
 ·obtain ⟨h1,h2⟩:=lst_ed X W hst hL e hr
  have:=(lst_pth X W hst hL hp h2).1
  omega
variable {vs:List Int} (hv:PoR s ch vs)
include hv
theorem gr_wt:Wt (grS s ch vs).2.2.1:=by
 intro i x hx
 have hx':(vs.map (newN s ch vs))[i]?=some x:=hx
 rw [List.getElem?_map] at hx'
 cases hq:vs[i]? with
 | none=>rw [hq] at hx';cases hx'
 | some q=>
  rw [hq] at hx'
  obtain rfl:=(Option.some.inj hx').symm
  have hm:=List.mem_of_getElem? hq
  obtain ⟨hrep,hse,hkids⟩:=hv.sel q hm
  have hqq:=lst_at X W hst hL hrep
  have hn:s.1[q.toNat]?=some (nodeAt s.1 q):=(gI_some (nodeAt_get hrep.1)).2.2
  have hW:=W _ _ hn
  have hpi:posI vs q=i:=by
   obtain ⟨h1,h2⟩:=List.getElem?_eq_some_iff.1 hq
   unfold posI
   rw [<-h2,List.Nodup.idxOf_getElem hv.nd]
  refine ⟨?_,?_,?_,?_⟩
  ·show opG (nodeAt s.1 (atI ch q)).1;rw [hqq];exact hW.op
  ·show immM (nodeAt s.1 (atI ch q)).1 (nodeAt s.1 (atI ch q)).2.1=true;rw [hqq];exact hW.im
  ·show ((kidsC s (atI ch q)).map (posI vs)).map (kopS _)=ksG (nodeAt s.1 (atI ch q)).1
   rw [hqq] at hkids |-
   rw [<-hW.ks]
   unfold kidsC
   rw [List.map_map,List.map_map]
   refine List.map_congr_left fun k hk=>?_
   have hkr:=X.kids.r _ (nodeAt_mem hrep.1) k hk
   have hpm:atI (clsS s) k∈kidsC s q:=List.mem_map.2 ⟨k,hk,rfl⟩
   obtain ⟨p1,p2⟩:=hkids _ hpm
   show kopS (grS s ch vs).2.2.1 (posI vs (atI (clsS s) k))=_
   unfold kopS
   rw [grS_at p1]
   show opS (nodeAt s.1 (atI ch (atI (clsS s) k))).1=_
   rw [lst_at X W hst hL (hv.sel _ p1).1]
   exact cls_sort X W hst hkr
  ·intro k hk
   obtain ⟨p,hp,rfl⟩:=List.mem_map.1 hk
   obtain ⟨p1,p2⟩:=hkids p hp
   exact ⟨posI_nn _ _,by omega⟩
theorem gr_nd:(grS s ch vs).2.2.1.Nodup:=by
 show (vs.map (newN s ch vs)).Pairwise _
 rw [List.pairwise_map]
 refine List.Pairwise.imp_of_mem (fun {a b} ha hb hne e=>hne ?_) hv.nd
 obtain ⟨a1,a2,a3⟩:=hv.sel a ha
 obtain ⟨b1,b2,b3⟩:=hv.sel b hb
 have ea:=lst_at X W hst hL a1
 have eb:=lst_at X W hst hL b1
 unfold newN at e
 rw [ea,eb] at e
 rw [ea] at a3
 rw [eb] at b3
 obtain ⟨e1,e2⟩:=Prod.mk.inj e
 obtain ⟨e2,e3⟩:=Prod.mk.inj e2
 have hkk:kidsC s a=kidsC s b:=by
  have inj:∀ (l r:List Int),(∀ p∈l,p∈vs)->(∀ p∈r,p∈vs)->l.map (posI vs)=r.map (posI vs)->l=r:=by
   intro l
   induction l with
   | nil=>intro r _ _ h;cases r with | nil=>rfl | cons _ _=>cases h
   | cons p l ih=>
    intro r hl hr h
    cases r with
    | nil=>cases h
    | cons p' r=>
     obtain ⟨h1,h2⟩:=List.cons.inj h
     have hp:p=p':=by
      have q1:=List.getElem_idxOf (List.idxOf_lt_length_iff.2 (hl p (by simp)))
      have q2:=List.getElem_idxOf (List.idxOf_lt_length_iff.2 (hr p' (by simp)))
      have:vs.idxOf p=vs.idxOf p':=by unfold posI at h1;omega
      rw [<-q1,<-q2]
      simp only [this]
     rw [hp,ih r (fun x hx=>hl x (List.mem_cons_of_mem _ hx)) (fun x hx=>hr x (List.mem_cons_of_mem _ hx)) h2]
  exact inj _ _ (fun p hp=>(a3 p hp).1) (fun p hp=>(b3 p hp).1) e3
 have hc:CongC s.1.length (clsS s) (nodeAt s.1 a) (nodeAt s.1 b):=congC_of_map (X.kids.r _ (nodeAt_mem a1.1)) (X.kids.r _ (nodeAt_mem b1.1)) e1 e2 hkk
 have:=(clsS_ok X.h X.v).1.comp.cong a b _ _ (nodeAt_get a1.1) (nodeAt_get b1.1) hc
 rw [a1.2,b1.2] at this
 exact this
theorem gr_pos {q:Int} (h:q∈vs):inR (grS s ch vs).2.2.1.length (posI vs q)/\kopS (grS s ch vs).2.2.1 (posI vs q)=kopS s.1 q:=by
 refine ⟨⟨posI_nn _ _,by have:=posI_lt h;simp [grS];exact this⟩,?_⟩
 unfold kopS
 rw [grS_at h]
 show opS (nodeAt s.1 (atI ch q)).1=_
 rw [lst_at X W hst hL (hv.sel q h).1]
theorem gr_wf:wfB (grS s ch vs)=true:=by
 have hWt:=gr_wt X W hst hL hv
 have hop:∀ x∈(grS s ch vs).2.2.1,opG x.1:=fun x hx=>by
  obtain ⟨i,hi⟩:=List.getElem?_of_mem hx
  exact (hWt i x hi).op
 have hsort:∀ q∈vs,sortI (sortsN (grS s ch vs).2.2.1 (grS s ch vs).2.2.1.length) (posI vs q)=kopS s.1 q:=fun q hq=>by
  obtain ⟨h1,h2⟩:=gr_pos X W hst hL hv hq
  unfold sortI
  rw [sortsN_len,if_pos h1,wt_sort hWt h1,h2]
 have e1:=X.v.va1
 have e2:=X.v.st2
 rw [wt_sort W X.v.va] at e1
 rw [wt_sort W X.v.st] at e2
 have nodp:∀ (i:Nat) (j:Int),¬ Dp (grS s ch vs).2.2.1 i j:=fun i j h=>by
  induction h with
  | var h1 h2=>exact (hop _ (List.mem_of_getElem? h1)).2.2.1 h2
  | kid _ _ _ _ ih=>exact ih
 rw [wfB_iff]
 refine ⟨wt_good hWt (gr_nd X W hst hL hv),?_,?_,fun i k _ x y hx _ h31=>?_,fun x hx h3=>absurd h3 (hop x hx).2.2.1,fun j _ _=>⟨nodp _ _,nodp _ _⟩⟩
 ·show sortI _ (posI vs (atI (clsS s) s.2.2.2.1))=1
  rw [hsort _ hv.va,cls_sort X W hst X.v.va,e1]
 ·show sortI _ (posI vs (atI (clsS s) s.2.2.2.2.1))=2
  rw [hsort _ hv.st,cls_sort X W hst X.v.st,e2]
 ·have:=(hop x (List.mem_of_getElem? hx)).2.1;omega
theorem gr_cost:F21 (grS s ch vs).2.2.1 [(grS s ch vs).2.2.2.1,(grS s ch vs).2.2.2.2]=some (sumN (grS s ch vs).2.2.1):=by
 have hG:=grS_G X (lst_sel X W hst hL) hv
 have hlen:(grS s ch vs).2.2.1.length<=1000:=by have:=hv.len;have:=X.n;simp [grS];omega
 refine F21_eq hlen hG.k _ _ (gr_pos X W hst hL hv hv.va).1 (gr_pos X W hst hL hv hv.st).1 fun m hm h1 h2 hc i hi=>?_
 have all:∀ q,RS s ch q->getB m (posI vs q)=true:=fun q hq=>by
  induction hq with
  | val=>exact h1
  | st=>exact h2
  | step h e ih=>
   rename_i q p
   have hqm:=rs_vs hv h
   have hpm:=((hv.sel q hqm).2.2 p e.2).1
   have hx:=(gI_some (nodeAt_get (gr_pos X W hst hL hv hqm).1)).2.2
   refine hc _ _ (posI vs p) hx ?_ (gr_pos X W hst hL hv hpm).1 ?_
   ·rw [grS_at hqm];exact List.mem_map.2 ⟨p,e.2,rfl⟩
   ·rw [show (((posI vs q).toNat:Nat):Int)=posI vs q by have:=posI_nn vs q;omega];exact ih
 have hiv:i < vs.length:=by simp [grS] at hi;exact hi
 have:=all vs[i] (hv.rs _ (List.getElem_mem hiv))
 unfold posI at this
 rwa [List.Nodup.idxOf_getElem hv.nd] at this
end
theorem selectionLeast_plain (l pairs:List Int) (hl:∀ x∈l,I64 x):F4 l pairs=some true:=by
 refine Ret.eq ?_
 simp only [F4,wq,reduceCtorEq]
 refine (F9_ok l pairs hl).mono fun s _ hq=>?_
 have h:=MerQ.satH hq
 have hn:s.1.length<=900:=by have:=hq.1.len;omega
 obtain ⟨hg,hv,hst⟩:=mer_valid hl hq
 have X:Ctx s:=⟨h,hv,hn⟩
 have hcl:=X.clen
 simp only [F13_eq s h,validB_true hv,cond_true,wq,reduceCtorEq,hcl,Int.toNat_natCast]
 refine ⟨fun _=>?_,fun h=>absurd h (by omega)⟩
 refine ret_loop (fun q:Int×List Int=>∃ (k:Nat) (ch:List Int),q=((k:Int),ch)/\k<=s.1.length/\ch.length=s.1.length/\∀ j,inR s.1.length j->j < k->atI ch j=if atI (clsS s) j=j then j else -1) (fun q=>s.1.length - q.1.toNat) ?_ _ ⟨0,_,rfl,by omega,by simp,fun j h1 h2=>by have:=h1.1;omega⟩
 rintro _ ⟨k,ch,rfl,hk,hchl,hch⟩
 have hw:=wrap_succ k (by omega)
 simp only [L4_1,J4_1,wq,reduceCtorEq,hcl,hw]
 refine ⟨fun hlt=>?_,fun hge=>?_⟩
 ·have hkr:inR s.1.length (k:Int):=⟨by omega,hlt⟩
  have hkc:inR ch.length (k:Int):=by rw [hchl];exact hkr
  have hks:inR (setI ch (k:Int) (-1)).length (k:Int):=by rw [setI_len];exact hkc
  simp only [gI_inR hkc,gI_inR hks,X.cget hkr,wq,reduceCtorEq]
  refine ⟨fun e=>⟨⟨k+1,_,rfl,by omega,by rw [setI_len,setI_len];exact hchl,fun j h1 h2=>?_⟩,by omega⟩,fun e=>⟨⟨k+1,_,rfl,by omega,by rw [setI_len];exact hchl,fun j h1 h2=>?_⟩,by omega⟩⟩
  ·rw [atI_set hks h1.1]
   split
   ·subst ‹j=_›;rw [if_pos e]
   ·rw [atI_set hkc h1.1,if_neg ‹_›];exact hch j h1 (by omega)
  ·rw [atI_set hkc h1.1]
   split
   ·subst ‹j=_›;rw [if_neg e]
   ·exact hch j h1 (by omega)
 ·have hL:Lst s ch:=⟨hchl,fun j hj=>hch j hj (by have:=hj.2;omega)⟩
  have hs:=lst_sel X hg.wt hst hL
  obtain ⟨q,eq,r,er,hr,rfl⟩:=F27_ok h hn ch
  rcases hr with ⟨hno,_⟩ | ⟨_,_,⟨hb,_⟩ | ⟨vs,hvs,rfl⟩⟩
  ·exact absurd ⟨hv,hs⟩ hno
  ·exact absurd hb (lst_nobad X hg.wt hst hL)
  ·rw [gr_wf X hg.wt hst hL hvs,cond_true] at er eq
   rw [F18_eq h hn,er]
   simp only [wq,reduceCtorEq]
   rw [F19_eq h hn,eq]
   simp only [wq,reduceCtorEq,F20_eq _ (grS_G X hs hvs).toGraphH,gr_wf X hg.wt hst hL hvs,gr_cost X hg.wt hst hL hvs,J4_2]
   have hlen:(grS s ch vs).2.2.1.length<=s.1.length:=by have:=hvs.len;simp [grS];exact this
   exact ⟨fun _=>⟨true,rfl,rfl⟩,fun h=>by omega⟩
theorem selectionLeast_law (x0 x1:List Int) (_:x0.length<=9223372036854775807) (hw0:∀ x∈x0,I64 x) (_:x1.length<=9223372036854775807) (_:∀ x∈x1,I64 x):F4 x0 x1=some true:=
 selectionLeast_plain x0 x1 hw0
end Go.Dat
